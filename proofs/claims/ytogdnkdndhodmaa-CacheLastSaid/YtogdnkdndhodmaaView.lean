/- Walks: which tiles may be (some of the coarsest cells). -/
import Derived.Test.YtogdnkdndhodmaaPow
namespace Go.Proofs.Ytogdnkdndhodmaa
open Go.RowKit Go.Sort

theorem pow_12 (w : World) :
    Calls Try.prog 34 #[.int .i64 7, .int .i64 12] w fun e w' => e = .returned (.tuple #[.int .i64 13841287201, .bool true]) ∧ Below w.heap.size w w' := by
  have h := pow_any 12 (by omega) w
  rw [show ((pow7 12 : Nat) : Int) = 13841287201 from rfl] at h
  exact h

set_option maxHeartbeats 1000000 in
theorem is_yes (z x : Nat) (hz : (z = 0 ∧ x < 1) ∨ (z = 1 ∧ x < 2) ∨ (z = 6 ∧ x < 64)) (w : World) :
    Calls Try.prog 19 #[.agg #[.int .i64 z, .int .i64 x, .int .i64 0, .int .i64 0]] w fun e w' => e = .returned (.bool true) ∧ Below w.heap.size w w' := by
  rcases hz with ⟨rfl, hx⟩ | ⟨rfl, hx⟩ | ⟨rfl, hx⟩
  all_goals
    go_enter Try.func19, Try.ntmps19
    go_wp2_with fail
    go_ret
    exact ⟨rfl, (by repeat (first | (with_reducible exact Below.refl _ _) | (with_reducible assumption) | (with_reducible refine kept_alloc ?_ _) | (with_reducible refine kept_drew ?_) | (with_reducible refine kept_drewN ?_ _) | ((with_reducible refine kept_set ?_ _ ?_); rotate_left; (focus first | omega | (simp; done) | (simp; omega))) | ((with_reducible refine kept_trans ?_ (by assumption)))))⟩

set_option maxHeartbeats 1000000 in
theorem unit_of (z x : Nat) (hz : (z = 0 ∧ x < 1) ∨ (z = 1 ∧ x < 2) ∨ (z = 6 ∧ x < 64)) (w : World) :
    Calls Try.prog 30 #[.agg #[.int .i64 z, .int .i64 x, .int .i64 0, .int .i64 0]] w fun e w' => e = .returned (.int .i64 (2 ^ (18 - z) : Nat)) ∧ Below w.heap.size w w' := by
  rcases hz with ⟨rfl, hx⟩ | ⟨rfl, hx⟩ | ⟨rfl, hx⟩
  all_goals
    go_enter Try.func30, Try.ntmps30
    go_wp2_with fail
    go_ret
    exact ⟨by simp, (by repeat (first | (with_reducible exact Below.refl _ _) | (with_reducible assumption) | (with_reducible refine kept_alloc ?_ _) | (with_reducible refine kept_drew ?_) | (with_reducible refine kept_drewN ?_ _) | ((with_reducible refine kept_set ?_ _ ?_); rotate_left; (focus first | omega | (simp; done) | (simp; omega))) | ((with_reducible refine kept_trans ?_ (by assumption)))))⟩

set_option maxHeartbeats 1000000 in
theorem width_0  (w : World) :
    Calls Try.prog 29 #[.int .i64 0] w fun e w' => e = .returned (.tuple #[.int .i64 2339177536969, .bool true]) ∧ Below w.heap.size w w' := by
  go_enter Try.func29, Try.ntmps29
  go_wp2_with fail
  go_in
  go_wp2_with fail
  refine (pow_12 _).mono ?_
  rintro e w1 ⟨rfl, hb1⟩
  obtain ⟨hc1, hf1⟩ := bcell hb1
  have hz1 := hb1.size
  try simp at hz1
  try have l1_0_0 : w.heap.size < w1.heap.size := by omega
  try have l1_0_1 : w.heap.size + 1 < w1.heap.size := by omega
  try have l1_0_2 : w.heap.size + 2 < w1.heap.size := by omega
  try have l1_0_3 : w.heap.size + 3 < w1.heap.size := by omega
  go_wp2_with fail
  go_ret2
  exact ⟨rfl, (by repeat (first | (with_reducible exact Below.refl _ _) | (with_reducible assumption) | (with_reducible refine kept_alloc ?_ _) | (with_reducible refine kept_drew ?_) | (with_reducible refine kept_drewN ?_ _) | ((with_reducible refine kept_set ?_ _ ?_); rotate_left; (focus first | omega | (simp; done) | (simp; omega))) | ((with_reducible refine kept_trans ?_ (by assumption)))))⟩

theorem fine_num (z x : Nat) (hz : (z = 0 ∧ x < 1) ∨ (z = 1 ∧ x < 2) ∨ (z = 6 ∧ x < 64)) : ((2 ^ (18 - z) : Nat) : Int) ≤ 262144 ∧ 4096 ≤ ((2 ^ (18 - z) : Nat) : Int) ∧ 16 * ((2 ^ (18 - z) : Nat) : Int) * ((2 ^ (18 - z) : Nat) : Int) ≤ 2339177536969 := by
  rcases hz with ⟨rfl, _⟩ | ⟨rfl, _⟩ | ⟨rfl, _⟩ <;> decide

set_option maxHeartbeats 1000000 in
theorem fine_no (z x : Nat) (hz : (z = 0 ∧ x < 1) ∨ (z = 1 ∧ x < 2) ∨ (z = 6 ∧ x < 64)) (w : World) :
    Calls Try.prog 20 #[.agg #[.int .i64 z, .int .i64 x, .int .i64 0, .int .i64 0]] w fun e w' => e = .returned (.bool false) ∧ Below w.heap.size w w' := by
  go_enter Try.func20, Try.ntmps20
  go_wp2_with fail
  refine (width_0 _).mono ?_
  rintro e w1 ⟨rfl, hb1⟩
  obtain ⟨hc1, hf1⟩ := bcell hb1
  have hz1 := hb1.size
  try simp at hz1
  try have l1_0_0 : w.heap.size < w1.heap.size := by omega
  try have l1_0_1 : w.heap.size + 1 < w1.heap.size := by omega
  try have l1_0_2 : w.heap.size + 2 < w1.heap.size := by omega
  try have l1_0_3 : w.heap.size + 3 < w1.heap.size := by omega
  go_wp2_with fail
  have k1 := is_yes z x hz
  have k2 := unit_of z x hz
  have K1 := Lib.hid k1
  have K2 := Lib.hid k2
  clear k1 k2
  have hn := fine_num z x hz
  generalize ((2 ^ (18 - z) : Nat) : Int) = u at hn K2
  clear hz
  have hd : decide (2339177536969 < 16 * u * u) = false := by simp; omega
  have D := Lib.hid hd
  clear hd
  have h1 : 0 ≤ 16 * u * u := Int.mul_nonneg (by omega) (by omega)
  obtain ⟨n1, n2, n3⟩ := hn
  refine wp_region_quiet_below (by kernel_rfl) (by kernel_rfl) ?_
  repeat quiet_step ((first | (go_at_call 19; refine Calls.regrown_of (K1.out _)) | (go_at_call 30; refine Calls.regrown_of (K2.out _))))
  refine wpQuiet_nil ?_
  rintro w2 hp2
  have hb2 := below_of hp2
  obtain ⟨hc2, hf2⟩ := bcell hb2
  have hz2 := hb2.size
  try simp at hz2
  clear hp2
  try have l2_0_0 : w.heap.size < w2.heap.size := by omega
  try have l2_0_1 : w.heap.size + 1 < w2.heap.size := by omega
  try have l2_0_2 : w.heap.size + 2 < w2.heap.size := by omega
  try have l2_0_3 : w.heap.size + 3 < w2.heap.size := by omega
  try have l2_1 : w1.heap.size < w2.heap.size := by omega
  go_wp2_with fail
  go_ret
  refine ⟨?_, (by repeat (first | (with_reducible exact Below.refl _ _) | (with_reducible assumption) | (with_reducible refine kept_alloc ?_ _) | (with_reducible refine kept_drew ?_) | (with_reducible refine kept_drewN ?_ _) | ((with_reducible refine kept_set ?_ _ ?_); rotate_left; (focus first | omega | (simp; done) | (simp; omega))) | ((with_reducible refine kept_trans ?_ (by assumption)))))⟩
  show Ending.returned (.bool (decide (2339177536969 < IntKind.i64.wrap (IntKind.i64.wrap (16 * u) * u)))) = _
  rw [IntWalk.i64_in (16 * u) (by omega), IntWalk.i64_in (16 * u * u) (by omega), D.out]

set_option maxHeartbeats 1000000 in
theorem tile_ok (z x : Nat) (hz : (z = 0 ∧ x < 1) ∨ (z = 1 ∧ x < 2) ∨ (z = 6 ∧ x < 64)) (w : World) :
    Calls Try.prog 11 #[.agg #[.int .i64 z, .int .i64 x, .int .i64 0, .int .i64 0]] w fun e w' => e = .returned (.int .i64 0) ∧ Below w.heap.size w w' := by
  go_enter Try.func11, Try.ntmps11
  go_wp2_with fail
  refine (is_yes z x hz _).mono ?_
  rintro e w1 ⟨rfl, hb1⟩
  obtain ⟨hc1, hf1⟩ := bcell hb1
  have hz1 := hb1.size
  try simp at hz1
  try have l1_0_0 : w.heap.size < w1.heap.size := by omega
  try have l1_0_1 : w.heap.size + 1 < w1.heap.size := by omega
  try have l1_0_2 : w.heap.size + 2 < w1.heap.size := by omega
  try have l1_0_3 : w.heap.size + 3 < w1.heap.size := by omega
  go_wp2_with fail
  refine (fine_no z x hz _).mono ?_
  rintro e w2 ⟨rfl, hb2⟩
  obtain ⟨hc2, hf2⟩ := bcell hb2
  have hz2 := hb2.size
  try simp at hz2
  try have l2_0_0 : w.heap.size < w2.heap.size := by omega
  try have l2_0_1 : w.heap.size + 1 < w2.heap.size := by omega
  try have l2_0_2 : w.heap.size + 2 < w2.heap.size := by omega
  try have l2_0_3 : w.heap.size + 3 < w2.heap.size := by omega
  try have l2_1 : w1.heap.size < w2.heap.size := by omega
  go_wp2_with fail
  go_ret
  exact ⟨rfl, (by repeat (first | (with_reducible exact Below.refl _ _) | (with_reducible assumption) | (with_reducible refine kept_alloc ?_ _) | (with_reducible refine kept_drew ?_) | (with_reducible refine kept_drewN ?_ _) | ((with_reducible refine kept_set ?_ _ ?_); rotate_left; (focus first | omega | (simp; done) | (simp; omega))) | ((with_reducible refine kept_trans ?_ (by assumption)))))⟩


end Go.Proofs.Ytogdnkdndhodmaa

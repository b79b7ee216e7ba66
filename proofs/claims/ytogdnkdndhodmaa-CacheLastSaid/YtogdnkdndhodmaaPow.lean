/- Walks: powers of seven. -/
import Derived.Test.YtogdnkdndhodmaaProg
import Derived.Test.YtogdnkdndhodmaaShelf
import Derived.Test.YtogdnkdndhodmaaReg
namespace Go.Proofs.Ytogdnkdndhodmaa
open Go.RowKit Go.Sort

set_option maxHeartbeats 400000 in
theorem mul7 (n : Nat) (w : World) (hn : n ≤ 1000000000000) :
    Calls Try.prog 46 #[.int .i64 n, .int .i64 7] w fun e w' => e = .returned (.tuple #[.int .i64 (n * 7), .bool true]) ∧ w = w' := by
  have hm := Try.bits_Mul64 n 7 (by omega) (by omega)
  have e1 : ((n * 7 / 18446744073709551616 : Nat) : Int) = 0 := by omega
  have e2 : ((n * 7 % 18446744073709551616 : Nat) : Int) = n * 7 := by omega
  rw [e1, e2] at hm
  clear e1 e2
  have h1 : (0 : Int) ≤ n * 7 := by omega
  have h2 : (n : Int) * 7 ≤ 7000000000000 := by omega
  go_enter Try.func46, Try.ntmps46
  go_wp2_with fail
  go_in
  go_wp2_with fail
  go_in
  go_wp2_with fail
  refine (hm _).mono ?_
  rintro e w' ⟨rfl, rfl⟩
  go_wp2_with fail
  go_ret2
  exact ⟨rfl, rfl⟩

/-- The power of seven, in a loop: what the three captured variables hold. -/
def pow7 : Nat → Nat
  | 0 => 1
  | k + 1 => pow7 k * 7

theorem pow7_bd (k : Nat) (h : k ≤ 12) : pow7 k ≤ 13841287201 ∧ 1 ≤ pow7 k := by
  have : ∀ j : Fin 13, pow7 j ≤ 13841287201 ∧ 1 ≤ pow7 j := by decide
  exact this ⟨k, by omega⟩

set_option maxHeartbeats 1000000 in
theorem pow_any (k : Nat) (hk : k ≤ 12) (w : World) :
    Calls Try.prog 34 #[.int .i64 7, .int .i64 k] w fun e w' => e = .returned (.tuple #[.int .i64 (pow7 k), .bool true]) ∧ Below w.heap.size w w' := by
  go_enter Try.func34, Try.ntmps34
  go_wp2_with fail
  go_loopw [1] (fun i wr => ∃ j : Nat, j ≤ k ∧ i = .int .i64 ((k : Int) - j) ∧ Below w.heap.size w wr ∧ w.heap.size + 2 < wr.heap.size ∧
      wr.cell? ⟨w.heap.size, 0, none⟩ = some (.int .i64 7) ∧ wr.cell? ⟨w.heap.size + 1, 0, none⟩ = some (.int .i64 (pow7 j)) ∧ wr.cell? ⟨w.heap.size + 2, 0, none⟩ = some (.bool true) ∧
      wr.frozen? ⟨w.heap.size + 1, 0, none⟩ = false ∧ wr.frozen? ⟨w.heap.size + 2, 0, none⟩ = false)
    (fun i _ => (intOf i).toNat)
  case atStart =>
    refine ⟨0, Nat.zero_le _, by simp, ?_, ?_, ?_, ?_, ?_, ?_, ?_⟩
    · exact kept_alloc (kept_alloc (kept_alloc (Below.refl _ _) _) _) _
    · simp
    all_goals go_simp
    all_goals simp [pow7]
  case round =>
    obtain ⟨j, hj, rfl, hb, hs, c0, c1, c2, f1, f2⟩ := hrel
    by_cases hlt : j < k
    · have b0 := pow7_bd j (by omega)
      have b1 := pow7_bd (j + 1) (by omega)
      have hp : (0 : Int) < (k : Int) - j := by omega
      go_wp2_with fail
      go_in
      go_wp2_with (go_at_call 46; refine (mul7 _ _ (by omega)).mono ?_; rintro e w' ⟨rfl, rfl⟩)
      go_end0
      go_wp2_with fail
      go_roundw
      case rel =>
        refine ⟨j + 1, by omega, by simp; omega, kept_set (kept_set hb _ (by simp)) _ (by simp; omega), by simp; omega, ?_, ?_, ?_, ?_, ?_⟩
        all_goals go_simp
        simp [pow7]
      case measure => simp [intOf]; omega
    · obtain rfl : j = k := by omega
      have h0 : (j : Int) - j = 0 := by omega
      go_wp2_with fail
      go_quiet (fail)
      go_wp2_with fail
      go_ret2
      exact ⟨rfl, kept_drewN hb _⟩

end Go.Proofs.Ytogdnkdndhodmaa

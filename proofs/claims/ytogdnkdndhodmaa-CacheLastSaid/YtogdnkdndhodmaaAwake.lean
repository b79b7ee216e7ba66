/- Walks: awake. -/
import Derived.Test.YtogdnkdndhodmaaCacN
import Derived.Test.YtogdnkdndhodmaaView
import Derived.Lib.SlBytesConst
namespace Go.Proofs.Ytogdnkdndhodmaa
open Go.RowKit Go.Sort

theorem ok_z (z x : Nat) (hz : (z = 0 ∧ x < 1) ∨ (z = 1 ∧ x < 2) ∨ (z = 6 ∧ x < 64)) : OkT ⟨z, 0, x, 0⟩ := fun w => tile_ok z x hz w

/-- The first entries of a new cache: none. -/
def noE : Nat → Ent := fun _ => ⟨0, ⟨0, 0, 0, 0⟩, [], 0⟩

theorem cacN_New (k : Nat) (hk : k ≤ 1000) (w : World) :
    Calls Try.prog 5 #[.int .i64 k] w fun r w' => ∃ bc, r = .returned (.pointer (some ⟨bc, 0, none⟩)) ∧ CacN (fun _ => False) w bc k 0 0 noE w' := by
  refine (cac_New k hk w).mono ?_
  rintro r w1 ⟨rfl, hb, hc⟩
  exact ⟨_, rfl, _, _, hc, hb, fun b ob => ⟨Nat.le_of_eq ob.symm, id⟩⟩

set_option maxHeartbeats 4000000 in
set_option maxRecDepth 100000 in
theorem awake_yes (w : World) : Calls Try.prog 6 #[] w fun r w' => r = .returned (.bool true) ∧ Below w.heap.size w w' := by
  go_enter Try.func6, Try.ntmps6
  go_wp2_with fail
  refine (cacN_New 1 (by omega) w).mono ?_
  rintro r w1 ⟨bc, rfl, C⟩
  have cv1 := Lib.run_convert_bytes_const (P := Try.prog) w1 22 5 #[.int .u8 97] 1 1 Try.underlying22 Try.underlying5
  have p1 := cacN_put_new ((C.ext.later (kept_alloc (Below.refl _ _) (.cells #[.int .u8 97] 5 (1, 2)))).mono (X' := fun k => k = w1.heap.size) (fun k e => Or.inr (Nat.le_of_eq e.symm))) (fun k e => by rw [e]; simp)
    (by omega) (by omega) (by omega) (by omega) ⟨0, 0, 0, 0⟩ (ok_z 0 0 (by omega)) (fun i hi => absurd hi (by omega)) 1 rfl w1.heap.size 1 rfl [97] (by simp) (by simp) (fun i hi => by
      have : i = 0 := by simpa using hi
      subst this; rw [cell_of_heap (heap_alloc_new w1 _)]; rfl)
  simp only [Tl.val, List.length_singleton] at p1
  go_wp2_with fail
  refine p1.mono ?_
  rintro r w2 ⟨rfl, p, C2, _⟩
  clear p1 cv1 C
  rw [if_neg (by omega), if_neg (by omega)] at C2
  obtain ⟨y1, hy1⟩ : ∃ y : Ent, y = ⟨p, ⟨0, 0, 0, 0⟩, [97].map (Value.int .u8), ((1 : Nat) : Int)⟩ := ⟨_, rfl⟩
  rw [← hy1, upH, dif_pos rfl] at C2
  have e1 : ∀ i, i < 0 + 1 → putE noE 0 y1 i = y1 := fun i hi => by
    obtain rfl : i = 0 := by omega
    rfl
  have cv2 := Lib.run_convert_bytes_const (P := Try.prog) w2 22 5 #[.int .u8 98] 1 1 Try.underlying22 Try.underlying5
  have p2 := cacN_put_new ((C2.ext.later (kept_alloc (Below.refl _ _) (.cells #[.int .u8 98] 5 (1, 2)))).mono (X' := fun k => k = w2.heap.size) (fun k e => Or.inr (Nat.le_of_eq e.symm))) (fun k e => by rw [e]; simp)
    (by omega) (by omega) (by omega) (by omega) ⟨1, 0, 0, 0⟩ (ok_z 1 0 (by omega)) (fun i hi => by rw [e1 i hi, hy1]; intro h; cases h) 2 rfl w2.heap.size 1 rfl [98] (by simp) (by simp) (fun i hi => by
      have : i = 0 := by simpa using hi
      subst this; rw [cell_of_heap (heap_alloc_new w2 _)]; rfl)
  simp only [Tl.val, List.length_singleton] at p2
  go_wp2_with fail
  refine p2.mono ?_
  rintro r w3 ⟨rfl, p', C3, _⟩
  clear p2 cv2 C2
  rw [if_pos (by omega), if_pos (by omega)] at C3
  obtain ⟨y2, hy2⟩ : ∃ y : Ent, y = ⟨p', ⟨1, 0, 0, 0⟩, [98].map (Value.int .u8), ((2 : Nat) : Int)⟩ := ⟨_, rfl⟩
  rw [← hy2] at C3
  have k1 : y1.k = 1 := by rw [hy1]; rfl
  have k2 : y2.k = 2 := by rw [hy2]; rfl
  have e3 : ∀ i, i < 1 → popH Ent.k (0 + 1) (upH Ent.k (putE (putE noE 0 y1) (0 + 1) y2) (0 + 1)) i = y2 := fun i hi => by
    obtain rfl : i = 0 := by omega
    have u1 : upH Ent.k (putE (putE noE 0 y1) 1 y2) 1 = putE (putE noE 0 y1) 1 y2 := by
      rw [upH, dif_neg (by omega), if_neg]
      simp [putE, k1, k2]
    simp only [Nat.zero_add, u1, popH]
    rw [downH, dif_neg (by omega)]
    simp [swp, putE]
  generalize popH Ent.k (0 + 1) (upH Ent.k (putE (putE noE 0 y1) (0 + 1) y2) (0 + 1)) = E at C3 e3
  have g1 := cacN_get (C3.mono (X' := fun _ => False) (fun _ => False.elim)) (fun _ => False.elim) (by omega) (by omega) ⟨1, 0, 0, 0⟩ (fun j hj => ⟨[98], by rw [e3 j (by omega), hy2], by simp, by simp⟩)
  simp only [Tl.val] at g1
  go_wp2_with fail
  refine g1.mono ?_
  clear g1
  rintro x w4 (⟨_, hno, _⟩ | ⟨i, u, hi, ht, rfl, C4, _, hu⟩)
  · exact absurd (by rw [e3 0 (by omega), hy2]) (hno 0 (by omega))
  obtain rfl : i = 0 := by omega
  rw [e3 0 (by omega)] at hu
  have e4 : ∀ i, i < 1 → (fixH Ent.k 1 (setK E 0 ((2 + 1 : Nat) : Int)) 0 i).t ≠ ⟨0, 0, 0, 0⟩ := fun i hi => by
    obtain rfl : i = 0 := by omega
    have d : downH Ent.k 1 (setK E 0 ((2 + 1 : Nat) : Int)) 0 = (setK E 0 ((2 + 1 : Nat) : Int), 0) := by rw [downH, dif_neg (by omega)]
    unfold fixH
    rw [d]
    simp only [Nat.lt_irrefl, if_false]
    rw [upH, dif_pos rfl]
    simp only [setK, if_true, e3 0 (by omega), hy2]
    intro h; cases h
  have e5 : ∀ i, i < 1 → (fixH Ent.k 1 (setK E 0 ((2 + 1 : Nat) : Int)) 0 i).bs = y2.bs := fun i hi => by
    obtain rfl : i = 0 := by omega
    have d : downH Ent.k 1 (setK E 0 ((2 + 1 : Nat) : Int)) 0 = (setK E 0 ((2 + 1 : Nat) : Int), 0) := by rw [downH, dif_neg (by omega)]
    unfold fixH
    rw [d]
    simp only [Nat.lt_irrefl, if_false]
    rw [upH, dif_pos rfl]
    simp only [setK, if_true, e3 0 (by omega)]
  generalize fixH Ent.k 1 (setK E 0 ((2 + 1 : Nat) : Int)) 0 = F at C4 e4 e5
  have hbs2 : y2.bs = [97 + 1].map (Value.int .u8) := by rw [hy2]; rfl
  obtain ⟨ub, uc, ucur, rfl, hub, huh, _, _, _, hut⟩ : ∃ g cap cur, u = .slice (some ⟨g, 0, none⟩) 1 cap ∧ w3.heap.size ≤ g ∧ w4.heap[g]? = some (.cells cur 5 (0, 0)) ∧ 1 ≤ cap ∧ cap ≤ maxLen ∧ cur.size = cap * 1 ∧ cur.toList.take (1 * 1) = y2.bs := by
    rcases hu.2 with ⟨_, h0⟩ | ⟨g, cap, cur, a1, a2, a3, a4, a5, a6, a7⟩
    · rw [hbs2] at h0; simp at h0
    · rw [hbs2] at a1 a4 a7; exact ⟨g, cap, cur, a1, a2, a3, a4, a5, a6, by rw [hbs2]; exact a7⟩
  have uc4 : w4.cell? ⟨ub, 0, none⟩ = some (.int .u8 98) := by
    rw [cell_of_heap huh, ← Array.getElem?_toList]
    have := congrArg (fun l => l[0]?) hut
    rw [hbs2] at this
    simpa [List.getElem?_take] using this
  have ul := World.block_lt_of_cell? _ _ uc4
  clear hu hut huh
  have g2 := cacN_get (C4.mono (X' := fun k => k = ub) (fun k e => Or.inr (by rw [e]; exact hub))) (fun k e => by rw [e]; exact ul) (by omega) (by omega) ⟨0, 0, 0, 0⟩ (fun j hj => ⟨[98], by rw [e5 j (by omega), hy2], by simp, by simp⟩)
  simp only [Tl.val] at g2
  go_wp2_with fail
  refine g2.mono ?_
  clear g2
  rintro x w5 (⟨rfl, _, C5, K5⟩ | ⟨i, u', hi', ht', _⟩)
  rotate_left
  · exact absurd ht' (e4 i (by omega))
  have uc5 := K5.cell rfl uc4
  have hst := run_convert_bytes_arg (P := Try.prog) w5 22 5 Try.underlying22 Try.underlying5 ub 0 1 uc [98] rfl (fun i hi => by
    obtain rfl : i = 0 := by omega
    exact uc5) 9 Try.underlying9
  have hbel := C5.below
  obtain ⟨O, v, C6, _, _⟩ := C5
  have hlen := cac_Len C6
  have hs98 : strOfNums [98] = ⟨#[98]⟩ := by rfl
  rw [hs98] at hst
  clear hs98
  clear C6 C4 C3 K5
  go_wp2_with fail
  refine hlen.mono ?_
  rintro x w6 ⟨rfl, rfl⟩
  clear hlen hst
  go_wp2_with fail
  go_returns
  exact ⟨rfl, hbel⟩

end Go.Proofs.Ytogdnkdndhodmaa

/- The cache's row is what heap asks for. -/
import Derived.Test.YtogdnkdndhodmaaRow
namespace Go.Proofs.Ytogdnkdndhodmaa
open Go.RowKit Go.Sort

theorem load_row (b o : Nat) (v : Value) (w : World) (h : w.cell? ⟨b, o, none⟩ = some v) : (loadVar 36 ⟨b, o, none⟩).run Try.prog w = .ok v w := by
  go_simp

theorem recv_row (name : String) (b o : Nat) (v : Value) (w : World) (h : w.cell? ⟨b, o, none⟩ = some v) : (receiverAt 48 (.val (.pointer (some ⟨b, o, none⟩))) false (some name)).run Try.prog w = .ok v w := by
  have h1 : ∀ w, (underlying 48).run Try.prog w = .ok (.pointer 36) w := fun _ => by kernel_rfl
  have h2 : ∀ w, (Builtin.ssaWrapNilChk_ #[48] 48 #[.pointer (some ⟨b, o, none⟩), strVal "", strVal name]).run Try.prog w = .ok (.pointer (some ⟨b, o, none⟩)) w := fun _ => by kernel_rfl
  simp only [receiverAt, Sem.run_bind, h1, Result.andThen_ok, Place.get, Sem.run_pure, h2, asAddr, load_row b o v w h]

theorem meth_Len (d b o : Nat) (v : Value) (w : World) (h : w.cell? ⟨b, o, none⟩ = some v) : (method (d + 1) 48 (.pointer (some ⟨b, o, none⟩)) "Len").run Try.prog w = .ok (71, v) w := by
  have h3 : (method (d + 1) 48 (.pointer (some ⟨b, o, none⟩)) "Len").run Try.prog w = (receiverAt 48 (.val (.pointer (some ⟨b, o, none⟩))) false (some "Len") >>= fun r => pure (71, r)).run Try.prog w := by kernel_rfl
  rw [h3, Sem.run_bind, recv_row "Len" b o v w h]; rfl
theorem meth_Less (d b o : Nat) (v : Value) (w : World) (h : w.cell? ⟨b, o, none⟩ = some v) : (method (d + 1) 48 (.pointer (some ⟨b, o, none⟩)) "Less").run Try.prog w = .ok (72, v) w := by
  have h3 : (method (d + 1) 48 (.pointer (some ⟨b, o, none⟩)) "Less").run Try.prog w = (receiverAt 48 (.val (.pointer (some ⟨b, o, none⟩))) false (some "Less") >>= fun r => pure (72, r)).run Try.prog w := by kernel_rfl
  rw [h3, Sem.run_bind, recv_row "Less" b o v w h]; rfl
theorem meth_Swap (d b o : Nat) (v : Value) (w : World) (h : w.cell? ⟨b, o, none⟩ = some v) : (method (d + 1) 48 (.pointer (some ⟨b, o, none⟩)) "Swap").run Try.prog w = .ok (73, v) w := by
  have h3 : (method (d + 1) 48 (.pointer (some ⟨b, o, none⟩)) "Swap").run Try.prog w = (receiverAt 48 (.val (.pointer (some ⟨b, o, none⟩))) false (some "Swap") >>= fun r => pure (73, r)).run Try.prog w := by kernel_rfl
  rw [h3, Sem.run_bind, recv_row "Swap" b o v w h]; rfl
theorem meth_Pop (d b o : Nat) (w : World) : (method (d + 1) 48 (.pointer (some ⟨b, o, none⟩)) "Pop").run Try.prog w = .ok (75, .pointer (some ⟨b, o, none⟩)) w := by kernel_rfl
theorem meth_Push (d b o : Nat) (w : World) : (method (d + 1) 48 (.pointer (some ⟨b, o, none⟩)) "Push").run Try.prog w = .ok (76, .pointer (some ⟨b, o, none⟩)) w := by kernel_rfl

theorem call_Len (xs : Array Value) (w : World) : (callFunc 71 xs).run Try.prog w = .ok (.enter 71 xs) w := by kernel_rfl
theorem call_Less (xs : Array Value) (w : World) : (callFunc 72 xs).run Try.prog w = .ok (.enter 72 xs) w := by kernel_rfl
theorem call_Swap (xs : Array Value) (w : World) : (callFunc 73 xs).run Try.prog w = .ok (.enter 73 xs) w := by kernel_rfl
theorem call_Pop (xs : Array Value) (w : World) : (callFunc 75 xs).run Try.prog w = .ok (.enter 75 xs) w := by kernel_rfl
theorem call_Push (xs : Array Value) (w : World) : (callFunc 76 xs).run Try.prog w = .ok (.enter 76 xs) w := by kernel_rfl

/-- A pointer to a block's head. -/
def ptr (b : Nat) : Value := .pointer (some ⟨b, 0, none⟩)

theorem cell_of_heap {w : World} {g j : Nat} {cur : Array Value} {e : TypeId} {fr : Nat × Nat} (h : w.heap[g]? = some (.cells cur e fr)) : w.cell? ⟨g, j, none⟩ = cur[j]? := by
  simp [World.cell?, h]

theorem heap_setCell {w : World} {g j : Nat} {cur : Array Value} {e : TypeId} {fr : Nat × Nat} (h : w.heap[g]? = some (.cells cur e fr)) (v : Value) : (w.setCell ⟨g, j, none⟩ v).heap[g]? = some (.cells (cur.setIfInBounds j v) e fr) := by
  simp [World.setCell, Array.getElem?_modify, h]

theorem heap_setCell_ne {w : World} {g j k : Nat} (hk : k ≠ g) (v : Value) : (w.setCell ⟨g, j, none⟩ v).heap[k]? = w.heap[k]? := by
  have h : ¬ g = k := fun h => hk h.symm
  simp [World.setCell, Array.getElem?_modify, h]

/-- A tile: zoom, resolution, place. -/
structure Tl where
  z : Int
  r : Int
  x : Int
  y : Int
deriving DecidableEq

/-- What is kept of a tile: where it lies, the tile, its bytes, when it was last used. -/
structure Ent where
  p : Nat
  t : Tl
  bs : List Value
  k : Int

/-- The row of pointers in block g stands as a says; all else is as in w0. -/
structure RowS (w0 : World) (g cap n : Nat) (a : Nat → Ent) (w : World) : Prop where
  fr : w0.grownBy w (some g)
  row : ∃ cur, w.heap[g]? = some (.cells cur 45 (0, 0)) ∧ cur.size = cap ∧ ∀ j, j < n → cur[j]? = some (ptr (a j).p)
  ent : ∀ j, j < n → (a j).p ≠ g ∧ w0.cell? ⟨(a j).p, 5, none⟩ = some (.int .i64 (a j).k)

theorem grownBy_refl (w : World) (r : Option Nat) : w.grownBy w r := ⟨rfl, rfl, rfl, Nat.le_refl _, fun _ _ _ => rfl⟩
theorem grownBy_trans {w w1 w2 : World} {r : Option Nat} (h1 : w.grownBy w1 r) (h2 : w1.grownBy w2 r) : w.grownBy w2 r :=
  ⟨h2.os.trans h1.os, h2.tape.trans h1.tape, h2.output.trans h1.output, Nat.le_trans h1.size h2.size, fun k hk hr => (h2.block k (Nat.lt_of_lt_of_le hk h1.size) hr).trans (h1.block k hk hr)⟩
theorem grownBy_below {w w1 : World} {r : Option Nat} (h : Below w.heap.size w w1) : w.grownBy w1 r := ⟨h.os, h.tape, h.output, h.size, fun k hk _ => h.block k hk⟩

theorem grownBy_set2 {w : World} {g : Nat} (i k : Nat) (v u : Value) : w.grownBy ((w.setCell ⟨g, i, none⟩ v).setCell ⟨g, k, none⟩ u).drew (some g) := by
  refine ⟨rfl, rfl, rfl, ?_, ?_⟩
  · simp [World.setCell, World.drew]
  · intro j hj hr
    have hj' : j ≠ g := fun e => hr (by rw [e])
    show ((w.setCell ⟨g, i, none⟩ v).setCell ⟨g, k, none⟩ u).heap[j]? = _
    rw [heap_setCell_ne hj', heap_setCell_ne hj']

theorem RowS.later {w0 w w1 : World} {g cap n : Nat} {a : Nat → Ent} (h : RowS w0 g cap n a w) (hb : Below w.heap.size w w1) : RowS w0 g cap n a w1 := by
  refine ⟨grownBy_trans h.fr (grownBy_below hb), ?_, h.ent⟩
  obtain ⟨cur, h1, h2, h3⟩ := h.row
  exact ⟨cur, (hb.block g (by rw [Array.getElem?_eq_some_iff] at h1; exact h1.1)).trans h1, h2, h3⟩

theorem RowS.swap {w0 w : World} {g cap n : Nat} {a : Nat → Ent} (h : RowS w0 g cap n a w) (i k : Nat) (hi : i < n) (hk : k < n) :
    RowS w0 g cap n (swp a i k) ((w.setCell ⟨g, i, none⟩ (ptr (a k).p)).setCell ⟨g, k, none⟩ (ptr (a i).p)).drew := by
  refine ⟨grownBy_trans h.fr (grownBy_set2 _ _ _ _), ?_, ?_⟩
  · obtain ⟨cur, h1, h2, h3⟩ := h.row
    refine ⟨(cur.setIfInBounds i (ptr (a k).p)).setIfInBounds k (ptr (a i).p), ?_, by simpa using h2, ?_⟩
    · exact heap_setCell (heap_setCell h1 _) _
    · intro j hj
      have hji := h3 j hj
      have hsz : j < cur.size := by
        rw [Array.getElem?_eq_some_iff] at hji; exact hji.1
      have hki : k < cur.size := by
        have := h3 k hk; rw [Array.getElem?_eq_some_iff] at this; exact this.1
      have hii : i < cur.size := by
        have := h3 i hi; rw [Array.getElem?_eq_some_iff] at this; exact this.1
      simp only [Array.getElem?_setIfInBounds, Array.size_setIfInBounds]
      by_cases e1 : k = j
      · subst e1; simp [hki, swp_r]
      · by_cases e2 : i = j
        · subst e2; simp [e1, hii, swp_l]
        · simp only [e1, e2, if_false]
          rw [swp_lo _ _ _ _ (fun e => e2 e.symm) (fun e => e1 e.symm)]; exact hji
  · intro j hj
    unfold swp
    split
    · exact h.ent k hk
    · split
      · exact h.ent i hi
      · exact h.ent j hj

theorem RowS.cell {w0 w : World} {g cap n : Nat} {a : Nat → Ent} (h : RowS w0 g cap n a w) (j : Nat) (hj : j < n) : w.cell? ⟨g, j, none⟩ = some (.pointer (some ⟨(a j).p, 0, none⟩)) := by
  obtain ⟨cur, h1, h2, h3⟩ := h.row
  rw [cell_of_heap h1]; exact h3 j hj

theorem RowS.frozen {w0 w : World} {g cap n : Nat} {a : Nat → Ent} (h : RowS w0 g cap n a w) (j : Nat) : w.frozen? ⟨g, j, none⟩ = false := by
  obtain ⟨cur, h1, h2, h3⟩ := h.row
  simp [World.frozen?, h1]

theorem RowS.used {w0 w : World} {g cap n : Nat} {a : Nat → Ent} (h : RowS w0 g cap n a w) (j : Nat) (hj : j < n) : w.cell? ⟨(a j).p, 5, none⟩ = some (.int .i64 (a j).k) := by
  obtain ⟨h1, h2⟩ := h.ent j hj
  exact h.fr.cell h2 (by intro e; exact h1 (by simpa using e))

theorem row_heap (w0 : World) (bc g cap n : Nat) (hbc : bc ≠ g) (hc : w0.cell? ⟨bc, 2, none⟩ = some (.slice (some ⟨g, 0, none⟩) n cap)) :
    HeapIf 48 (.pointer (some ⟨bc, 2, none⟩)) Ent.k n (RowS w0 g cap n) := by
  have hcell : ∀ a w, RowS w0 g cap n a w → w.cell? ⟨bc, 2, none⟩ = some (.slice (some ⟨g, 0, none⟩) n cap) := fun a w h => h.fr.cell hc (by intro e; exact hbc (by simpa using e))
  refine ⟨?_, ?_, ?_⟩
  · intro a w h
    refine ⟨_, _, fun d => meth_Len d _ _ _ w (hcell a w h), call_Len, ?_⟩
    refine (row_Len _ _ _ w).mono ?_
    rintro e w1 ⟨rfl, rfl⟩
    exact ⟨rfl, h⟩
  · intro a w i k hi hk h
    refine ⟨_, _, fun d => meth_Less d _ _ _ w (hcell a w h), call_Less, ?_⟩
    refine (row_Less g n cap i k _ _ _ _ w hi hk (h.cell i hi) (h.cell k hk) (h.used i hi) (h.used k hk)).mono ?_
    rintro e w1 ⟨rfl, rfl⟩
    exact ⟨rfl, h.later (Below.refl _ _).drew⟩
  · intro a w i k hi hk h
    refine ⟨_, _, fun d => meth_Swap d _ _ _ w (hcell a w h), call_Swap, ?_⟩
    refine (row_Swap g n cap i k _ _ w hi hk (h.cell i hi) (h.cell k hk) (h.frozen i) (h.frozen k)).mono ?_
    rintro e w1 ⟨rfl, rfl⟩
    exact ⟨rfl, h.swap i k hi hk⟩

end Go.Proofs.Ytogdnkdndhodmaa

/- The cache as heap's thing. -/
import Derived.Test.YtogdnkdndhodmaaPut
namespace Go.Proofs.Ytogdnkdndhodmaa
open Go.RowKit Go.Sort

/-- The cache, later than wb, when it owned O0. -/
def CacS (O0 : Nat → Prop) (wb : World) (bc most now n : Nat) (e : Nat → Ent) (w : World) : Prop :=
  ∃ O v, Cac O w bc most now n v e ∧ KeptO O0 wb w ∧ ∀ k, O k → O0 k ∨ wb.heap.size ≤ k

theorem CacS.later {O0 : Nat → Prop} {wb w w1 : World} {bc most now n : Nat} {e : Nat → Ent} (h : CacS O0 wb bc most now n e w) (hb : Below w.heap.size w w1) : CacS O0 wb bc most now n e w1 := by
  obtain ⟨O, v, h1, h2, h3⟩ := h
  exact ⟨O, v, h1.later hb, h2.trans (KeptO.of_below (O := O0) hb) (fun _ _ h => h), h3⟩

theorem Cac.bc_ne {O : Nat → Prop} {w : World} {bc most now n : Nat} {v : Value} {e : Nat → Ent} (h : Cac O w bc most now n v e) : some bc ≠ v.ownBlock := by
  intro eq
  obtain ⟨c, hc⟩ := ownsRow_kind h.row bc eq.symm
  have := h.blk
  rw [hc] at this
  simp at this

theorem Cac.slice {O : Nat → Prop} {w : World} {bc most now n : Nat} {v : Value} {e : Nat → Ent} (h : Cac O w bc most now n v e) : ∃ a cap, v = .slice a n cap := by
  rcases h.row.2 with ⟨h0, rfl⟩ | ⟨g, cap, cur, h0, _⟩
  · exact ⟨_, _, h0⟩
  · exact ⟨_, _, h0⟩

theorem cac_heap (O0 : Nat → Prop) (wb : World) (bc most now n : Nat) : HeapIf 48 (.pointer (some ⟨bc, 2, none⟩)) Ent.k n (CacS O0 wb bc most now n) := by
  refine ⟨?_, ?_, ?_⟩
  · intro e w h
    obtain ⟨O, v, h1, h2, h3⟩ := id h
    obtain ⟨a, cap, rfl⟩ := h1.slice
    refine ⟨_, _, fun d => meth_Len d _ _ _ w h1.c0.2.2.1, call_Len, ?_⟩
    refine (row_Len _ _ _ w).mono ?_
    rintro e w1 ⟨rfl, rfl⟩
    exact ⟨rfl, h⟩
  · intro e w i k hi hk h
    obtain ⟨O, v, h1, h2, h3⟩ := id h
    obtain ⟨g, cap, cur, rfl, _⟩ := h1.at (by omega)
    obtain ⟨r1, r2, r3⟩ := h1.rowS (by omega)
    refine ⟨_, _, fun d => meth_Less d _ _ _ w h1.c0.2.2.1, call_Less, ?_⟩
    refine (row_Less g n cap i k _ _ _ _ w hi hk (r1.cell i hi) (r1.cell k hk) (r1.used i hi) (r1.used k hk)).mono ?_
    rintro e w1 ⟨rfl, rfl⟩
    exact ⟨rfl, h.later (Below.refl _ _).drew⟩
  · intro e w i k hi hk h
    obtain ⟨O, v, h1, h2, h3⟩ := id h
    obtain ⟨g, cap, cur, rfl, _⟩ := h1.at (by omega)
    obtain ⟨r1, r2, r3⟩ := h1.rowS (by omega)
    refine ⟨_, _, fun d => meth_Swap d _ _ _ w h1.c0.2.2.1, call_Swap, ?_⟩
    refine (row_Swap g n cap i k _ _ w hi hk (r1.cell i hi) (r1.cell k hk) (r1.frozen i) (r1.frozen k)).mono ?_
    rintro e w1 ⟨rfl, rfl⟩
    have hbg : bc ≠ g := fun eq => h1.bc_ne (by rw [eq]; rfl)
    obtain ⟨c1, c2⟩ := h1.moved hbg (r1.swap i k hi hk) (moved_swp n _ i k hi hk) r2 r3
    exact ⟨rfl, O, _, c1, ⟨c2.os.trans h2.os, c2.tape.trans h2.tape, c2.output.trans h2.output, Nat.le_trans h2.size c2.size, fun b hb hn => (c2.block b (Nat.lt_of_lt_of_le hb h2.size) (fun ob => by
      rcases h3 b ob with h | h
      · exact hn h
      · omega)).trans (h2.block b hb hn)⟩, h3⟩

/-- A chain of what is kept. -/
theorem CacS.step {O0 O : Nat → Prop} {wb w w1 : World} (h2 : KeptO O0 wb w) (h3 : ∀ k, O k → O0 k ∨ wb.heap.size ≤ k) (c2 : KeptO O w w1) : KeptO O0 wb w1 :=
  ⟨c2.os.trans h2.os, c2.tape.trans h2.tape, c2.output.trans h2.output, Nat.le_trans h2.size c2.size, fun b hb hn => (c2.block b (Nat.lt_of_lt_of_le hb h2.size) (fun ob => by
      rcases h3 b ob with h | h
      · exact hn h
      · omega)).trans (h2.block b hb hn)⟩

/-- One more at the end. -/
def putE (e : Nat → Ent) (n : Nat) (x : Ent) : Nat → Ent := fun j => if j = n then x else e j

/-- The clock ticks. -/
theorem Cac.tick {O : Nat → Prop} {w : World} {bc most now n : Nat} {v : Value} {e : Nat → Ent} (h : Cac O w bc most now n v e) (k : Nat) :
    Cac O (w.setCell ⟨bc, 1, none⟩ (.int .i64 k)) bc most k n v e ∧ KeptO O w (w.setCell ⟨bc, 1, none⟩ (.int .i64 k)) := by
  have hk : KeptO O w (w.setCell ⟨bc, 1, none⟩ (.int .i64 k)) := KeptO.set 1 _ h.own
  have hb : ∀ b, b ≠ bc → (w.setCell ⟨bc, 1, none⟩ (.int .i64 k)).heap[b]? = w.heap[b]? := fun b hb => heap_setCell_ne hb _
  refine ⟨⟨by rw [heap_setCell h.blk]; rfl, ownsRow_heap h.row (fun b eb => hb b (fun eq => h.bc_ne (by rw [← eq]; exact eb.symm))), ?_, h.inj, h.own, h.ownv, fun b ob => Nat.lt_of_lt_of_le (h.old b ob) hk.size⟩, hk⟩
  intro j hj
  obtain ⟨bv, he⟩ := h.ent j hj
  refine ⟨bv, he.kept (hb _ ?_) (fun b eb => hb b ?_) (fun _ h => h)⟩
  · intro eq
    have := he.blk
    rw [eq, h.blk] at this
    simp at this
  · intro eq
    obtain ⟨c1, hc1⟩ := ownsRow_kind he.row b eb
    rw [eq, h.blk] at hc1; simp at hc1

/-- One more lies in the row. -/
theorem Cac.pushed {O O' : Nat → Prop} {w w4 : World} {bc most now n : Nat} {v v' : Value} {e : Nat → Ent} {x : Ent} {bv : Value} (h : Cac O w bc most now n v e)
    (hx : EntAt O' w x bv) (hO : ∀ k, O k → O' k) (hnew : ∀ j, j < n → (e j).p ≠ x.p) (hO' : ∀ k, O' k → k < w4.heap.size)
    (hg : w.grownBy w4 v.ownBlock) (ho : w4.ownsRow 0 45 1 v' (n + 1) ((rowOf n fun j => ptr (e j).p) ++ [ptr x.p])) (hv : ∀ k, v'.ownBlock = some k → O' k) :
    Cac O' (w4.setCell ⟨bc, 2, none⟩ v') bc most now (n + 1) v' (putE e n x) := by
  have hbl : bc < w.heap.size := h.old _ h.own
  have h4 : w4.heap[bc]? = some (.cells #[.int .i64 most, .int .i64 now, v] 38 (0, 0)) := (hg.block bc hbl h.bc_ne).trans h.blk
  have hb : ∀ b, b ≠ bc → (w4.setCell ⟨bc, 2, none⟩ v').heap[b]? = w4.heap[b]? := fun b hb => heap_setCell_ne hb _
  have hent : ∀ (y : Ent) (by' : Value) (O1 : Nat → Prop), EntAt O1 w y by' → (∀ k, O1 k → O' k) → EntAt O' (w4.setCell ⟨bc, 2, none⟩ v') y by' := by
    intro y by' O1 he hO1
    have ne1 : y.p ≠ bc := by
      intro eq
      have := he.blk
      rw [eq, h.blk] at this
      simp at this
    have ne2 : some y.p ≠ v.ownBlock := by
      intro eq
      obtain ⟨c, hc⟩ := ownsRow_kind h.row _ eq.symm
      have := he.blk
      rw [hc] at this
      simp at this
    have lt1 : y.p < w.heap.size := by
      have := he.blk
      rw [Array.getElem?_eq_some_iff] at this
      exact this.1
    refine he.kept ((hb _ ne1).trans (hg.block _ lt1 ne2)) (fun b eb => ?_) hO1
    obtain ⟨c1, hc1⟩ := ownsRow_kind he.row b eb
    have ne3 : b ≠ bc := by
      intro eq
      rw [eq, h.blk] at hc1; simp at hc1
    have ne4 : some b ≠ v.ownBlock := by
      intro eq
      obtain ⟨c, hc⟩ := ownsRow_kind h.row _ eq.symm
      rw [hc] at hc1; simp at hc1
    have lt2 : b < w.heap.size := by
      rw [Array.getElem?_eq_some_iff] at hc1
      exact hc1.1
    exact (hb _ ne3).trans (hg.block _ lt2 ne4)
  refine ⟨?_, ?_, ?_, ?_, hO _ h.own, hv, fun k ok => by simpa [World.setCell] using hO' k ok⟩
  · rw [heap_setCell h4]; rfl
  · have : (rowOf (n + 1) fun j => ptr (putE e n x j).p) = (rowOf n fun j => ptr (e j).p) ++ [ptr x.p] := by
      unfold rowOf
      rw [List.range_succ, List.map_append]
      congr 1
      · apply List.map_congr_left
        intro j hj
        have : j < n := by simpa using hj
        simp [putE, Nat.ne_of_lt this]
      · simp [putE]
    rw [this]
    refine ownsRow_heap ho (fun b eb => hb b ?_)
    intro eq
    obtain ⟨c, hc⟩ := ownsRow_kind ho b eb
    rw [eq, h4] at hc
    simp at hc
  · intro j hj
    by_cases ej : j = n
    · subst ej
      simp only [putE, if_true]
      exact ⟨bv, hent _ _ _ hx (fun _ h => h)⟩
    · simp only [putE, ej, if_false]
      obtain ⟨bj, he⟩ := h.ent j (by omega)
      exact ⟨bj, hent _ _ _ he hO⟩
  · intro i j hi hj
    unfold putE
    by_cases ei : i = n <;> by_cases ej : j = n
    · intro _; omega
    · simp only [ei, ej, if_true, if_false]
      intro eq; exact absurd eq.symm (hnew j (by omega))
    · simp only [ei, ej, if_true, if_false]
      intro eq; exact absurd eq (hnew i (by omega))
    · simp only [ei, ej, if_false]
      exact h.inj i j (by omega) (by omega)

/-- The last is off the row. -/
theorem Cac.popped {O : Nat → Prop} {w : World} {bc most now n g cap : Nat} {e : Nat → Ent} (h : Cac O w bc most now (n + 1) (.slice (some ⟨g, 0, none⟩) (n + 1) cap) e) :
    Cac O (w.setCell ⟨bc, 2, none⟩ (.slice (some ⟨g, 0, none⟩) n cap)) bc most now n (.slice (some ⟨g, 0, none⟩) n cap) e ∧ KeptO O w (w.setCell ⟨bc, 2, none⟩ (.slice (some ⟨g, 0, none⟩) n cap)) := by
  have hk : KeptO O w (w.setCell ⟨bc, 2, none⟩ (.slice (some ⟨g, 0, none⟩) n cap)) := KeptO.set 2 _ h.own
  have hb : ∀ b, b ≠ bc → (w.setCell ⟨bc, 2, none⟩ (.slice (some ⟨g, 0, none⟩) n cap)).heap[b]? = w.heap[b]? := fun b hb => heap_setCell_ne hb _
  obtain ⟨g', cap', cur, e1, hg, h1, h2, hs, hc⟩ := h.at (by omega)
  cases e1
  have hgb : g ≠ bc := fun eq => h.bc_ne (by rw [eq]; rfl)
  refine ⟨⟨by rw [heap_setCell h.blk]; rfl, ?_, ?_, fun i j hi hj => h.inj i j (by omega) (by omega), h.own, h.ownv, fun b ob => Nat.lt_of_lt_of_le (h.old b ob) hk.size⟩, hk⟩
  · exact ownsRow_of ((hb g hgb).trans hg) (by omega) h2 hs (fun j hj => hc j (by omega))
  · intro j hj
    obtain ⟨bv, he⟩ := h.ent j (by omega)
    refine ⟨bv, he.kept (hb _ ?_) (fun b eb => hb b ?_) (fun _ h => h)⟩
    · intro eq
      have := he.blk
      rw [eq, h.blk] at this
      simp at this
    · intro eq
      obtain ⟨c1, hc1⟩ := ownsRow_kind he.row b eb
      rw [eq, h.blk] at hc1; simp at hc1

end Go.Proofs.Ytogdnkdndhodmaa

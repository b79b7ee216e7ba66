/- The cache: what stands in the world; a use. -/
import Derived.Test.YtogdnkdndhodmaaFind
namespace Go.Proofs.Ytogdnkdndhodmaa
open Go.RowKit Go.Sort

/-- All but the blocks of O stands as it stood. -/
structure KeptO (O : Nat → Prop) (w w' : World) : Prop where
  os : w'.os = w.os
  tape : w'.tape = w.tape
  output : w'.output = w.output
  size : w.heap.size ≤ w'.heap.size
  block : ∀ k, k < w.heap.size → ¬ O k → w'.heap[k]? = w.heap[k]?

theorem KeptO.refl (O : Nat → Prop) (w : World) : KeptO O w w := ⟨rfl, rfl, rfl, Nat.le_refl _, fun _ _ _ => rfl⟩
theorem KeptO.trans {O O' : Nat → Prop} {w w1 w2 : World} (h : KeptO O w w1) (k : KeptO O' w1 w2) (hO : ∀ b, b < w.heap.size → O' b → O b) : KeptO O w w2 :=
  ⟨k.os.trans h.os, k.tape.trans h.tape, k.output.trans h.output, Nat.le_trans h.size k.size,
    fun b hb hn => (k.block b (Nat.lt_of_lt_of_le hb h.size) (fun h' => hn (hO b hb h'))).trans (h.block b hb hn)⟩
theorem KeptO.of_below {O : Nat → Prop} {w w1 : World} (h : Below w.heap.size w w1) : KeptO O w w1 := ⟨h.os, h.tape, h.output, h.size, fun b hb _ => h.block b hb⟩
theorem KeptO.of_grown {O : Nat → Prop} {w w1 : World} {g : Nat} (h : w.grownBy w1 (some g)) (hg : O g) : KeptO O w w1 :=
  ⟨h.os, h.tape, h.output, h.size, fun b hb hn => h.block b hb (fun e => hn (by cases e; exact hg))⟩
theorem KeptO.set {O : Nat → Prop} {w : World} {b : Nat} (o : Nat) (v : Value) (hb : O b) : KeptO O w (w.setCell ⟨b, o, none⟩ v) :=
  ⟨rfl, rfl, rfl, by simp [World.setCell], fun k _ hn => heap_setCell_ne (fun e => hn (by rw [e]; exact hb)) v⟩
theorem KeptO.cell {O : Nat → Prop} {w w1 : World} {b o : Nat} {v : Value} (h : KeptO O w w1) (hb : ¬ O b) (hc : w.cell? ⟨b, o, none⟩ = some v) : w1.cell? ⟨b, o, none⟩ = some v :=
  (World.cell?_of_block (a := ⟨b, o, none⟩) (h.block b (World.block_lt_of_cell? _ _ hc) hb)).trans hc

/-- An entry's cells. -/
def Ent.cells (x : Ent) (bv : Value) : Array Value := #[.int .i64 x.t.z, .int .i64 x.t.x, .int .i64 x.t.y, .int .i64 x.t.r, bv, .int .i64 x.k]

/-- An entry in the world. -/
structure EntAt (O : Nat → Prop) (w : World) (x : Ent) (bv : Value) : Prop where
  blk : w.heap[x.p]? = some (.cells (x.cells bv) 44 (0, 0))
  row : w.ownsRow 0 5 1 bv x.bs.length x.bs
  own : O x.p
  ownb : ∀ h, bv.ownBlock = some h → O h

/-- The cache in the world. -/
structure Cac (O : Nat → Prop) (w : World) (bc : Nat) (most now n : Nat) (v : Value) (e : Nat → Ent) : Prop where
  blk : w.heap[bc]? = some (.cells #[.int .i64 most, .int .i64 now, v] 38 (0, 0))
  row : w.ownsRow 0 45 1 v n (rowOf n fun j => ptr (e j).p)
  ent : ∀ j, j < n → ∃ bv, EntAt O w (e j) bv
  inj : ∀ i j, i < n → j < n → (e i).p = (e j).p → i = j
  own : O bc
  ownv : ∀ h, v.ownBlock = some h → O h
  old : ∀ h, O h → h < w.heap.size

theorem rowOf_get {α : Type} (n : Nat) (a : Nat → α) (j : Nat) (h : j < n) : (rowOf n a)[j]? = some (a j) := by
  simp [rowOf, h]

/-- The row's block. -/
theorem Cac.at {O : Nat → Prop} {w : World} {bc most now n : Nat} {v : Value} {e : Nat → Ent} (h : Cac O w bc most now n v e) (hn : 0 < n) :
    ∃ g cap cur, v = .slice (some ⟨g, 0, none⟩) n cap ∧ w.heap[g]? = some (.cells cur 45 (0, 0)) ∧ n ≤ cap ∧ cap ≤ maxLen ∧ cur.size = cap ∧ ∀ j, j < n → cur[j]? = some (ptr (e j).p) := by
  rcases h.row.2 with ⟨_, h0⟩ | ⟨g, cap, cur, h1, _, h3, h4, h5, h6, h7⟩
  · omega
  · refine ⟨g, cap, cur, h1, h3, h4, h5, by simpa using h6, fun j hj => ?_⟩
    have := rowOf_get n (fun j => ptr (e j).p) j hj
    rw [← h7, List.getElem?_take] at this
    simpa [hj] using this

theorem ownsRow_of {w : World} {g cap n : Nat} {e : TypeId} {cur : Array Value} {a : Nat → Value} (h : w.heap[g]? = some (.cells cur e (0, 0))) (hn : n ≤ cap) (hm : cap ≤ maxLen) (hs : cur.size = cap)
    (hc : ∀ j, j < n → cur[j]? = some (a j)) : w.ownsRow 0 e 1 (.slice (some ⟨g, 0, none⟩) n cap) n (rowOf n a) := by
  refine ⟨by simp [rowOf], Or.inr ⟨g, cap, cur, rfl, Nat.zero_le _, h, hn, hm, by omega, ?_⟩⟩
  apply List.ext_getElem?
  intro j
  by_cases hj : j < n
  · rw [rowOf_get n a j hj, List.getElem?_take]
    simp [hj, hc j hj]
  · rw [List.getElem?_eq_none (by simp; omega), List.getElem?_eq_none (by simp [rowOf]; omega)]

theorem ownsRow_heap {w w1 : World} {base : Nat} {e : TypeId} {size n : Nat} {v : Value} {xs : List Value} (h : w.ownsRow base e size v n xs) (hb : ∀ k, v.ownBlock = some k → w1.heap[k]? = w.heap[k]?) : w1.ownsRow base e size v n xs := by
  refine ⟨h.1, ?_⟩
  rcases h.2 with h0 | ⟨g, cap, cur, h1, h2, h3, h4⟩
  · exact Or.inl h0
  · refine Or.inr ⟨g, cap, cur, h1, h2, ?_, h4⟩
    rw [hb g (by rw [h1]; rfl)]; exact h3

/-- The bytes' block holds bytes. -/
theorem ownsRow_kind {w : World} {e : TypeId} {size n : Nat} {v : Value} {xs : List Value} (h : w.ownsRow 0 e size v n xs) (k : Nat) (hk : v.ownBlock = some k) : ∃ cur, w.heap[k]? = some (.cells cur e (0, 0)) := by
  rcases h.2 with ⟨h0, _⟩ | ⟨g, cap, cur, h1, h2, h3, h4⟩
  · rw [h0] at hk; cases hk
  · rw [h1] at hk; cases hk; exact ⟨cur, h3⟩

theorem EntAt.kept {O O' : Nat → Prop} {w w1 : World} {x : Ent} {bv : Value} (h : EntAt O w x bv) (h1 : w1.heap[x.p]? = w.heap[x.p]?) (h2 : ∀ k, bv.ownBlock = some k → w1.heap[k]? = w.heap[k]?) (hO : ∀ k, O k → O' k) : EntAt O' w1 x bv :=
  ⟨h1.trans h.blk, ownsRow_heap h.row h2, hO _ h.own, fun k hk => hO _ (h.ownb k hk)⟩

/-- The cache in a later world. -/
theorem Cac.kept {O O' : Nat → Prop} {w w1 : World} {bc most now n : Nat} {v : Value} {e : Nat → Ent} (h : Cac O w bc most now n v e) (hk : KeptO O' w w1) (hd : ∀ b, O b → ¬ O' b) : Cac O w1 bc most now n v e := by
  have hb : ∀ b, O b → w1.heap[b]? = w.heap[b]? := fun b ob => hk.block b (h.old b ob) (hd b ob)
  refine ⟨(hb bc h.own).trans h.blk, ownsRow_heap h.row (fun k e => hb k (h.ownv k e)), ?_, h.inj, h.own, h.ownv, fun b ob => Nat.lt_of_lt_of_le (h.old b ob) hk.size⟩
  intro j hj
  obtain ⟨bv, he⟩ := h.ent j hj
  exact ⟨bv, he.kept (hb _ he.own) (fun k e => hb k (he.ownb k e)) (fun _ h => h)⟩

theorem Cac.later {O : Nat → Prop} {w w1 : World} {bc most now n : Nat} {v : Value} {e : Nat → Ent} (h : Cac O w bc most now n v e) (hb : Below w.heap.size w w1) : Cac O w1 bc most now n v e :=
  h.kept (O' := fun _ => False) (KeptO.of_below hb) (fun _ _ => id)

theorem Cac.c0 {O : Nat → Prop} {w : World} {bc most now n : Nat} {v : Value} {e : Nat → Ent} (h : Cac O w bc most now n v e) :
    w.cell? ⟨bc, 0, none⟩ = some (.int .i64 most) ∧ w.cell? ⟨bc, 1, none⟩ = some (.int .i64 now) ∧ w.cell? ⟨bc, 2, none⟩ = some v ∧ (∀ o, w.frozen? ⟨bc, o, none⟩ = false) := by
  refine ⟨?_, ?_, ?_, ?_⟩
  · rw [cell_of_heap h.blk]; rfl
  · rw [cell_of_heap h.blk]; rfl
  · rw [cell_of_heap h.blk]; rfl
  · intro o; simp [World.frozen?, h.blk]

theorem EntAt.tl {O : Nat → Prop} {w : World} {x : Ent} {bv : Value} (h : EntAt O w x bv) : TlAt w x.p x.t := by
  refine ⟨?_, ?_, ?_, ?_⟩ <;> (rw [cell_of_heap h.blk]; rfl)

theorem EntAt.c {O : Nat → Prop} {w : World} {x : Ent} {bv : Value} (h : EntAt O w x bv) : w.cell? ⟨x.p, 4, none⟩ = some bv ∧ w.cell? ⟨x.p, 5, none⟩ = some (.int .i64 x.k) ∧ ∀ o, w.frozen? ⟨x.p, o, none⟩ = false := by
  refine ⟨?_, ?_, ?_⟩
  · rw [cell_of_heap h.blk]; rfl
  · rw [cell_of_heap h.blk]; rfl
  · intro o; simp [World.frozen?, h.blk]

/-- A find in the cache. -/
theorem cac_find {O : Nat → Prop} {w : World} {bc most now n : Nat} {v : Value} {e : Nat → Ent} (h : Cac O w bc most now n v e) (hn : n ≤ 1099511627776) (t : Tl) :
    Calls Try.prog 12 #[.pointer (some ⟨bc, 0, none⟩), t.val] w fun x w' =>
      ∃ r, x = .returned (.int .i64 r) ∧ Below w.heap.size w w' ∧ Found n e t r := by
  have hent : ∀ j, j < n → TlAt w (e j).p (e j).t := fun j hj => by
    obtain ⟨bv, he⟩ := h.ent j hj
    exact he.tl
  by_cases h0 : 0 < n
  · obtain ⟨g, cap, cur, rfl, hg, _, _, _, hc⟩ := h.at h0
    exact find_any bc g n cap _ e w t hn (fun _ => rfl) h.c0.2.2.1 (fun j hj => by rw [cell_of_heap hg]; exact hc j hj) hent
  · obtain rfl : n = 0 := by omega
    rcases h.row.2 with ⟨rfl, _⟩ | ⟨g, cap, cur, rfl, _⟩
    · exact find_any bc 0 0 0 _ e w t hn (fun h => absurd h h0) h.c0.2.2.1 (fun j hj => absurd hj (by omega)) hent
    · exact find_any bc 0 0 cap _ e w t hn (fun h => absurd h h0) h.c0.2.2.1 (fun j hj => absurd hj (by omega)) hent

/-- Behind heap's work on the row. -/
theorem Cac.moved {O : Nat → Prop} {w w1 : World} {bc most now n g cap : Nat} {e e' : Nat → Ent} (h : Cac O w bc most now n (.slice (some ⟨g, 0, none⟩) n cap) e) (hg : bc ≠ g)
    (hr : RowS w g cap n e' w1) (hm : Moved n e e') (hn : n ≤ cap) (hc : cap ≤ maxLen) : Cac O w1 bc most now n (.slice (some ⟨g, 0, none⟩) n cap) e' ∧ KeptO O w w1 := by
  have hk : KeptO O w w1 := KeptO.of_grown hr.fr (h.ownv g rfl)
  obtain ⟨cur, r1, r2, r3⟩ := hr.row
  obtain ⟨c0, hc0⟩ := ownsRow_kind h.row g rfl
  have hb : ∀ b, b < w.heap.size → b ≠ g → w1.heap[b]? = w.heap[b]? := fun b hb hne => hr.fr.block b hb (fun e => hne (by cases e; rfl))
  obtain ⟨f, f', m1, m2, m3, m4, m5⟩ := hm
  refine ⟨⟨(hb bc (h.old _ h.own) hg).trans h.blk, ownsRow_of r1 hn hc r2 r3, ?_, ?_, h.own, h.ownv, fun b ob => Nat.lt_of_lt_of_le (h.old b ob) hk.size⟩, hk⟩
  · intro j hj
    rw [m5]
    obtain ⟨bv, he⟩ := h.ent (f j) ((m3 j).1 hj)
    refine ⟨bv, he.kept (hb _ (h.old _ he.own) ?_) (fun k ek => hb _ (h.old _ (he.ownb k ek)) ?_) (fun _ h => h)⟩
    · intro eq
      have := he.blk
      rw [eq, hc0] at this
      simp at this
    · intro eq
      obtain ⟨c1, hc1⟩ := ownsRow_kind he.row k ek
      rw [eq, hc0] at hc1
      simp at hc1
  · intro i j hi hj
    rw [m5, m5]
    intro eq
    have := h.inj _ _ ((m3 i).1 hi) ((m3 j).1 hj) eq
    rw [← m1 i, ← m1 j, this]

end Go.Proofs.Ytogdnkdndhodmaa

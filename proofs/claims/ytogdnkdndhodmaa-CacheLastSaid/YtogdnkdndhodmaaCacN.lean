/- A cache that is wholly newer than w0, and others' blocks beside it. -/
import Derived.Test.YtogdnkdndhodmaaPutO
import Derived.Test.YtogdnkdndhodmaaNew
namespace Go.Proofs.Ytogdnkdndhodmaa
open Go.RowKit Go.Sort

/-- The cache, all of it newer than w0; the blocks of X are no part of it. -/
def CacN (X : Nat → Prop) (w0 : World) (bc most now n : Nat) (e : Nat → Ent) (w : World) : Prop :=
  ∃ O v, Cac O w bc most now n v e ∧ Below w0.heap.size w0 w ∧ ∀ k, O k → w0.heap.size ≤ k ∧ ¬ X k

/-- The blocks of X stand as they stood. -/
structure KeptX (X : Nat → Prop) (w w' : World) : Prop where
  size : w.heap.size ≤ w'.heap.size
  block : ∀ k, k < w.heap.size → X k → w'.heap[k]? = w.heap[k]?

theorem KeptX.cell {X : Nat → Prop} {w w1 : World} {b o : Nat} {v : Value} (h : KeptX X w w1) (hb : X b) (hc : w.cell? ⟨b, o, none⟩ = some v) : w1.cell? ⟨b, o, none⟩ = some v :=
  (World.cell?_of_block (a := ⟨b, o, none⟩) (h.block b (World.block_lt_of_cell? _ _ hc) hb)).trans hc

theorem KeptX.of_below {X : Nat → Prop} {w w1 : World} (h : Below w.heap.size w w1) : KeptX X w w1 := ⟨h.size, fun k hk _ => h.block k hk⟩

theorem CacN.below {X : Nat → Prop} {w0 w : World} {bc most now n : Nat} {e : Nat → Ent} (h : CacN X w0 bc most now n e w) : Below w0.heap.size w0 w := by
  obtain ⟨O, v, _, h2, _⟩ := h; exact h2

theorem CacN.later {X : Nat → Prop} {w0 w w1 : World} {bc most now n : Nat} {e : Nat → Ent} (h : CacN X w0 bc most now n e w) (hb : Below w.heap.size w w1) : CacN X w0 bc most now n e w1 := by
  obtain ⟨O, v, h1, h2, h3⟩ := h
  exact ⟨O, v, h1.later hb, kept_trans h2 hb, h3⟩

/-- What is not yet there is no part of it. -/
theorem CacN.ext {X : Nat → Prop} {w0 w : World} {bc most now n : Nat} {e : Nat → Ent} (h : CacN X w0 bc most now n e w) : CacN (fun k => X k ∨ w.heap.size ≤ k) w0 bc most now n e w := by
  obtain ⟨O, v, h1, h2, h3⟩ := h
  refine ⟨O, v, h1, h2, fun k ok => ⟨(h3 k ok).1, fun hx => ?_⟩⟩
  have := h1.old k ok
  rcases hx with h | h
  · exact (h3 k ok).2 h
  · omega

theorem CacN.mono {X X' : Nat → Prop} {w0 w : World} {bc most now n : Nat} {e : Nat → Ent} (h : CacN X w0 bc most now n e w) (hX : ∀ k, X' k → X k) : CacN X' w0 bc most now n e w := by
  obtain ⟨O, v, h1, h2, h3⟩ := h
  exact ⟨O, v, h1, h2, fun k ok => ⟨(h3 k ok).1, fun hx => (h3 k ok).2 (hX k hx)⟩⟩

theorem below_of_keptO {O : Nat → Prop} {w0 w w1 : World} (h2 : Below w0.heap.size w0 w) (h3 : ∀ k, O k → w0.heap.size ≤ k) (k : KeptO O w w1) : Below w0.heap.size w0 w1 :=
  ⟨k.os.trans h2.os, k.tape.trans h2.tape, k.output.trans h2.output, Nat.le_trans h2.size k.size, fun b hb => (k.block b (Nat.lt_of_lt_of_le hb h2.size) (fun ob => by have := h3 b ob; omega)).trans (h2.block b hb)⟩

theorem CacN.of_S {X O : Nat → Prop} {w0 w w1 : World} {bc most now n : Nat} {e : Nat → Ent} (h2 : Below w0.heap.size w0 w) (h3 : ∀ k, O k → w0.heap.size ≤ k ∧ ¬ X k) (hX : ∀ k, X k → k < w.heap.size) (h : CacS O w bc most now n e w1) :
    CacN X w0 bc most now n e w1 ∧ KeptX X w w1 := by
  obtain ⟨O', v', c, k, o⟩ := h
  refine ⟨⟨O', v', c, below_of_keptO h2 (fun k ok => (h3 k ok).1) k, fun b ob => ?_⟩, k.size, fun b hb xb => k.block b hb (fun ob => (h3 b ob).2 xb)⟩
  rcases o b ob with h | h
  · exact h3 b h
  · exact ⟨Nat.le_trans h2.size h, fun xb => by have := hX b xb; omega⟩

theorem cacN_put_new {X : Nat → Prop} {w0 w : World} {bc most now n : Nat} {e : Nat → Ent} (h : CacN X w0 bc most now n e w) (hX : ∀ k, X k → k < w.heap.size) (hn : n ≤ 1000000) (hnow : now ≤ 1099511627776) (hm0 : 0 < most) (hm : most ≤ 1000)
    (t : Tl) (hok : OkT t) (hno : ∀ i, i < n → (e i).t ≠ t) (m : Nat) (hm' : now + 1 = m) (g c : Nat) (hg : X g) (xs : List Int) (h0 : 0 < xs.length) (hl : xs.length ≤ 1000) (hc : ∀ i, i < xs.length → w.cell? ⟨g, i, none⟩ = some (.int .u8 (xs.getD i 0))) :
    Calls Try.prog 7 #[.pointer (some ⟨bc, 0, none⟩), t.val, .slice (some ⟨g, 0, none⟩) xs.length c] w fun r w' =>
      r = .returned (.bool true) ∧ ∃ p, CacN X w0 bc most m (if most < n + 1 then n else n + 1)
        (if most < n + 1 then popH Ent.k n (upH Ent.k (putE e n ⟨p, t, xs.map (Value.int .u8), (m : Int)⟩) n) else upH Ent.k (putE e n ⟨p, t, xs.map (Value.int .u8), (m : Int)⟩) n) w' ∧ KeptX X w w' := by
  obtain ⟨O, v, h1, h2, h3⟩ := h
  refine (cac_put_new h1 hn hnow hm0 hm t hok hno m hm' g c (fun og => (h3 g og).2 hg) xs h0 hl hc).mono ?_
  rintro r w1 ⟨rfl, p, S⟩
  obtain ⟨a, b⟩ := CacN.of_S h2 h3 hX S
  exact ⟨rfl, p, a, b⟩

theorem cacN_put_old {X : Nat → Prop} {w0 w : World} {bc most now n : Nat} {e : Nat → Ent} (h : CacN X w0 bc most now n e w) (hX : ∀ k, X k → k < w.heap.size) (hn : n ≤ 1000000) (hnow : now ≤ 1099511627776) (hm0 : 0 < most) (hm : most ≤ 1000)
    (t : Tl) (hok : OkT t) (hyes : ∃ i, i < n ∧ (e i).t = t) (g c : Nat) (hg : X g) (xs : List Int) (h0 : 0 < xs.length) (hl : xs.length ≤ 1000) (hc : ∀ i, i < xs.length → w.cell? ⟨g, i, none⟩ = some (.int .u8 (xs.getD i 0))) :
    Calls Try.prog 7 #[.pointer (some ⟨bc, 0, none⟩), t.val, .slice (some ⟨g, 0, none⟩) xs.length c] w fun r w' =>
      r = .returned (.bool true) ∧ ∃ i, i < n ∧ (e i).t = t ∧ CacN X w0 bc most (now + 1) n (fixH Ent.k n (setK (setB e i (xs.map (Value.int .u8))) i ((now + 1 : Nat) : Int)) i) w' ∧ KeptX X w w' := by
  obtain ⟨O, v, h1, h2, h3⟩ := h
  refine (cac_put_old h1 hn hnow hm0 hm t hok hyes g c (fun og => (h3 g og).2 hg) xs h0 hl hc).mono ?_
  rintro r w1 ⟨rfl, i, hi, ht, S⟩
  obtain ⟨a, b⟩ := CacN.of_S h2 h3 hX S
  exact ⟨rfl, i, hi, ht, a, b⟩

theorem cacN_get {X : Nat → Prop} {w0 w : World} {bc most now n : Nat} {e : Nat → Ent} (h : CacN X w0 bc most now n e w) (hX : ∀ k, X k → k < w.heap.size) (hn : n ≤ 1099511627776) (hnow : now ≤ 1099511627776) (t : Tl)
    (hbs : ∀ j, j < n → ∃ xs : List Int, (e j).bs = xs.map (Value.int .u8) ∧ 0 < xs.length ∧ xs.length ≤ 140737488355328) :
    Calls Try.prog 8 #[.pointer (some ⟨bc, 0, none⟩), t.val] w fun x w' =>
      (x = .returned (.tuple #[.slice none 0 0, .bool false]) ∧ (∀ i, i < n → (e i).t ≠ t) ∧ CacN X w0 bc most now n e w' ∧ KeptX X w w') ∨
      (∃ i u, i < n ∧ (e i).t = t ∧ x = .returned (.tuple #[u, .bool true]) ∧ CacN (fun k => X k ∨ w.heap.size ≤ k) w0 bc most (now + 1) n (fixH Ent.k n (setK e i ((now + 1 : Nat) : Int)) i) w' ∧ KeptX X w w' ∧
        w'.ownsRow w.heap.size 5 1 u (e i).bs.length (e i).bs) := by
  obtain ⟨O, v, h1, h2, h3⟩ := h
  refine (cac_get h1 hn hnow t hbs).mono ?_
  rintro x w1 (⟨rfl, hno, hb⟩ | ⟨i, u, hi, ht, rfl, hc, hk, hu⟩)
  · exact Or.inl ⟨rfl, hno, ⟨O, v, h1.later hb, kept_trans h2 hb, h3⟩, KeptX.of_below hb⟩
  · refine Or.inr ⟨i, u, hi, ht, rfl, ⟨O, v, hc, below_of_keptO h2 (fun k ok => (h3 k ok).1) hk, fun k ok => ⟨(h3 k ok).1, fun hx => ?_⟩⟩, ⟨hk.size, fun b hb xb => hk.block b hb (fun ob => (h3 b ob).2 xb)⟩, hu⟩
    have := h1.old k ok
    rcases hx with h | h
    · exact (h3 k ok).2 h
    · omega

end Go.Proofs.Ytogdnkdndhodmaa

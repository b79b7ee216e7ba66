/- A region that draws its order, whose operations read and whose callees make memory; what a call leaves of the world. -/
import Derived.WalkKit
import Derived.WalkSpells
import Derived.WalkLawsBesides
import Derived.Deep.QuietTactic
import Derived.BigQuiet
import Derived.Lib.Hide
import Derived.Lib.QuietBelow
import Derived.RegionTactic
import Derived.ChangeAlike
import Derived.Deep.RegionHeld3
namespace Go.Proofs.Ytogdnkdndhodmaa
open Go.RowKit Go.Sort

/-- Of the world at hand just these facts are kept. -/
theorem wp_world {P : Program} {c : Code} {Q : Exit → Act → World → Prop} {a : Act} {w : World} (F : World → Prop) (hF : F w) (h : ∀ W, F W → c.wp P Q a W) : c.wp P Q a w := h w hF

theorem body_world {P : Program} {fn : Func} {R : Ending → World → Prop} {x : Exit} {a : Act} {w : World} (F : World → Prop) (hF : F w) (h : ∀ W, F W → bodyPost P fn R x a W) : bodyPost P fn R x a w := h w hF

/-- Behind such a region: the world, by 'Below'. -/
theorem below_of {w w' : World} (h : ∃ p : Regrown, w' = grow (redrawn w p.d) p.os) : Below w.heap.size w w' := by
  obtain ⟨p, rfl⟩ := h; exact below_regrown w p.d p.os

/-- A cell that was there, in a later world. -/
theorem later {w w' : World} {a : Addr} {v : Value} (hb : Below w.heap.size w w') (h : w.cell? a = some v) : w'.cell? a = some v := by
  rw [hb.cell (World.block_lt_of_cell? w a h)]; exact h

theorem later_f {w w' : World} {a : Addr} {v : Value} {b : Bool} (hb : Below w.heap.size w w') (h : w.cell? a = some v) (hf : w.frozen? a = b) : w'.frozen? a = b := by
  rw [hb.frozen (World.block_lt_of_cell? w a h)]; exact hf

theorem later_lt {w w' : World} {k : Nat} (hb : Below w.heap.size w w') (h : k < w.heap.size) : k < w'.heap.size := Nat.lt_of_lt_of_le h hb.size

@[go_sem] theorem cell_grow_redrawn (w : World) (d : Nat) (os : Array Obj) (b o : Nat) (h : b < w.heap.size) : (grow (redrawn w d) os).cell? ⟨b, o, none⟩ = w.cell? ⟨b, o, none⟩ :=
  (below_regrown w d os).cell (p := ⟨b, o, none⟩) h

/-- A store turns no cell's being there. -/
@[go_sem] theorem isSome_setCell (w : World) (a : Addr) (v : Value) (b : Addr) : ((w.setCell a v).cell? b).isSome = (w.cell? b).isSome := by
  unfold World.cell? World.setCell
  simp only [Array.getElem?_modify]
  by_cases h : a.block = b.block
  · rw [if_pos h]
    cases w.heap[b.block]? with
    | none => rfl
    | some o =>
      cases o with
      | cells c e f =>
        simp only [Option.map_some]
        by_cases h2 : b.spot.isSome
        · simp [h2]
        · by_cases h3 : a.spot.isSome
          · simp [h2, h3]
          · simp only [h2, h3, if_false, Bool.false_eq_true, Array.getElem?_setIfInBounds]
            by_cases h4 : a.off = b.off
            · simp only [h4, if_true]
              by_cases h5 : b.off < c.size
              · simp [h5]
              · simp [h5]
            · simp [h4]
      | _ => rfl
  · rw [if_neg h]

theorem bcell {W w1 : World} (hb : Below W.heap.size W w1) : (∀ b o, b < W.heap.size → w1.cell? ⟨b, o, none⟩ = W.cell? ⟨b, o, none⟩) ∧ (∀ b o, b < W.heap.size → w1.frozen? ⟨b, o, none⟩ = W.frozen? ⟨b, o, none⟩) :=
  ⟨fun b o h => hb.cell (p := ⟨b, o, none⟩) h, fun b o h => hb.frozen (p := ⟨b, o, none⟩) h⟩

theorem kept_alloc {w W : World} (h : Below w.heap.size w W) (o : Obj) : Below w.heap.size w (W.alloc o) := h.alloc h.size o
theorem kept_drew {w W : World} (h : Below w.heap.size w W) : Below w.heap.size w W.drew := h.drew
theorem kept_drewN {w W : World} (h : Below w.heap.size w W) (n : Nat) : Below w.heap.size w (W.drewN n) := ⟨h.os, h.tape, h.output, h.size, h.block⟩
theorem kept_set {w W : World} (h : Below w.heap.size w W) {p : Addr} (u : Value) (hp : w.heap.size ≤ p.block) : Below w.heap.size w (W.setCell p u) := h.setCell hp u
theorem kept_trans {w W W' : World} (h : Below w.heap.size w W) (k : Below W.heap.size W W') : Below w.heap.size w W' := h.trans (k.mono h.size)

/-- An owned row in a later world. -/
theorem owns_later {w w' : World} {base : Nat} {e : TypeId} {size : Nat} {v : Value} {n : Nat} {xs : List Value} (hb : Below w.heap.size w w') (h : w.ownsRow base e size v n xs) : w'.ownsRow base e size v n xs :=
  h.kept (row := none) ⟨hb.os, hb.tape, hb.output, hb.size, fun k hk _ => hb.block k hk⟩ (by cases v.ownBlock <;> simp)

theorem owns_base {w : World} {base base' : Nat} {e : TypeId} {size : Nat} {v : Value} {n : Nat} {xs : List Value} (h : w.ownsRow base e size v n xs) (hb : base' ≤ base) : w.ownsRow base' e size v n xs := by
  refine ⟨h.1, ?_⟩
  rcases h.2 with h | ⟨g, cap, cur, h1, h2, h3⟩
  · exact Or.inl h
  · exact Or.inr ⟨g, cap, cur, h1, by omega, h3⟩

theorem owns_ne {w : World} {base : Nat} {e : TypeId} {size : Nat} {v : Value} {n : Nat} {xs : List Value} (h : w.ownsRow base e size v n xs) {k : Nat} (hk : k < base) : some k ≠ v.ownBlock := by
  intro e
  have := (h.lt k e.symm).1
  omega

/-- Behind an append: what lies below the row's base is as it was. -/
theorem kept_grown {w W W' : World} {base : Nat} {e : TypeId} {size : Nat} {v : Value} {n : Nat} {xs : List Value} (h : Below w.heap.size w W) (ho : W.ownsRow base e size v n xs) (hb : w.heap.size ≤ base) (hg : W.grownBy W' v.ownBlock) : Below w.heap.size w W' :=
  h.grown hg h.size (fun k e => Nat.le_trans hb (ho.lt k e).1)

theorem cell_grown {W W' : World} {base : Nat} {e : TypeId} {size : Nat} {v : Value} {n : Nat} {xs : List Value} (ho : W.ownsRow base e size v n xs) (hg : W.grownBy W' v.ownBlock) {a : Addr} {u : Value} (ha : a.block < base) (h : W.cell? a = some u) : W'.cell? a = some u :=
  hg.cell h (owns_ne ho ha)

theorem frozen_grown {W W' : World} {base : Nat} {e : TypeId} {size : Nat} {v : Value} {n : Nat} {xs : List Value} (ho : W.ownsRow base e size v n xs) (hg : W.grownBy W' v.ownBlock) {a : Addr} {b : Bool} (ha : a.block < base) (hs : a.block < W.heap.size) (h : W.frozen? a = b) : W'.frozen? a = b := by
  rw [World.frozen?_of_block (hg.block a.block hs (owns_ne ho ha))]; exact h

end Go.Proofs.Ytogdnkdndhodmaa

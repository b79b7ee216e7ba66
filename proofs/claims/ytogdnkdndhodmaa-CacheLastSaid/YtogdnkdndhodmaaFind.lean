/- Walks: a tile's place in the cache. -/
import Derived.Test.YtogdnkdndhodmaaRowS
import Derived.Laws.StructEq
namespace Go.Proofs.Ytogdnkdndhodmaa
open Go.RowKit Go.Sort

theorem heldT : Try.prog.stoodInHeld 28 = false := by kernel_rfl
theorem guardT : Try.prog.eqGuardType Try.prog.depth 28 = false := by kernel_rfl

/-- A tile as a value. -/
def Tl.val (t : Tl) : Value := .agg #[.int .i64 t.z, .int .i64 t.x, .int .i64 t.y, .int .i64 t.r]

theorem run_eqT (z x y r z' x' y' r' : Int) (w : World) : (binOp .eql 28 (.agg #[.int .i64 z, .int .i64 x, .int .i64 y, .int .i64 r]) (.agg #[.int .i64 z', .int .i64 x', .int .i64 y', .int .i64 r'])).run Try.prog w =
    .ok (.bool (decide ((⟨z, r, x, y⟩ : Tl) = ⟨z', r', x', y'⟩))) w := by
  have hs1 := heldT
  go_simp
  by_cases h1 : z = z' <;> by_cases h2 : x = x' <;> by_cases h3 : y = y' <;> by_cases h4 : r = r' <;> simp [h1, h2, h3, h4]

/-- A tile's cells at a place. -/
structure TlAt (w : World) (b : Nat) (t : Tl) : Prop where
  z : w.cell? ⟨b, 0, none⟩ = some (.int .i64 t.z)
  x : w.cell? ⟨b, 1, none⟩ = some (.int .i64 t.x)
  y : w.cell? ⟨b, 2, none⟩ = some (.int .i64 t.y)
  r : w.cell? ⟨b, 3, none⟩ = some (.int .i64 t.r)

theorem TlAt.later {w w1 : World} {b : Nat} {t : Tl} (h : TlAt w b t) (hb : Below w.heap.size w w1) : TlAt w1 b t :=
  ⟨Go.Proofs.Ytogdnkdndhodmaa.later hb h.z, Go.Proofs.Ytogdnkdndhodmaa.later hb h.x, Go.Proofs.Ytogdnkdndhodmaa.later hb h.y, Go.Proofs.Ytogdnkdndhodmaa.later hb h.r⟩

set_option maxHeartbeats 1000000 in
set_option maxRecDepth 100000 in
theorem is_tile (p tb : Nat) (s t : Tl) (w : World) (h1 : TlAt w p s) (h2 : TlAt w tb t) :
    Calls Try.prog 22 #[.pointer (some ⟨p, 0, none⟩), .pointer (some ⟨tb, 0, none⟩)] w fun e w' => e = .returned (.bool (decide (s = t))) ∧ Below w.heap.size w w' := by
  obtain ⟨a1, a2, a3, a4⟩ := h1
  obtain ⟨b1, b2, b3, b4⟩ := h2
  have hs1 := run_eqT
  have hs2 := guardT
  have l1 := World.block_lt_of_cell? _ _ a1
  have l2 := World.block_lt_of_cell? _ _ b1
  go_enter Try.func22, Try.ntmps22
  go_wp2_with fail
  refine wp_region_quiet_below (by kernel_rfl) (by kernel_rfl) ?_
  repeat quiet_step (fail)
  refine wpQuiet_nil ?_
  intro w1 hw1
  have hb1 := below_of hw1
  go_wp2_with fail
  go_returns
  refine ⟨?_, hb1⟩
  have hd : (decide (s.z = t.z) && (decide (s.r = t.r) && (decide (s.x = t.x) && decide (s.y = t.y)))) = decide (s = t) := by
    cases s; cases t; simp [Bool.decide_and]
  exact congrArg (fun b => Ending.returned (.bool b)) hd

/-- Where it is, if it is there. -/
def Found (n : Nat) (e : Nat → Ent) (t : Tl) (r : Int) : Prop :=
  (∃ i, i < n ∧ r = (i : Nat) ∧ (e i).t = t) ∨ (r = -1 ∧ ∀ i, i < n → (e i).t ≠ t)

set_option maxHeartbeats 2000000 in
set_option maxRecDepth 100000 in
theorem index_any (g tb n cap : Nat) (a : Option Addr) (e : Nat → Ent) (w : World) (t : Tl) (hn : n ≤ 1099511627776) (ha : 0 < n → a = some ⟨g, 0, none⟩)
    (hrow : ∀ j, j < n → w.cell? ⟨g, j, none⟩ = some (.pointer (some ⟨(e j).p, 0, none⟩))) (hent : ∀ j, j < n → TlAt w (e j).p (e j).t) (ht : TlAt w tb t) :
    Calls Try.prog 21 #[.slice a n cap, .func (Fn.func 22) #[] #[.pointer (some ⟨tb, 0, none⟩)]] w fun x w' =>
      ∃ r, x = .returned (.int .i64 r) ∧ Below w.heap.size w w' ∧ Found n e t r := by
  go_enter Try.func21, Try.ntmps21
  go_wp2_with fail
  go_loopw [8] (fun x wr => ∃ (k : Nat), x = .int .i64 k ∧ k ≤ n ∧ Below w.heap.size w wr ∧ ∀ j, j < k → (e j).t ≠ t)
    (fun x _ => n - (intOf x).toNat)
  case atStart => exact ⟨0, rfl, by omega, Below.refl _ _, fun j hj => absurd hj (by omega)⟩
  case round =>
    obtain ⟨k, rfl, hk, hb, hne⟩ := hrel
    by_cases hlt : k < n
    · obtain rfl := ha (by omega)
      have c1 := later hb (hrow k hlt)
      have hti := is_tile (e k).p tb (e k).t t wr ((hent k hlt).later hb) (ht.later hb)
      have hlt' : (k : Int) < n := by omega
      go_wp2_with fail
      refine hti.mono ?_
      rintro x w1 ⟨rfl, hb1⟩
      clear hti
      by_cases hq : (e k).t = t
      · simp only [decide_eq_true hq]
        go_wp2_with fail
        go_returns
        exact ⟨k, rfl, kept_trans hb hb1, Or.inl ⟨k, hlt, rfl, hq⟩⟩
      · simp only [decide_eq_false hq]
        have hne2 : ∀ j, j < k + 1 → (e j).t ≠ t := by
          intro j hj
          by_cases ej : j = k
          · subst ej; exact hq
          · exact hne j (by omega)
        clear hq hne
        go_wp2_with fail
        go_roundw
        case rel => exact ⟨k + 1, by go_num, by omega, kept_trans hb hb1, hne2⟩
        case measure => simp [intOf]; omega
    · obtain rfl : k = n := by omega
      go_wp2_with fail
      go_returns
      exact ⟨-1, rfl, hb, Or.inr ⟨rfl, hne⟩⟩

set_option maxHeartbeats 1000000 in
set_option maxRecDepth 100000 in
theorem find_any (bc g n cap : Nat) (a : Option Addr) (e : Nat → Ent) (w : World) (t : Tl) (hn : n ≤ 1099511627776) (ha : 0 < n → a = some ⟨g, 0, none⟩)
    (hc : w.cell? ⟨bc, 2, none⟩ = some (.slice a n cap))
    (hrow : ∀ j, j < n → w.cell? ⟨g, j, none⟩ = some (.pointer (some ⟨(e j).p, 0, none⟩))) (hent : ∀ j, j < n → TlAt w (e j).p (e j).t) :
    Calls Try.prog 12 #[.pointer (some ⟨bc, 0, none⟩), t.val] w fun x w' =>
      ∃ r, x = .returned (.int .i64 r) ∧ Below w.heap.size w w' ∧ Found n e t r := by
  have l1 := World.block_lt_of_cell? _ _ hc
  have hb0 : Below w.heap.size w (w.alloc (.cells #[.int .i64 t.z, .int .i64 t.x, .int .i64 t.y, .int .i64 t.r] 28)) := kept_alloc (Below.refl _ _) _
  have hi := index_any g w.heap.size n cap a e (w.alloc (.cells #[.int .i64 t.z, .int .i64 t.x, .int .i64 t.y, .int .i64 t.r] 28)) t hn ha
    (fun j hj => later hb0 (hrow j hj)) (fun j hj => (hent j hj).later hb0) ⟨by go_simp, by go_simp, by go_simp, by go_simp⟩
  unfold Tl.val
  go_enter Try.func12, Try.ntmps12
  go_wp2_with fail
  refine hi.mono ?_
  rintro x w1 ⟨r, rfl, hb1, hf⟩
  have hb2 := kept_trans hb0 hb1
  clear hi
  go_wp2_with fail
  go_returns
  exact ⟨r, rfl, hb2, hf⟩

end Go.Proofs.Ytogdnkdndhodmaa

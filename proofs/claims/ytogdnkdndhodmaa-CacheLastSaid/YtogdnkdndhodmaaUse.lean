/- Walks: a use of a cached tile; its bytes. -/
import Derived.Test.YtogdnkdndhodmaaCac
import Derived.Test.YtogdnkdndhodmaaShelf
namespace Go.Proofs.Ytogdnkdndhodmaa
open Go.RowKit Go.Sort

/-- One used anew. -/
def setK (e : Nat → Ent) (i : Nat) (k : Int) : Nat → Ent := fun j => if j = i then { e i with k := k } else e j

theorem setK_p (e : Nat → Ent) (i : Nat) (k : Int) (j : Nat) : (setK e i k j).p = (e j).p := by
  unfold setK; split
  · rename_i h; subst h; rfl
  · rfl

theorem Cac.ne {O : Nat → Prop} {w : World} {bc most now n g cap j : Nat} {e : Nat → Ent} (h : Cac O w bc most now n (.slice (some ⟨g, 0, none⟩) n cap) e) (hj : j < n) :
    ¬ bc = g ∧ ¬ (e j).p = bc ∧ ¬ (e j).p = g := by
  obtain ⟨c0, hc0⟩ := ownsRow_kind h.row g rfl
  obtain ⟨bv, he⟩ := h.ent j hj
  refine ⟨?_, ?_, ?_⟩
  · intro eq
    have := h.blk
    rw [eq, hc0] at this
    simp at this
  · intro eq
    have := he.blk
    rw [eq, h.blk] at this
    simp at this
  · intro eq
    have := he.blk
    rw [eq, hc0] at this
    simp at this

/-- The stamps are set. -/
theorem Cac.stamp {O : Nat → Prop} {w : World} {bc most now n : Nat} {v : Value} {e : Nat → Ent} (h : Cac O w bc most now n v e) (i : Nat) (hi : i < n) (k : Nat) :
    Cac O ((w.setCell ⟨bc, 1, none⟩ (.int .i64 k)).setCell ⟨(e i).p, 5, none⟩ (.int .i64 k)).drew bc most k n v (setK e i k) ∧
    KeptO O w ((w.setCell ⟨bc, 1, none⟩ (.int .i64 k)).setCell ⟨(e i).p, 5, none⟩ (.int .i64 k)).drew := by
  obtain ⟨g, cap, cur, rfl, hg, _, _, _, hc⟩ := h.at (by omega)
  obtain ⟨n1, n2, n3⟩ := h.ne hi
  obtain ⟨bv, he⟩ := h.ent i hi
  have hk : KeptO O w ((w.setCell ⟨bc, 1, none⟩ (.int .i64 k)).setCell ⟨(e i).p, 5, none⟩ (.int .i64 k)).drew :=
    (KeptO.set (O := O) 1 (.int .i64 k) h.own).trans ((KeptO.set (O := O) 5 (.int .i64 k) he.own).trans (KeptO.of_below (O := O) (Below.refl _ _).drew) (fun _ _ h => h)) (fun _ _ h => h)
  have hb : ∀ b, b ≠ bc → b ≠ (e i).p → ((w.setCell ⟨bc, 1, none⟩ (.int .i64 k)).setCell ⟨(e i).p, 5, none⟩ (.int .i64 k)).drew.heap[b]? = w.heap[b]? := by
    intro b h1 h2
    show ((w.setCell ⟨bc, 1, none⟩ (.int .i64 k)).setCell ⟨(e i).p, 5, none⟩ (.int .i64 k)).heap[b]? = _
    rw [heap_setCell_ne h2, heap_setCell_ne h1]
  refine ⟨⟨?_, ?_, ?_, ?_, h.own, h.ownv, fun b ob => Nat.lt_of_lt_of_le (h.old b ob) hk.size⟩, hk⟩
  · show ((w.setCell ⟨bc, 1, none⟩ (.int .i64 k)).setCell ⟨(e i).p, 5, none⟩ (.int .i64 k)).heap[bc]? = _
    rw [heap_setCell_ne (fun e => n2 e.symm), heap_setCell h.blk]
    rfl
  · have : (fun j => ptr (setK e i k j).p) = fun j => ptr (e j).p := by funext j; rw [setK_p]
    rw [this]
    exact ownsRow_heap h.row (fun b eb => by cases eb; exact hb g (fun e => n1 e.symm) (fun e => n3 e.symm))
  · intro j hj
    by_cases eq : j = i
    · subst eq
      refine ⟨bv, ?_, ?_, ?_, he.ownb⟩
      · rw [setK_p]
        show ((w.setCell ⟨bc, 1, none⟩ (.int .i64 k)).setCell ⟨(e j).p, 5, none⟩ (.int .i64 k)).heap[(e j).p]? = _
        have h0 : (w.setCell ⟨bc, 1, none⟩ (.int .i64 k)).heap[(e j).p]? = some (.cells ((e j).cells bv) 44 (0, 0)) := by
          rw [heap_setCell_ne n2]; exact he.blk
        rw [heap_setCell h0]
        simp [Ent.cells, setK]
      · have : (setK e j k j).bs = (e j).bs := by simp [setK]
        rw [this]
        refine ownsRow_heap he.row (fun b eb => hb b ?_ ?_)
        · intro eq
          obtain ⟨c1, hc1⟩ := ownsRow_kind he.row b eb
          rw [eq, h.blk] at hc1; simp at hc1
        · intro eq
          obtain ⟨c1, hc1⟩ := ownsRow_kind he.row b eb
          rw [eq, he.blk] at hc1; simp at hc1
      · rw [setK_p]; exact he.own
    · obtain ⟨bj, hj'⟩ := h.ent j hj
      have ej : setK e i k j = e j := by simp [setK, eq]
      rw [ej]
      refine ⟨bj, hj'.kept (hb _ (h.ne hj).2.1 (fun h' => eq (h.inj j i hj hi h'))) (fun b eb => hb b ?_ ?_) (fun _ h => h)⟩
      · intro eq
        obtain ⟨c1, hc1⟩ := ownsRow_kind hj'.row b eb
        rw [eq, h.blk] at hc1; simp at hc1
      · intro eq
        obtain ⟨c1, hc1⟩ := ownsRow_kind hj'.row b eb
        rw [eq, he.blk] at hc1; simp at hc1
  · intro a b ha hb'
    rw [setK_p, setK_p]
    exact h.inj a b ha hb'

/-- A row as heap finds it. -/
theorem Cac.rowS {O : Nat → Prop} {w : World} {bc most now n g cap : Nat} {e : Nat → Ent} (h : Cac O w bc most now n (.slice (some ⟨g, 0, none⟩) n cap) e) (hn : 0 < n) : RowS w g cap n e w ∧ n ≤ cap ∧ cap ≤ maxLen := by
  obtain ⟨g', cap', cur, e1, hg, h1, h2, hs, hc⟩ := h.at hn
  cases e1
  refine ⟨⟨grownBy_refl _ _, ⟨cur, hg, hs, hc⟩, fun j hj => ?_⟩, h1, h2⟩
  obtain ⟨bv, he⟩ := h.ent j hj
  exact ⟨(h.ne hj).2.2, he.c.2.1⟩

set_option maxHeartbeats 2000000 in
set_option maxRecDepth 100000 in
theorem cac_use {O : Nat → Prop} {w : World} {bc most now n : Nat} {v : Value} {e : Nat → Ent} (h : Cac O w bc most now n v e) (hn : n ≤ 1099511627776) (hnow : now ≤ 1099511627776) (i : Nat) (hi : i < n) :
    Calls Try.prog 14 #[.pointer (some ⟨bc, 0, none⟩), .int .i64 i] w fun x w' =>
      x = .returned (.tuple #[]) ∧ Cac O w' bc most (now + 1) n v (fixH Ent.k n (setK e i ((now + 1 : Nat) : Int)) i) ∧ KeptO O w w' := by
  obtain ⟨g, cap, cur, rfl, hg, _, _, _, hcc⟩ := h.at (by omega)
  obtain ⟨n1, n2, n3⟩ := h.ne hi
  have n1' : ¬ g = bc := fun e => n1 e.symm
  have n2' : ¬ bc = (e i).p := fun e => n2 e.symm
  have n3' : ¬ g = (e i).p := fun e => n3 e.symm
  obtain ⟨bv, he⟩ := h.ent i hi
  obtain ⟨q0, q1, q2, q3⟩ := h.c0
  obtain ⟨q4, q5, q6⟩ := he.c
  have q7 : w.cell? ⟨g, i, none⟩ = some (.pointer (some ⟨(e i).p, 0, none⟩)) := by rw [cell_of_heap hg]; exact hcc i hi
  have hi' : (i : Int) < n := by omega
  obtain ⟨m, hm⟩ : ∃ m, now + 1 = m := ⟨_, rfl⟩
  rw [hm]
  have hnow1 : (now : Int) + 1 = (m : Nat) := by omega
  have hm2 : m ≤ 1099511627777 := by omega
  obtain ⟨hst, hk⟩ := h.stamp i hi m
  have hfix := fix_any (row_heap _ bc g cap n n1 hst.c0.2.2.1) hn i (setK e i (m : Int)) hi _ (hst.rowS (by omega)).1
  have hrs := hst.rowS (by omega)
  clear he hcc hg hm
  go_enter Try.func14, Try.ntmps14
  replace hst := Lib.hid hst
  replace hk := Lib.hid hk
  replace hfix := Lib.hid hfix
  replace hrs := Lib.hid hrs
  go_wp2_with fail
  go_region
  go_wp2_with fail
  refine hfix.out.mono ?_
  rintro x w1 ⟨rfl, hr⟩
  obtain ⟨hc1, hk1⟩ := hst.out.moved n1 hr (moved_fix Ent.k n _ i hi) hrs.out.2.1 hrs.out.2.2
  have hk2 := hk.out.trans hk1 (fun _ _ h => h)
  clear hst hk hfix hrs hr
  go_wp2_with fail
  go_returns
  exact ⟨rfl, hc1, hk2⟩

/-- An entry's bytes, cloned. -/
theorem clone_ent {O : Nat → Prop} {w : World} {x : Ent} {bv : Value} (h : EntAt O w x bv) (xs : List Int) (hx : x.bs = xs.map (Value.int .u8)) (h0 : 0 < xs.length) (hb : xs.length ≤ 140737488355328) :
    Calls Try.prog 13 #[bv] w fun r w' => ∃ v', r = .returned v' ∧ w'.ownsRow w.heap.size 5 1 v' x.bs.length x.bs ∧ Below w.heap.size w w' := by
  have hl : x.bs.length = xs.length := by rw [hx]; simp
  rcases h.row.2 with ⟨_, hz⟩ | ⟨g, cap, cur, rfl, _, hg, _, _, hs, ht⟩
  · omega
  · have hc : ∀ i, i < xs.length → w.cell? ((⟨g, 0, none⟩ : Addr).add i) = some (.int .u8 (xs.getD i 0)) := by
      intro i hi
      have e1 : w.cell? ((⟨g, 0, none⟩ : Addr).add i) = cur[i]? := by
        cases i with
        | zero => simp [Addr.add, World.cell?, hg]
        | succ i => simp [Addr.add, World.cell?, hg]
      rw [e1]
      have : x.bs[i]? = some (.int .u8 (xs.getD i 0)) := by
        rw [hx]; simp [List.getD, hi]
      rw [← ht, List.getElem?_take] at this
      exact (by simpa using this : _ ∧ _).2
    rw [hl]
    refine (Try.bytes_Clone_at ⟨g, 0, none⟩ xs.length cap xs w rfl hb hc).mono ?_
    rintro r w1 ⟨v', rfl, h1, _, h2⟩
    refine ⟨v', rfl, ?_, h2⟩
    rw [hx]; exact h1

set_option maxHeartbeats 2000000 in
set_option maxRecDepth 100000 in
/-- What is told of a tile. -/
theorem cac_get {O : Nat → Prop} {w : World} {bc most now n : Nat} {v : Value} {e : Nat → Ent} (h : Cac O w bc most now n v e) (hn : n ≤ 1099511627776) (hnow : now ≤ 1099511627776) (t : Tl)
    (hbs : ∀ j, j < n → ∃ xs : List Int, (e j).bs = xs.map (Value.int .u8) ∧ 0 < xs.length ∧ xs.length ≤ 140737488355328) :
    Calls Try.prog 8 #[.pointer (some ⟨bc, 0, none⟩), t.val] w fun x w' =>
      (x = .returned (.tuple #[.slice none 0 0, .bool false]) ∧ (∀ i, i < n → (e i).t ≠ t) ∧ Below w.heap.size w w') ∨
      (∃ i u, i < n ∧ (e i).t = t ∧ x = .returned (.tuple #[u, .bool true]) ∧ Cac O w' bc most (now + 1) n v (fixH Ent.k n (setK e i ((now + 1 : Nat) : Int)) i) ∧ KeptO O w w' ∧
        w'.ownsRow w.heap.size 5 1 u (e i).bs.length (e i).bs) := by
  have hb0 : Below w.heap.size w (w.alloc (.cells #[.int .i64 t.z, .int .i64 t.x, .int .i64 t.y, .int .i64 t.r] 28)) := kept_alloc (Below.refl _ _) _
  have h1 := Lib.hid (h.later hb0)
  have hf := cac_find h1.out hn t
  have H := Lib.hid h
  have Hb := Lib.hid hbs
  clear h hbs
  unfold Tl.val at hf ⊢
  go_enter Try.func8, Try.ntmps8
  go_wp2_with fail
  refine hf.mono ?_
  rintro x w1 ⟨r, rfl, hb1, hr⟩
  clear hf
  have hbel := kept_trans hb0 hb1
  have h2 := Lib.hid (h1.out.later hb1)
  clear h1 hb1
  rcases hr with ⟨i, hi, rfl, ht⟩ | ⟨rfl, hno⟩
  · have hi' : (i : Int) < n := by omega
    have hi0 : ¬ (i : Int) < 0 := by omega
    obtain ⟨g, cap, cur, rfl, hg, _, _, _, hcc⟩ := h2.out.at (by omega)
    obtain ⟨bv, he⟩ := h2.out.ent i hi
    obtain ⟨q0, q1, q2, q3⟩ := h2.out.c0
    obtain ⟨q4, q5, q6⟩ := he.c
    have q7 : w1.cell? ⟨g, i, none⟩ = some (.pointer (some ⟨(e i).p, 0, none⟩)) := by rw [cell_of_heap hg]; exact hcc i hi
    obtain ⟨xs, x1, x2, x3⟩ := Hb.out i hi
    have hcl := clone_ent he xs x1 x2 x3
    clear hcc hg he x1
    go_wp2_with fail
    refine hcl.mono ?_
    rintro x w2 ⟨u, rfl, hu, hb2⟩
    clear hcl
    have hus := cac_use (h2.out.later hb2) hn hnow i hi
    have hus := hus
    go_wp2_with fail
    refine hus.mono ?_
    rintro x w3 ⟨rfl, hc3, hk3⟩
    clear hus
    have hk : KeptO O w w3 := (KeptO.of_below (O := O) (kept_trans hbel hb2)).trans hk3 (fun _ _ h => h)
    have hu3 : w3.ownsRow w.heap.size 5 1 u (e i).bs.length (e i).bs := by
      refine ownsRow_heap (owns_base hu hbel.size) (fun k ek => ?_)
      obtain ⟨b1, b2⟩ := hu.lt k ek
      exact hk3.block k b2 (fun ok => by have := H.out.old k ok; have := hbel.size; omega)
    go_wp2_with fail
    go_returns
    exact Or.inr ⟨i, u, hi, ht, rfl, hc3, hk, hu3⟩
  · go_wp2_with fail
    go_returns
    exact Or.inl ⟨rfl, hno, hbel⟩

end Go.Proofs.Ytogdnkdndhodmaa

/- Walks: Keys; an Evict that is refused. -/
import Derived.Test.YtogdnkdndhodmaaKeys
import Derived.Test.YtogdnkdndhodmaaApp
namespace Go.Proofs.Ytogdnkdndhodmaa
open Go.RowKit Go.Sort Go.Shelf

theorem Try.info28 : (Try.prog.info? 28).map (fun i => (i.zero, i.size, i.bytes)) = some (some (.agg #[.int .i64 0, .int .i64 0, .int .i64 0, .int .i64 0]), 4, 32) := by kernel_rfl

def Tl.cells (t : Tl) : List Value := [.int .i64 t.z, .int .i64 t.x, .int .i64 t.y, .int .i64 t.r]

theorem cells_take (s : List Nat) (e : Nat → Ent) (k : Nat) (hk : k < s.length) : (s.take (k + 1)).flatMap (fun i => (e i).t.cells) = (s.take k).flatMap (fun i => (e i).t.cells) ++ (e (s.getD k 0)).t.cells := by
  rw [List.take_succ_eq_append_getElem hk, List.flatMap_append]
  simp [List.getD, hk]

/-- What Keys leaves. -/
def KeysPost (n : Nat) (e : Nat → Ent) (w : World) (r : Ending) (w' : World) : Prop := ∃ (s : List Nat) (a : Option Addr) (cap : Nat), s.Perm (List.range n) ∧ s.Pairwise (fun i j => (e i).k ≤ (e j).k) ∧
  r = .returned (.slice a n cap) ∧ w'.ownsRow w.heap.size 28 4 (.slice a n cap) n (s.flatMap fun i => (e i).t.cells) ∧ Below w.heap.size w w'

set_option maxHeartbeats 4000000 in
set_option maxRecDepth 100000 in
theorem cac_keys {O : Nat → Prop} {w : World} {bc most now n : Nat} {v : Value} {e : Nat → Ent} (h : Cac O w bc most now n v e) (hn0 : 0 < n) (hn : n ≤ 1000000) (hk : ∀ j, j < n → 0 ≤ (e j).k ∧ (e j).k ≤ 1099511627776) :
    Calls Try.prog 17 #[.pointer (some ⟨bc, 0, none⟩)] w (KeysPost n e w) := by
  obtain ⟨i0, hi, hz0, hz1, hz2⟩ := info_parts Try.info28
  obtain ⟨i1, hi1, hy0, hy1, hy2⟩ := info_parts Try.info45
  obtain ⟨g, cap, cur, rfl, hg, hnc, hcm, hcs, hcc⟩ := h.at hn0
  obtain ⟨c0, c1, c2, c3⟩ := h.c0
  have hcl := AnyE.slices_Clone Try.cloneL i1 (.pointer none) 1 8 hi1 hy0 hy1 hy2 rfl (by decide) Try.sizeOf45 g 0 n cap (rowOf n fun j => ptr (e j).p) w (by simp [rowOf]) (by unfold maxLen; omega) (by omega)
    (fun j u hu => by
      have hj : j < n := by have := (List.getElem?_eq_some_iff.1 hu).1; simpa [rowOf] using this
      rw [rowOf_get n _ j hj] at hu
      cases hu
      rw [Nat.zero_add, cell_of_heap hg]; exact hcc j hj)
    (fun u hu => by
      obtain ⟨j, _, rfl⟩ := List.mem_map.1 hu
      rfl)
  change Calls Try.prog 26 _ _ _ at hcl
  have hent0 : ∀ j, j < n → (e j).p < w.heap.size ∧ w.cell? ⟨(e j).p, 5, none⟩ = some (.int .i64 (e j).k) ∧ TlAt w (e j).p (e j).t := fun j hj => by
    obtain ⟨bv, he⟩ := h.ent j hj
    exact ⟨h.old _ he.own, he.c.2.1, he.tl⟩
  replace hent0 := Lib.hid hent0
  clear hcc hg h
  go_enter Try.func17, Try.ntmps17
  go_wp2_with fail
  refine hcl.mono ?_
  clear hcl
  rintro r w1 ⟨v1, rfl, ho1, _, hb1⟩
  obtain ⟨g1, cap1, rfl, hg1, cur1, hh1, hcell1⟩ : ∃ g1 cap1, v1 = .slice (some ⟨g1, 0, none⟩) n cap1 ∧ w.heap.size ≤ g1 ∧ ∃ cur1, w1.heap[g1]? = some (.cells cur1 45 (0, 0)) ∧ ∀ j, j < n → w1.cell? ⟨g1, j, none⟩ = some (ptr (e j).p) := by
    rcases ho1.2 with ⟨_, h0⟩ | ⟨g1, cap1, cur1, h1, h2, h3, h4, h5, h6, h7⟩
    · omega
    · refine ⟨g1, cap1, h1, h2, cur1, h3, fun j hj => ?_⟩
      rw [cell_of_heap h3, ← Array.getElem?_toList]
      have := rowOf_get n (fun j => ptr (e j).p) j hj
      rw [← h7, List.getElem?_take] at this
      simpa [hj] using this
  have hg1l : g1 < w1.heap.size := World.block_lt_of_cell? _ _ (hcell1 0 hn0)
  have hso := keys_sort n e g1 cap1 w1 hn0 hn hg1l hcell1 (fun o => by simp [World.frozen?, hh1]) (fun j hj => by
    obtain ⟨a1, a2, a3⟩ := hent0.out j hj
    exact ⟨by omega, Nat.lt_of_lt_of_le a1 hb1.size, later hb1 a2⟩) hk
  clear ho1 hh1 hcell1
  go_wp2_with fail
  refine hso.mono ?_
  clear hso
  rintro r w2 ⟨rfl, s, hs1, hs2, hs3, hg2⟩
  have hsl : s.length = n := by simpa using hs1.length_eq
  have hb2 : Below w.heap.size w w2 := hb1.grown hg2 hb1.size (fun k ek => by cases ek; exact hg1)
  have hg1l2 : g1 < w2.heap.size := Nat.lt_of_lt_of_le hg1l hg2.size
  replace hs3 := Lib.hid hs3
  replace hs1 := Lib.hid hs1
  replace hs2 := Lib.hid hs2
  clear hg2 hb1
  go_wp2_with fail
  go_loopw [4, 16] (fun o x wr => ∃ (k : Nat) (a : Option Addr) (c : Nat), x = .int .i64 k ∧ k ≤ n ∧ o = .slice a k c ∧ Hid (wr.ownsRow w2.heap.size 28 4 (.slice a k c) k ((s.take k).flatMap fun i => (e i).t.cells) ∧ Below w2.heap.size w2 wr))
    (fun _ x _ => n - (intOf x).toNat)
  case atStart => exact ⟨0, none, 0, rfl, by omega, rfl, Lib.hid ⟨World.ownsRow_nil _ _ _ _, Below.refl _ _⟩⟩
  case round =>
    obtain ⟨k, a, c, rfl, hkn, rfl, HR⟩ := hrel
    by_cases hlt : k < n
    · have hlt' : (k : Int) < n := by omega
      have hsm : s.getD k 0 < n := by
        have : s.getD k 0 ∈ s := by
          have : s.getD k 0 = s[k]'(by omega) := by simp [List.getD, hsl, hlt]
          rw [this]; exact List.getElem_mem _
        simpa using hs1.out.subset this
      have d0 := later HR.out.2 (hs3.out k hlt)
      obtain ⟨f1, f2, f3⟩ := hent0.out _ hsm
      obtain ⟨t0, t1, t2, t3⟩ := (f3.later hb2).later HR.out.2
      have hsn := cells_take s e k (by omega)
      replace hsn := Lib.hid hsn
      generalize (e (s.getD k 0)) = E at d0 t0 t1 t2 t3 hsn f1
      have hr1 := Lib.hid (HR.out.1.alloc (.cells #[.int .i64 E.t.z, .int .i64 E.t.x, .int .i64 E.t.y, .int .i64 E.t.r] 28))
      have hws := HR.out.2.size
      unfold ptr at d0
      clear f2 f3
      go_wp2_with (at_builtin; refine wpList_append_at rfl _ _ 50 rfl w2.heap.size 28 i0 (.agg #[.int .i64 0, .int .i64 0, .int .i64 0, .int .i64 0]) 4 32 Try.underlying50 hi hz0 hz1 hz2 rfl (by decide) _ k _ rfl hr1.out ⟨wr.heap.size, 0, none⟩ 1 1 E.t.cells rfl rfl ?_ ?_ ?_ ?_ ?_ ?_)
      · intro j u hu
        have hnb := heap_alloc_new wr (.cells #[.int .i64 E.t.z, .int .i64 E.t.x, .int .i64 E.t.y, .int .i64 E.t.r] 28)
        have e1 : ((⟨wr.heap.size, 0, none⟩ : Addr).add j) = ⟨wr.heap.size, j, none⟩ := by cases j <;> simp [Addr.add]
        rw [e1, cell_of_heap hnb, ← Array.getElem?_toList]
        exact hu
      · intro u hu
        simp only [Tl.cells, List.mem_cons, List.not_mem_nil, or_false] at hu
        rcases hu with rfl | rfl | rfl | rfl <;> rfl
      · unfold maxLen; omega
      · omega
      · simp only [World.size_alloc]; omega
      intro v' w4 hown4 hg4 hblk
      obtain ⟨a', c', rfl⟩ : ∃ a' c', v' = .slice a' (k + 1) c' := by
        rcases hown4.2 with ⟨_, h0⟩ | ⟨g, cap, cur, h0, _⟩
        · omega
        · exact ⟨_, _, h0⟩
      have HR' : Hid (w4.ownsRow w2.heap.size 28 4 (.slice a' (k + 1) c') (k + 1) ((s.take (k + 1)).flatMap fun i => (e i).t.cells) ∧ Below w2.heap.size w2 w4) := Lib.hid (by
        rw [hsn.out]
        exact ⟨hown4, kept_grown (kept_alloc HR.out.2 _) hr1.out (Nat.le_refl _) hg4⟩)
      clear hown4 hg4 hblk hr1 hsn d0 t0 t1 t2 t3
      go_wp2_with fail
      go_roundw
      case rel => exact ⟨k + 1, a', c', by go_num, by omega, rfl, HR'⟩
      case measure => simp [intOf]; omega
    · obtain rfl : k = n := by omega
      have hlt' : ¬ (k : Int) < k := by omega
      go_wp2_with fail
      go_returns
      have hR := HR.out
      rw [List.take_of_length_le (by omega)] at hR
      exact ⟨s, a, c, hs1.out, hs2.out, rfl, owns_base hR.1 hb2.size, kept_trans hb2 hR.2⟩

set_option maxHeartbeats 2000000 in
set_option maxRecDepth 100000 in
/-- An Evict of none. -/
theorem evict_not {O : Nat → Prop} {w : World} {bc most now n : Nat} {v : Value} {e : Nat → Ent} (h : Cac O w bc most now n v e) (hn0 : 0 < n) (hn : n ≤ 1000000) (hk : ∀ j, j < n → 0 ≤ (e j).k ∧ (e j).k ≤ 1099511627776) (i : Int) (hi : i < 0 ∨ (n : Int) ≤ i) :
    Calls Try.prog 10 #[.pointer (some ⟨bc, 0, none⟩), .int .i64 i] w fun r w' => r = .returned (.bool false) ∧ Below w.heap.size w w' := by
  have hks := cac_keys h hn0 hn hk
  clear h hk
  rcases hi with hi | hi
  · go_enter Try.func10, Try.ntmps10
    go_wp2_with fail
    refine hks.mono ?_
    clear hks
    rintro r w1 ⟨s, a, cap, _, _, rfl, _, hb1⟩
    go_wp2_with fail
    go_returns
    exact ⟨rfl, hb1⟩
  · have hi0 : ¬ i < 0 := by omega
    go_enter Try.func10, Try.ntmps10
    go_wp2_with fail
    refine hks.mono ?_
    clear hks
    rintro r w1 ⟨s, a, cap, _, _, rfl, _, hb1⟩
    go_wp2_with fail
    go_returns
    exact ⟨rfl, hb1⟩

end Go.Proofs.Ytogdnkdndhodmaa

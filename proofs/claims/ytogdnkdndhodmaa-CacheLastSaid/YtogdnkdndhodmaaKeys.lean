/- Walks: the cache's keys, in the order of use. -/
import Derived.Test.YtogdnkdndhodmaaCacN
import Derived.Test.YtogdnkdndhodmaaKShelf
namespace Go.Proofs.Ytogdnkdndhodmaa
open Go.RowKit Go.Sort Go.Shelf

set_option maxHeartbeats 1000000 in
set_option maxRecDepth 100000 in
theorem keys_cmp (bx bk : Nat) (x y : Int) (W : World) (c1 : W.cell? ⟨bx, 5, none⟩ = some (.int .i64 x)) (c2 : W.cell? ⟨bk, 5, none⟩ = some (.int .i64 y))
    (hx0 : 0 ≤ x) (hx1 : x ≤ 1099511627776) (hy0 : 0 ≤ y) (hy1 : y ≤ 1099511627776) :
    Calls Try.prog 28 #[.pointer (some ⟨bx, 0, none⟩), .pointer (some ⟨bk, 0, none⟩)] W fun r w' => r = .returned (.int .i64 (x - y)) ∧ ∃ q, w' = W.drewN q := by
  have l1 := World.block_lt_of_cell? _ _ c1
  have l2 := World.block_lt_of_cell? _ _ c2
  go_enter Try.func28, Try.ntmps28
  go_wp2_with fail
  go_region
  go_wp2_with fail
  go_returns
  exact ⟨rfl, 1, rfl⟩

/-- The i-th pointer; past the end the last. -/
def pAt (n : Nat) (e : Nat → Ent) (i : Nat) : Value := ptr (e (min i (n - 1))).p
def kAt (n : Nat) (e : Nat → Ent) (i : Nat) : Int := (e (min i (n - 1))).k
def cfK (n : Nat) (e : Nat → Ent) (i j : Nat) : Int := kAt n e i - kAt n e j

theorem ltK (n : Nat) (e : Nat → Ent) (i j : Nat) : ltOf (cfK n e) i j = decide (kAt n e i < kAt n e j) := by
  unfold ltOf cfK
  by_cases h : kAt n e i < kAt n e j
  · rw [decide_eq_true h, decide_eq_true (by omega)]
  · rw [decide_eq_false h, decide_eq_false (by omega)]

theorem swo_cfK (n : Nat) (e : Nat → Ent) : SWO (ltOf (cfK n e)) where
  irrefl x := by rw [ltK, decide_eq_false_iff_not]; omega
  trans x y z h1 h2 := by rw [ltK, decide_eq_true_eq] at *; omega
  ntrans x y z h1 h2 := by rw [ltK, decide_eq_false_iff_not] at *; omega

theorem heap_putRow {α : Type} [Inhabited α] (enc : α → Value) (w : World) (blk off : Nat) (d : Array α) (k : Nat) (h : k ≠ blk) : (putRow enc w blk off d).heap[k]? = w.heap[k]? := by
  unfold putRow mapBlock
  simp only [Array.getElem?_modify]
  rw [if_neg (fun e => h e.symm)]

theorem sw_grown {α : Type} [Inhabited α] {enc : α → Value} {w w' : World} {blk off : Nat} {d : Array α} (h : SW enc w blk off d w') : w.grownBy w' (some blk) := by
  obtain ⟨n, os, rfl⟩ := h
  refine ⟨rfl, rfl, rfl, ?_, fun k hk hne => ?_⟩
  · show w.heap.size ≤ ((putRow enc (Sort.ahead w n) blk off d).heap ++ os).size
    rw [Array.size_append, size_putRow]
    show w.heap.size ≤ w.heap.size + _
    omega
  · unfold sortWorld
    rw [heap_grow_old _ _ (by rw [size_putRow]; exact hk)]
    exact heap_putRow enc (Sort.ahead w n) blk off d k (fun e => hne (by rw [e]))

theorem cell_sortWorld {α : Type} [Inhabited α] (enc : α → Value) (w : World) (blk off m : Nat) (d : Array α) (os : Array Obj) (b o : Nat) (hb : b ≠ blk) (hl : b < w.heap.size) :
    (sortWorld enc w blk off m d os).cell? ⟨b, o, none⟩ = w.cell? ⟨b, o, none⟩ :=
  World.cell?_of_block (a := ⟨b, o, none⟩) ((sw_grown (enc := enc) (w := w) (blk := blk) (off := off) (d := d) ⟨m, os, rfl⟩).block b hl (fun e => hb (by cases e; rfl)))

set_option maxHeartbeats 2000000 in
set_option maxRecDepth 100000 in
theorem keys_sort (n : Nat) (e : Nat → Ent) (g cap : Nat) (W : World) (hn0 : 0 < n) (hn : n ≤ 1000000) (hg : g < W.heap.size)
    (hrow : ∀ j, j < n → W.cell? ⟨g, j, none⟩ = some (ptr (e j).p)) (hfr : ∀ o, W.frozen? ⟨g, o, none⟩ = false)
    (hent : ∀ j, j < n → (e j).p ≠ g ∧ (e j).p < W.heap.size ∧ W.cell? ⟨(e j).p, 5, none⟩ = some (.int .i64 (e j).k)) (hk : ∀ j, j < n → 0 ≤ (e j).k ∧ (e j).k ≤ 1099511627776) :
    Calls Try.prog 27 #[.slice (some ⟨g, 0, none⟩) n cap, .func (.func 28) #[] #[]] W fun r w' =>
      r = .returned (.tuple #[]) ∧ ∃ s : List Nat, s.Perm (List.range n) ∧ s.Pairwise (fun i j => (e i).k ≤ (e j).k) ∧ (∀ j, j < n → w'.cell? ⟨g, j, none⟩ = some (ptr (e (s.getD j 0)).p)) ∧ W.grownBy w' (some g) := by
  have eg : ∀ args w, (callFunc 28 args).run Try.prog w = .ok (.enter 28 args) w := enters_of Try.func28 (by kernel_rfl) rfl
  have hsz : (Array.range n).size = n := Array.size_range
  have hget : ∀ j, j < n → (Array.range n)[j]! = j := fun j hj => by rw [getElem!_pos _ _ (by rw [hsz]; exact hj), Array.getElem_range]
  have hH : Holds (pAt n e) W g 0 (Array.range n) := fun j hj => by
    rw [hsz] at hj
    rw [Nat.zero_add, hget j hj]
    refine ⟨?_, hfr j⟩
    have : pAt n e j = ptr (e j).p := by unfold pAt; rw [Nat.min_eq_left (by omega)]
    rw [this]; exact hrow j hj
  have hcmp : CmpReads Try.prog 28 #[] (pAt n e) (cfK n e) g 0 (Array.range n).size W := fun m os dk _ x y => by
    obtain ⟨a1, a2, a3⟩ := hent (min x (n - 1)) (by omega)
    obtain ⟨b1, b2, b3⟩ := hent (min y (n - 1)) (by omega)
    obtain ⟨k1, k2⟩ := hk (min x (n - 1)) (by omega)
    obtain ⟨k3, k4⟩ := hk (min y (n - 1)) (by omega)
    exact keys_cmp _ _ _ _ _ ((cell_sortWorld _ W g 0 m dk os _ 5 a1 a2).trans a3) ((cell_sortWorld _ W g 0 m dk os _ 5 b1 b2).trans b3) k1 k2 k3 k4
  have hp := Any.pdqsortCmpFunc_all Try.pdqL (pAt n e) (cfK n e) 28 #[] (swo_cfK n e) g 0 cap (Array.range n) W eg hcmp.lays ⟨fun _ => rfl, hH, hg⟩ ((Array.range n).size + 1) 0 (Array.range n).size (Lib.bitLen n) (Array.range n) W
    (by omega) rfl (SW.start hH) (Nat.zero_le _) (Nat.le_refl _) (by rw [hsz]; omega) (Nat.lt_of_le_of_lt (Lib.bitLen_le n 62 (by omega) (by omega)) (by omega)) (Or.inl rfl)
  have hso := pdq_sorts (ltOf (cfK n e)) (swo_cfK n e) (Array.range n) 0 (Array.range n).size (Lib.bitLen n) true true (Nat.zero_le _) (Nat.le_refl _) (Or.inl rfl)
  generalize pdq (ltOf (cfK n e)) (Array.range n) 0 (Array.range n).size (Lib.bitLen n) true true = d' at hp hso
  rw [hsz] at hp hso
  change Calls Try.prog 31 _ _ _ at hp
  have hl := Try.bits_Len (n : Int) W (by omega) (by omega)
  rw [Int.toNat_natCast] at hl
  have wr : IntKind.u64.wrap (n : Int) = n := by simp [IntKind.wrap, IntKind.bits, IntKind.signed]; omega
  have HP : Hid (∀ w', SW (pAt n e) W g 0 d' w' → ∃ s : List Nat, s.Perm (List.range n) ∧ s.Pairwise (fun i j => (e i).k ≤ (e j).k) ∧ (∀ j, j < n → w'.cell? ⟨g, j, none⟩ = some (ptr (e (s.getD j 0)).p)) ∧ W.grownBy w' (some g)) := Lib.hid (by
    intro w' hs
    obtain ⟨⟨p1, p2, p3⟩, p4⟩ := hso
    rw [hsz] at p1
    have p5 : d'.toList.Perm (List.range n) := by
      have e1 : d'.extract 0 n = d' := by rw [← p1]; exact Array.extract_size
      have e2 : (Array.range n).extract 0 n = Array.range n := by
        have : (Array.range n).extract 0 (Array.range n).size = Array.range n := Array.extract_size
        rwa [hsz] at this
      rw [e1, e2, Array.toList_range] at p3
      exact p3
    have hlt : ∀ i, i < n → d'[i]! < n := fun i hi => by
      have : d'[i]! ∈ d'.toList := by
        rw [getElem!_pos _ _ (by rw [p1]; exact hi)]
        simp
      simpa using p5.subset this
    have hgd : ∀ j, j < n → d'.toList.getD j 0 = d'[j]! := fun j hj => by
      rw [getElem!_pos _ _ (by rw [p1]; exact hj)]
      simp [List.getD, p1, hj]
    refine ⟨d'.toList, p5, ?_, ?_, sw_grown hs⟩
    · rw [List.pairwise_iff_getElem]
      intro i j hi hj hij
      have hj' : j < n := by simpa [p1] using hj
      have := p4 i j (Nat.zero_le _) hij hj'
      have l1 := hlt i (by omega)
      have l2 := hlt j hj'
      rw [getElem!_pos _ _ (by rw [p1]; omega)] at l1 this
      rw [getElem!_pos _ _ (by rw [p1]; omega)] at l2 this
      rw [ltK, decide_eq_false_iff_not] at this
      unfold kAt at this
      rw [Nat.min_eq_left (by omega), Nat.min_eq_left (by omega)] at this
      simp only [Array.getElem_toList]
      omega
    · intro j hj
      have h1 := (hs.holds hg hH (by rw [p1, hsz])) j (by rw [p1]; exact hj)
      rw [Nat.zero_add] at h1
      rw [h1.1, hgd j hj]
      unfold pAt
      rw [Nat.min_eq_left (by have := hlt j hj; omega)])
  clear hH hcmp hso hget hrow hfr hent hk eg
  go_enter Try.func27, Try.ntmps27
  go_wp2_with fail
  refine hl.mono ?_
  rintro r w1 ⟨rfl, rfl⟩
  clear hl
  go_wp2_with fail
  refine hp.mono ?_
  rintro r w2 ⟨rfl, hs⟩
  clear hp
  have HQ := HP.out w2 hs
  clear hs
  replace HQ := Lib.hid HQ
  go_wp2_with fail
  go_returns
  exact ⟨rfl, HQ.out⟩

end Go.Proofs.Ytogdnkdndhodmaa

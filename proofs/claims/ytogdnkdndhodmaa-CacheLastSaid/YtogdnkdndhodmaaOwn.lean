/- Walks: what a cache is handed and tells is no part of it. -/
import Derived.Test.YtogdnkdndhodmaaAwake
import Derived.Test.YtogdnkdndhodmaaBits
namespace Go.Proofs.Ytogdnkdndhodmaa
open Go.RowKit Go.Sort

theorem Try.info5 : (Try.prog.info? 5).map (fun i => (i.zero, i.size, i.bytes)) = some (some (.int .u8 0), 1, 1) := by kernel_rfl

/-- A store into a block that is no part of it. -/
theorem CacN.set {X : Nat → Prop} {w0 w : World} {bc most now n : Nat} {e : Nat → Ent} (h : CacN X w0 bc most now n e w) {g : Nat} (hg : X g) (h0 : w0.heap.size ≤ g) (o : Nat) (v : Value) :
    CacN X w0 bc most now n e (w.setCell ⟨g, o, none⟩ v) := by
  obtain ⟨O, u, h1, h2, h3⟩ := h
  exact ⟨O, u, h1.kept (O' := fun k => k = g) (KeptO.set (O := fun k => k = g) o v rfl) (fun b ob e => (h3 b ob).2 (e ▸ hg)), kept_set h2 v h0, h3⟩

/-- Owned bytes. -/
theorem bytes_open {w : World} {base : Nat} {u : Value} {l : List Value} (xs : List Int) (hl : l = xs.map (Value.int .u8)) (h : w.ownsRow base 5 1 u l.length l) (h0 : 0 < xs.length) :
    ∃ g cap cur, u = .slice (some ⟨g, 0, none⟩) xs.length cap ∧ base ≤ g ∧ w.heap[g]? = some (.cells cur 5 (0, 0)) ∧ ∀ i, i < xs.length → w.cell? ⟨g, i, none⟩ = some (.int .u8 (xs.getD i 0)) := by
  subst hl
  rcases h.2 with ⟨_, h1⟩ | ⟨g, c, cur, rfl, h2, h3, h4, h5, h6, h7⟩
  · simp at h1; subst h1; simp at h0
  · refine ⟨g, c, cur, by simp, h2, h3, fun i hi => ?_⟩
    rw [cell_of_heap h3, ← Array.getElem?_toList]
    have := congrArg (fun l => l[i]?) h7
    simpa [List.getElem?_take, hi] using this

set_option maxHeartbeats 4000000 in
set_option maxRecDepth 100000 in
theorem own_main (bb off cap : Nat) (zs : List Int) (at' : Int) (w : World) (hL : 0 < zs.length) (hL5 : zs.length ≤ 500)
    (hc : ∀ i, i < zs.length → w.cell? ⟨bb, off + i, none⟩ = some (.int .u8 (zs.getD i 0))) (hat : (Lit.int .i64 at').wf = true) :
    Calls Try.prog 3 #[.slice (some ⟨bb, off, none⟩) zs.length cap, .int .i64 at'] w fun r w' => r = .returned (.bool true) ∧ Below w.heap.size w w' := by
  obtain ⟨i0, hi, hz0, hz1, hz2⟩ := info_parts Try.info5
  have hLi : (0 : Int) < zs.length := by omega
  have hLi5 : (zs.length : Int) ≤ 500 := by omega
  have hl0 : ((zs.length : Int) == 0) = false := by rw [beq_eq_false_iff_ne]; omega
  have Hc := Lib.hid hc
  clear hc
  go_enter Try.func3, Try.ntmps3
  go_wp2_with fail
  refine (cacN_New 3 (by omega) w).mono ?_
  rintro r w1 ⟨bc, rfl, C⟩
  have hc1 : ∀ i, i < zs.length → w1.cell? ⟨bb, off + i, none⟩ = some (.int .u8 (zs.getD i 0)) := fun i hi => later C.below (Hc.out i hi)
  have hst := run_convert_bytes_arg (P := Try.prog) w1 22 5 Try.underlying22 Try.underlying5 bb off zs.length cap zs rfl hc1 9 Try.underlying9
  have hc2 : ∀ j u, (zs.map (Value.int .u8))[j]? = some u → (w1.alloc (.cells #[] 5 (0, 0))).cell? ((⟨bb, off, none⟩ : Addr).add j) = some u := fun j u hu => by
    have hj : j < zs.length := by
      have := (List.getElem?_eq_some_iff.1 hu).1
      simpa using this
    have h1 := later (kept_alloc (Below.refl _ _) (.cells #[] 5 (0, 0))) (hc1 j hj)
    simp only [List.getElem?_map, List.getElem?_eq_getElem hj, Option.map_some, Option.some.injEq] at hu
    subst hu
    have e : ((⟨bb, off, none⟩ : Addr).add j) = ⟨bb, off + j, none⟩ := by cases j <;> simp [Addr.add]
    rw [e]
    simpa [hj] using h1
  have hr1 : (w1.alloc (.cells #[] 5 (0, 0))).ownsRow w1.heap.size 5 1 (.slice (some ⟨w1.heap.size, 0, none⟩) 0 0) 0 [] :=
    ⟨rfl, Or.inr ⟨w1.heap.size, 0, #[], rfl, Nat.le_refl _, heap_alloc_new w1 _, Nat.le_refl _, by unfold maxLen; omega, rfl, rfl⟩⟩
  replace hc1 := Lib.hid hc1
  replace hc2 := Lib.hid hc2
  replace hr1 := Lib.hid hr1
  go_wp2_with (at_builtin; refine wpList_append_at rfl _ _ 22 rfl w1.heap.size 5 i0 (.int .u8 0) 1 1 Try.underlying22 hi hz0 hz1 hz2 rfl (by decide) _ 0 [] rfl hr1.out ⟨bb, off, none⟩ zs.length cap (zs.map (Value.int .u8)) rfl (by simp) hc2.out ?_ ?_ ?_ ?_ ?_)
  · intro u hu
    obtain ⟨x, _, rfl⟩ := List.mem_map.1 hu
    rfl
  · unfold maxLen; omega
  · omega
  · simp
  intro v' w2 hown hg2 hblk
  obtain ⟨g, cg, rfl, hgl, ⟨cur, hgh⟩, hgc⟩ : ∃ g cg, v' = .slice (some ⟨g, 0, none⟩) zs.length cg ∧ w1.heap.size ≤ g ∧ (∃ cur, w2.heap[g]? = some (.cells cur 5 (0, 0))) ∧ ∀ i, i < zs.length → w2.cell? ⟨g, i, none⟩ = some (.int .u8 (zs.getD i 0)) := by
    rcases hown.2 with ⟨_, h0⟩ | ⟨g, c, cur, rfl, h2, h3, h4, h5, h6, h7⟩
    · omega
    · refine ⟨g, c, by simp only [Nat.zero_add], h2, ⟨cur, h3⟩, fun i hi => ?_⟩
      rw [cell_of_heap h3, ← Array.getElem?_toList]
      have := congrArg (fun l => l[i]?) h7
      simpa [List.getElem?_take, hi] using this
  have hb2 : Below w1.heap.size w1 w2 := kept_grown (kept_alloc (Below.refl _ _) _) hr1.out (Nat.le_refl _) hg2
  have hgw := World.block_lt_of_cell? _ _ (hgc 0 hL)
  have C2 : CacN (fun k => k = g) w bc 3 0 0 noE w2 := (C.ext.later hb2).mono (X' := fun k => k = g) (fun k e => Or.inr (by rw [e]; exact hgl))
  have h0g : w.heap.size ≤ g := Nat.le_trans C.below.size hgl
  have p1 := cacN_put_new C2 (fun k e => by rw [e]; exact hgw) (by omega) (by omega) (by omega) (by omega) ⟨0, 0, 0, 0⟩ (ok_z 0 0 (by omega)) (fun i hi => absurd hi (by omega)) 1 rfl g cg rfl zs hL (by omega) hgc
  simp only [Tl.val] at p1
  have Hgc := Lib.hid hgc
  clear hown hg2 hblk hr1 hc2 hst hb2 C2 hgc
  go_wp2_with fail
  refine p1.mono ?_
  rintro r w3 ⟨rfl, p, C3, K3⟩
  clear p1
  rw [if_neg (by omega), if_neg (by omega)] at C3
  obtain ⟨y1, hy1⟩ : ∃ y : Ent, y = ⟨p, ⟨0, 0, 0, 0⟩, zs.map (Value.int .u8), ((1 : Nat) : Int)⟩ := ⟨_, rfl⟩
  rw [← hy1, upH, dif_pos rfl] at C3
  have e1 : ∀ i, i < 0 + 1 → putE noE 0 y1 i = y1 := fun i hi => by
    obtain rfl : i = 0 := by omega
    rfl
  replace hy1 := Lib.hid hy1
  have hgh3 := (K3.block g hgw rfl).trans hgh
  have gf : ∀ o, w3.frozen? ⟨g, o, none⟩ = false := fun o => by simp [World.frozen?, hgh3]
  clear hgh hgh3
  obtain ⟨m, hm⟩ : ∃ m : Nat, bits .and .i64 at' 65535 = (m : Int) := ⟨(at' % 65536).toNat, by rw [and_65535]; omega⟩
  obtain ⟨k, hk, hkl⟩ : ∃ k : Nat, (m : Int) % (zs.length : Int) = (k : Int) ∧ k < zs.length := ⟨m % zs.length, by simp, Nat.mod_lt _ hL⟩
  have hk2 : (k : Int) < zs.length := by omega
  have gk := K3.cell rfl (Hgc.out k hkl)
  have gf := gf k
  obtain ⟨zk, hzk⟩ : ∃ z, zs.getD k 0 = z := ⟨_, rfl⟩
  rw [hzk] at gk
  clear hzk hc1 K3
  go_wp2_with fail
  have C3s := (C3.set rfl h0g k (.int .u8 ((zk + 1) % 256))).mono (X' := fun _ => False) (fun _ => False.elim)
  have g1 := cacN_get C3s (fun _ => False.elim) (by omega) (by omega) ⟨0, 0, 0, 0⟩ (fun j hj => ⟨zs, by rw [e1 j (by omega), hy1.out], hL, by omega⟩)
  simp only [Tl.val] at g1
  refine g1.mono ?_
  clear g1 C3s gk gf
  rintro x w4 (⟨_, hno, _⟩ | ⟨i, u, hi, ht, rfl, C4, _, hu⟩)
  · exact absurd (by rw [e1 0 (by omega), hy1.out]) (hno 0 (by omega))
  obtain rfl : i = 0 := by omega
  rw [e1 0 (by omega)] at hu
  have e4 : ∀ i, i < 0 + 1 → ∃ q, fixH Ent.k (0 + 1) (setK (putE noE 0 y1) 0 ((1 + 1 : Nat) : Int)) 0 i = q ∧ q.t = ⟨0, 0, 0, 0⟩ ∧ q.bs = zs.map (Value.int .u8) := fun i hi => by
    obtain rfl : i = 0 := by omega
    refine ⟨_, rfl, ?_⟩
    have d : downH Ent.k (0 + 1) (setK (putE noE 0 y1) 0 ((1 + 1 : Nat) : Int)) 0 = (setK (putE noE 0 y1) 0 ((1 + 1 : Nat) : Int), 0) := by rw [downH, dif_neg (by omega)]
    unfold fixH
    rw [d]
    simp only [Nat.lt_irrefl, if_false]
    rw [upH, dif_pos rfl]
    simp only [setK, if_true, e1 0 (by omega)]
    rw [hy1.out]
    exact ⟨rfl, rfl⟩
  generalize fixH Ent.k (0 + 1) (setK (putE noE 0 y1) 0 ((1 + 1 : Nat) : Int)) 0 = F at C4 e4
  obtain ⟨gx, cx, cur, rfl, hgx, hgxh, hgxc⟩ := bytes_open zs (by rw [hy1.out]) hu hL
  clear hu
  have gxw := World.block_lt_of_cell? _ _ (hgxc 0 hL)
  have hst := run_convert_bytes_arg (P := Try.prog) w4 22 5 Try.underlying22 Try.underlying5 gx 0 zs.length cx zs rfl (fun i hi => by rw [Nat.zero_add]; exact hgxc i hi) 9 Try.underlying9
  have gk := hgxc k hkl
  have gf : w4.frozen? ⟨gx, k, none⟩ = false := by simp [World.frozen?, hgxh]
  have C4s := C4.mono (X' := fun k => k = gx) (fun b e => Or.inr (by rw [e]; exact hgx))
  obtain ⟨zk, hzk⟩ : ∃ z, zs.getD k 0 = z := ⟨_, rfl⟩
  rw [hzk] at gk
  have gxl := Nat.le_trans C3.below.size (Nat.le_trans (by simp [World.setCell]) hgx)
  clear hzk hgxc hgxh C4 hgx
  go_wp2_with fail
  have C4t := (C4s.set rfl gxl k (.int .u8 ((zk + 2) % 256))).mono (X' := fun _ => False) (fun _ => False.elim)
  have g1 := cacN_get C4t (fun _ => False.elim) (by omega) (by omega) ⟨0, 0, 0, 0⟩ (fun j hj => by obtain ⟨q, hq, _, hqb⟩ := e4 j hj; exact ⟨zs, by rw [hq, hqb], hL, by omega⟩)
  simp only [Tl.val] at g1
  refine g1.mono ?_
  clear g1 C4s C4t gk gf hst
  rintro x w5 (⟨_, hno, _⟩ | ⟨i, u, hi, ht, rfl, C5, _, hu⟩)
  · obtain ⟨q, hq, hqt, _⟩ := e4 0 (by omega)
    exact absurd (by rw [hq, hqt]) (hno 0 (by omega))
  obtain ⟨q, hq, _, hqb⟩ := e4 i hi
  obtain ⟨gy, cy, cur, rfl, hgy, hgyh, hgyc⟩ := bytes_open zs (by rw [hq, hqb]) hu hL
  have hst := run_convert_bytes_arg (P := Try.prog) w5 22 5 Try.underlying22 Try.underlying5 gy 0 zs.length cy zs rfl (fun i hi => by rw [Nat.zero_add]; exact hgyc i hi) 9 Try.underlying9
  have hb5 := C5.below
  have gyw := World.block_lt_of_cell? _ _ (hgyc 0 hL)
  clear hu hq hqb e4 hgyc hgyh hgy C5
  go_wp2_with fail
  refine (awake_yes w5).mono ?_
  rintro r w6 ⟨rfl, hb6⟩
  clear hst
  have hbel := kept_trans hb5 hb6
  go_wp2_with fail
  go_returns
  exact ⟨rfl, hbel⟩

set_option maxHeartbeats 2000000 in
set_option maxRecDepth 100000 in
/-- No bytes, or too many. -/
theorem own_not (a : Option Addr) (L cap : Nat) (at' : Int) (w : World) (hL : L = 0 ∨ 500 < L) :
    Calls Try.prog 3 #[.slice a L cap, .int .i64 at'] w fun r w' => r = .returned (.bool true) ∧ Below w.heap.size w w' := by
  rcases hL with rfl | hL
  all_goals
    first
    | (have hl0 : ((L : Int) == 0) = false := by rw [beq_eq_false_iff_ne]; omega
       have hl5 : (500 : Int) < L := by omega
       go_enter Try.func3, Try.ntmps3)
    | (go_enter Try.func3, Try.ntmps3)
    go_wp2_with fail
    refine (cacN_New 3 (by omega) w).mono ?_
    rintro r w1 ⟨bc, rfl, C⟩
    have hb1 := C.below
    clear C
    go_wp2_with fail
    refine (awake_yes w1).mono ?_
    rintro r w6 ⟨rfl, hb6⟩
    have hbel := kept_trans hb1 hb6
    clear hb1 hb6
    go_wp2_with fail
    go_returns
    exact ⟨rfl, hbel⟩

end Go.Proofs.Ytogdnkdndhodmaa

/- Walks: what is told of a tile is what was put of it last. -/
import Derived.Test.YtogdnkdndhodmaaLastP
import Derived.Test.YtogdnkdndhodmaaBits
import Derived.Test.YtogdnkdndhodmaaOwn
import Derived.Test.YtogdnkdndhodmaaKeysB
namespace Go.Proofs.Ytogdnkdndhodmaa
open Go.RowKit Go.Sort

theorem used_stamp {n : Nat} {e : Nat → Ent} {i : Nat} (hi : i < n) (h : ∀ j, j < n → 0 ≤ (e j).k ∧ (e j).k ≤ 1000) (k : Int) (h0 : 0 ≤ k) (h1 : k ≤ 1000) : ∀ j, j < n → 0 ≤ (fixH Ent.k n (setK e i k) i j).k ∧ (fixH Ent.k n (setK e i k) i j).k ≤ 1000 := by
  obtain ⟨f, g, m1, m2, m3, m4, m5⟩ := moved_fix Ent.k n (setK e i k) i hi
  intro j hj
  rw [m5]
  have hf := (m3 j).1 hj
  unfold setK
  split
  · exact ⟨h0, h1⟩
  · exact h _ hf

set_option maxHeartbeats 8000000 in
set_option maxRecDepth 100000 in
theorem last_yes (a0 a1 a2 : Int) (w : World) : Calls Try.prog 4 #[.int .i64 a0, .int .i64 a1, .int .i64 a2] w fun r w' => r = .returned (.bool true) ∧ Below w.heap.size w w' := by
  obtain ⟨n, hn, hn0, hn1⟩ : ∃ n : Nat, bits .and .i64 a0 31 + 1 = (n : Int) ∧ 1 ≤ n ∧ n ≤ 32 := ⟨(a0 % 32 + 1).toNat, by rw [and_31]; omega, by omega, by omega⟩
  obtain ⟨most, hm, hm0, hm1⟩ : ∃ m : Nat, bits .and .i64 a1 15 + 1 = (m : Int) ∧ 1 ≤ m ∧ m ≤ 16 := ⟨(a1 % 16 + 1).toNat, by rw [and_15]; omega, by omega, by omega⟩
  obtain ⟨n', hn'⟩ : ∃ n' : Int, n' = bits .and .i64 a0 31 := ⟨_, rfl⟩
  obtain ⟨m', hm'⟩ : ∃ n' : Int, n' = bits .and .i64 a1 15 := ⟨_, rfl⟩
  rw [← hn'] at hn
  rw [← hm'] at hm
  obtain rfl : n' = (n : Int) - 1 := by omega
  obtain rfl : m' = (most : Int) - 1 := by omega
  have hn2 := hn'.symm
  have hm2 := hm'.symm
  clear hn hm hn' hm'
  go_enter Try.func4, Try.ntmps4
  go_wp2_with fail
  refine (cacN_New most (by omega) w).mono ?_
  rintro r w1 ⟨bc, rfl, C⟩
  clear hn2 hm2
  have hst : ∃ e l, CacN (fun _ => False) w bc most (2 * 0) (min 0 most) e w1 ∧ LastL most 0 (min 0 most) e l := by
    rw [Nat.zero_min]
    exact ⟨_, [], C, ⟨⟨rfl, List.Pairwise.nil, fun x => by simp, fun i j hi => absurd hi (by omega)⟩, fun k k0 kn => by omega, rfl, fun y hy => (by cases hy), fun y hy => (by cases hy)⟩⟩
  clear C
  replace hst := Lib.hid hst
  have hmi : (most : Int) ≤ 16 := by omega
  go_wp2_with fail
  go_loopw [8] (fun i wr => ∃ k : Nat, i = .int .i64 k ∧ k ≤ n ∧ Hid (∃ e l, CacN (fun _ => False) w bc most (2 * k) (min k most) e wr ∧ LastL most k (min k most) e l)) (fun i _ => n - (intOf i).toNat)
  case atStart => exact ⟨0, rfl, by omega, hst⟩
  case round =>
    clear hst
    obtain ⟨k, rfl, hk, HI⟩ := hrel
    by_cases hlt : k < n
    · have hlt' : (k : Int) < n := by omega
      have hk8 : (k : Int) % 256 = k := by omega
      obtain ⟨e, l, C, L⟩ := HI.out
      obtain ⟨q, hq⟩ : ∃ q, min k most = q := ⟨_, rfl⟩
      rw [hq] at C L
      have hq17 : q ≤ 16 := by omega
      obtain ⟨z2, hz2⟩ : ∃ z, 2 * k = z := ⟨_, rfl⟩
      rw [hz2] at C
      have hz33 : z2 ≤ 64 := by omega
      have hno : ∀ i, i < q → (e i).t ≠ tileN k := fun i hi eq => by
        obtain ⟨x, _, h2, h3, _⟩ := (last_in L (by omega)).each i hi
        have := tileN_inj (h3.symm.trans eq)
        omega
      have Cw : CacN (fun b => b = wr.heap.size ∨ b = wr.heap.size + 1) w bc most z2 q e ((wr.alloc (.cells #[.int .i64 6, .int .i64 k, .int .i64 0, .int .i64 0] 28)).alloc (.cells #[.int .u8 k] 5)) :=
        ((C.ext.later (kept_alloc (Below.refl _ _) _)).later (kept_alloc (Below.refl _ _) _)).mono (fun b e => Or.inr (by omega))
      have p1 := cacN_put_new Cw (fun b e => by simp only [World.size_alloc]; omega) (by omega) (by omega) hm0 (by omega) (tileN k) (ok_z 6 k (by omega)) hno (z2 + 1) rfl (wr.heap.size + 1) 1 (Or.inr rfl) [(k : Int)] (by simp) (by simp) (fun i hi => by
        have : i = 0 := by simpa using hi
        subst this
        have := heap_alloc_new (wr.alloc (.cells #[.int .i64 6, .int .i64 k, .int .i64 0, .int .i64 0] 28)) (.cells #[.int .u8 k] 5)
        simp only [World.size_alloc] at this
        rw [cell_of_heap this]; rfl)
      simp only [Tl.val, tileN, List.length_singleton] at p1
      clear Cw C
      go_wp2_with fail
      refine p1.mono ?_
      clear p1
      rintro r w2 ⟨rfl, p, C2, K2⟩
      obtain ⟨m, M⟩ := last_put L hq.symm hm0 ⟨p, tileN k, [(k : Int)].map (Value.int .u8), ((z2 + 1 : Nat) : Int)⟩ (by simp only [hz2])
      clear L hno
      obtain ⟨q', hq'⟩ : ∃ q', (if most < q + 1 then q else q + 1) = q' := ⟨_, rfl⟩
      have hqm : min (k + 1) most = q' := by rw [← hq', ← hq]; split <;> omega
      simp only [tileN] at M
      rw [hq'] at C2 M
      generalize (if most < q + 1 then popH Ent.k q (upH Ent.k (putE e q ⟨p, ⟨6, 0, (k : Int), 0⟩, [(k : Int)].map (Value.int .u8), ((z2 + 1 : Nat) : Int)⟩) q) else upH Ent.k (putE e q ⟨p, ⟨6, 0, (k : Int), 0⟩, [(k : Int)].map (Value.int .u8), ((z2 + 1 : Nat) : Int)⟩) q) = e2 at C2 M
      have t0 := K2.cell (b := wr.heap.size) (o := 0) (Or.inl rfl) (by go_simp; rfl)
      have t1 := K2.cell (b := wr.heap.size) (o := 1) (Or.inl rfl) (by go_simp; rfl)
      have t2 := K2.cell (b := wr.heap.size) (o := 2) (Or.inl rfl) (by go_simp; rfl)
      have t3 := K2.cell (b := wr.heap.size) (o := 3) (Or.inl rfl) (by go_simp; rfl)
      clear hq' K2
      have hq17 : q' ≤ 16 := by omega
      have hyes : ∃ i, i < q' ∧ (e2 i).t = tileN k := by
        obtain ⟨j, hj, h⟩ := (M.cont.mem ⟨p, ⟨6, 0, (k : Int), 0⟩, [(k : Int)].map (Value.int .u8), ((z2 + 1 : Nat) : Int)⟩).1 (by simp)
        exact ⟨j, hj, by rw [h]; rfl⟩
      have Cw : CacN (fun b => b = w2.heap.size) w bc most (z2 + 1) q' e2 (w2.alloc (.cells #[.int .u8 k, .int .u8 7] 5)) :=
        (C2.ext.later (kept_alloc (Below.refl _ _) _)).mono (fun b e => Or.inr (by omega))
      have p2 := cacN_put_old Cw (fun b e => by simp only [World.size_alloc]; omega) (by omega) (by omega) hm0 (by omega) (tileN k) (ok_z 6 k (by omega)) hyes w2.heap.size 2 rfl [(k : Int), 7] (by simp) (by simp) (fun i hi => by
        rw [cell_of_heap (heap_alloc_new w2 _)]
        have : i = 0 ∨ i = 1 := by simp at hi; omega
        rcases this with rfl | rfl <;> rfl)
      simp only [Tl.val, tileN, List.length_cons, List.length_nil, Nat.zero_add] at p2
      clear Cw
      have HM := Lib.hid M
      clear M hyes C2
      go_wp2_with fail
      refine p2.mono ?_
      clear p2
      rintro r w3 ⟨rfl, i, hi, ht, C3, _⟩
      obtain ⟨l3, L3⟩ := last_step HM.out hqm.symm (by simp only [hz2]) hm0 i hi ht
      have H3 : Hid (∃ e l, CacN (fun _ => False) w bc most (2 * (k + 1)) (min (k + 1) most) e w3 ∧ LastL most (k + 1) (min (k + 1) most) e l) := Lib.hid (by
        rw [hqm]
        refine ⟨_, l3, ?_, L3⟩
        have e1 : 2 * (k + 1) = z2 + 1 + 1 := by omega
        have e2 : 2 * k + 1 + 1 = z2 + 1 + 1 := by omega
        rw [e1, e2]
        exact C3.mono (fun _ => False.elim))
      clear C3 L3 HM t0 t1 t2 t3 hqm hq hz2
      go_wp2_with fail
      go_roundw
      case rel => exact ⟨k + 1, by go_num, by omega, H3⟩
      case measure => simp [intOf]; omega
    · obtain rfl : k = n := by omega
      clear hk hlt
      have hlt' : ¬ (k : Int) < k := by omega
      obtain ⟨N, hN⟩ : ∃ N, min k most = N := ⟨_, rfl⟩
      have hN0 : 1 ≤ N := by omega
      have hN1 : N ≤ 16 := by omega
      have hNk : N ≤ k := by omega
      have hst2 : Hid (∃ (now : Nat) (e : Nat → Ent), now ≤ 64 + 0 ∧ CacN (fun _ => False) w bc most now N e wr ∧ InL (k - N) k N e ∧ ∀ j, j < N → 0 ≤ (e j).k ∧ (e j).k ≤ 1000) := Lib.hid (by
        obtain ⟨e, l, C, L⟩ := HI.out
        rw [hN] at C L
        refine ⟨2 * k, e, by omega, C, last_in L hNk, fun j hj => ?_⟩
        have h1 := L.stamp _ (L.cont.at j hj)
        have h2 := L.low _ (L.cont.at j hj)
        omega)
      clear HI
      go_wp2_with fail
      go_loopw [10] (fun i wr => ∃ j : Nat, i = .int .i64 j ∧ j ≤ k ∧ Hid (∃ (now : Nat) (e : Nat → Ent), now ≤ 64 + j ∧ CacN (fun _ => False) w bc most now N e wr ∧ InL (k - N) k N e ∧ ∀ j, j < N → 0 ≤ (e j).k ∧ (e j).k ≤ 1000)) (fun i _ => k - (intOf i).toNat)
      case atStart => exact ⟨0, rfl, by omega, hst2⟩
      case round =>
        clear hst2
        obtain ⟨j, rfl, hj, HJ⟩ := hrel
        by_cases hjt : j < k
        · have hjt' : (j : Int) < k := by omega
          have hj8 : (j : Int) % 256 = j := by omega
          obtain ⟨now, e, hnow, C, I, hks⟩ := HJ.out
          have g1 := cacN_get C (fun _ => False.elim) (by omega) (by omega) (tileN j) (fun b hb => by
            obtain ⟨x, _, _, _, h4⟩ := I.each b hb
            exact ⟨[(x : Int), 7], by rw [h4]; rfl, by simp, by simp⟩)
          simp only [Tl.val, tileN] at g1
          have HC := Lib.hid C
          have HK := Lib.hid hks
          clear C hks
          go_wp2_with fail
          refine g1.mono ?_
          clear g1
          rintro r w2 (⟨rfl, hno, C2, _⟩ | ⟨i, u, hi, ht, rfl, C2, _, hu⟩)
          · have hjm : ¬ (k : Int) - most ≤ j := by
              intro hle
              obtain ⟨b, hb, h1⟩ := I.all j (by omega) hjt
              exact hno b hb h1
            have H2 : Hid (∃ (now : Nat) (e : Nat → Ent), now ≤ 64 + (j + 1) ∧ CacN (fun _ => False) w bc most now N e w2 ∧ InL (k - N) k N e ∧ ∀ j, j < N → 0 ≤ (e j).k ∧ (e j).k ≤ 1000) := Lib.hid ⟨now, e, by omega, C2, I, HK.out⟩
            clear C2 hno HC HK I HJ hN
            go_wp2_with fail
            go_roundw
            case rel => exact ⟨j + 1, by go_num, by omega, H2⟩
            case measure => simp [intOf]; omega
          · obtain ⟨x, hx1, hx2, hx3, hx4⟩ := I.each i hi
            obtain rfl : x = j := tileN_inj (hx3.symm.trans ht)
            have hjm : (k : Int) - most ≤ x := by omega
            have H2 : Hid (∃ (now : Nat) (e : Nat → Ent), now ≤ 64 + (x + 1) ∧ CacN (fun _ => False) w bc most now N e w2 ∧ InL (k - N) k N e ∧ ∀ j, j < N → 0 ≤ (e j).k ∧ (e j).k ≤ 1000) :=
              Lib.hid ⟨now + 1, _, by omega, C2.mono (fun _ => False.elim), I.used i hi _, used_stamp hi HK.out _ (by omega) (by omega)⟩
            obtain ⟨gx, cx, cur, rfl, hgx, hgxh, hgxc⟩ := bytes_open [(x : Int), 7] (by rw [hx4]; rfl) hu (by simp)
            have hs1 := run_convert_bytes_arg (P := Try.prog) w2 22 5 Try.underlying22 Try.underlying5 gx 0 2 cx [(x : Int), 7] rfl (fun i hi => by rw [Nat.zero_add]; exact hgxc i hi) 9 Try.underlying9
            have hs2 := run_convert_bytes_arg (P := Try.prog) (w2.alloc (.cells #[.int .u8 x, .int .u8 7] 5)) 22 5 Try.underlying22 Try.underlying5 w2.heap.size 0 2 2 [(x : Int), 7] rfl (fun i hi => by
              rw [Nat.zero_add, cell_of_heap (heap_alloc_new w2 _)]
              have : i = 0 ∨ i = 1 := by omega
              rcases this with rfl | rfl <;> rfl) 9 Try.underlying9
            generalize strOfNums [(x : Int), 7] = str at hs1 hs2
            have H3 : Hid (∃ (now : Nat) (e : Nat → Ent), now ≤ 64 + (x + 1) ∧ CacN (fun _ => False) w bc most now N e (w2.alloc (.cells #[.int .u8 x, .int .u8 7] 5)) ∧ InL (k - N) k N e ∧ ∀ j, j < N → 0 ≤ (e j).k ∧ (e j).k ≤ 1000) := Lib.hid (by
              obtain ⟨a, b, c, d, f⟩ := H2.out
              exact ⟨a, b, c, d.later (kept_alloc (Below.refl _ _) _), f⟩)
            clear C2 HC HK I HJ hN H2 hu hx3 hx4 ht hgxh hgxc
            simp only [List.length_cons, List.length_nil]
            go_wp2_with fail
            go_roundw
            case rel => exact ⟨x + 1, by go_num, by omega, H3⟩
            case measure => simp [intOf]; omega
        · obtain rfl : j = k := by omega
          have hjt' : ¬ (j : Int) < j := by omega
          go_wp2_with fail
          obtain ⟨now, e, hnow, C, I, hks⟩ := HJ.out
          obtain ⟨O, v, c, hbel, _⟩ := C
          have hlen := cac_Len c
          have hev1 := evict_not c hN0 (by omega) (fun b hb => by have := hks b hb; omega) (-1) (Or.inl (by omega))
          have hmin : min (j : Int) (most : Int) = N := by omega
          have HCc := Lib.hid c
          have HKs := Lib.hid hks
          clear c hks I HJ hN
          refine hlen.mono ?_
          clear hlen
          rintro r w2 ⟨rfl, rfl⟩
          go_wp2_with fail
          refine hev1.mono ?_
          clear hev1
          rintro r w3 ⟨rfl, hb3⟩
          have c3 := HCc.out.later hb3
          have hlen := cac_Len c3
          have hev2 := evict_not c3 hN0 (by omega) (fun b hb => by have := HKs.out b hb; omega) N (Or.inr (Int.le_refl _))
          clear c3
          go_wp2_with fail
          refine hlen.mono ?_
          clear hlen
          rintro r w4 ⟨rfl, rfl⟩
          go_wp2_with fail
          refine hev2.mono ?_
          clear hev2
          rintro r w5 ⟨rfl, hb5⟩
          go_wp2_with fail
          refine (awake_yes w5).mono ?_
          rintro r w6 ⟨rfl, hb6⟩
          have hfin := kept_trans (kept_trans (kept_trans hbel hb3) hb5) hb6
          clear hbel hb3 hb5 hb6
          go_wp2_with fail
          go_returns
          exact ⟨rfl, hfin⟩

end Go.Proofs.Ytogdnkdndhodmaa

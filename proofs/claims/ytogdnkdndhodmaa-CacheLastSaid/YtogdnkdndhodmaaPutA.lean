/- Walks: Put. -/
import Derived.Test.YtogdnkdndhodmaaCacS
namespace Go.Proofs.Ytogdnkdndhodmaa
open Go.RowKit Go.Sort

theorem cac_Push {O0 O : Nat → Prop} {wb w : World} {bc most now n : Nat} {v : Value} {e : Nat → Ent} (hn : n ≤ 1099511627776) (h : Cac O w bc most now n v e) (hk : KeptO O0 wb w) (hO : ∀ k, O k → O0 k ∨ wb.heap.size ≤ k)
    (x : Ent) (bv : Value) (hx : EntAt (fun k => O k ∨ (wb.heap.size ≤ k ∧ k < w.heap.size)) w x bv) (hnew : ∀ j, j < n → (e j).p ≠ x.p) :
    Meth 48 (.pointer (some ⟨bc, 2, none⟩)) "Push" #[.iface 45 (.pointer (some ⟨x.p, 0, none⟩))] w fun r w' => r = .returned (.tuple #[]) ∧ CacS O0 wb bc most now (n + 1) (putE e n x) w' := by
  refine ⟨_, _, fun d => meth_Push d _ _ w, call_Push, ?_⟩
  refine (row_Push bc x.p n v _ w hn h.c0.2.2.1 (h.c0.2.2.2 2) h.row h.bc_ne).mono ?_
  rintro r w1 ⟨rfl, v', w4, rfl, hg, ho, hv⟩
  refine ⟨rfl, fun k => O k ∨ (wb.heap.size ≤ k ∧ k < w4.heap.size), v', ?_, ?_, ?_⟩
  · refine h.pushed (O' := fun k => O k ∨ (wb.heap.size ≤ k ∧ k < w4.heap.size)) (x := x) (bv := bv) ⟨hx.blk, hx.row, ?_, ?_⟩ (fun k ok => Or.inl ok) hnew ?_ hg ho ?_
    · rcases hx.own with h1 | h1
      · exact Or.inl h1
      · exact Or.inr ⟨h1.1, Nat.lt_of_lt_of_le h1.2 hg.size⟩
    · intro b hb
      rcases hx.ownb b hb with h1 | h1
      · exact Or.inl h1
      · exact Or.inr ⟨h1.1, Nat.lt_of_lt_of_le h1.2 hg.size⟩
    · intro k hk'
      rcases hk' with h1 | h1
      · exact Nat.lt_of_lt_of_le (h.old k h1) hg.size
      · exact h1.2
    · intro k hk'
      have hlt := (ho.lt k hk').2
      rcases hv k hk' with h1 | h1
      · exact Or.inl (h.ownv k h1)
      · exact Or.inr ⟨Nat.le_trans hk.size h1, hlt⟩
  · have k1 : KeptO O w w4 := ⟨hg.os, hg.tape, hg.output, hg.size, fun b hb hn => hg.block b hb (fun e => hn (h.ownv b e.symm))⟩
    have k2 : KeptO O w (w4.setCell ⟨bc, 2, none⟩ v') := k1.trans (KeptO.set (O := O) 2 v' h.own) (fun _ _ h => h)
    exact CacS.step hk hO k2
  · intro k hk'
    rcases hk' with h1 | h1
    · exact hO k h1
    · exact Or.inr h1.1

theorem cac_Pop {O0 : Nat → Prop} {wb w : World} {bc most now n : Nat} {e : Nat → Ent} (hn : n ≤ 1099511627776) (h : CacS O0 wb bc most now (n + 1) e w) :
    Meth 48 (.pointer (some ⟨bc, 2, none⟩)) "Pop" #[] w fun r w' => ∃ v, r = .returned v ∧ CacS O0 wb bc most now n e w' := by
  obtain ⟨O, v, h1, h2, h3⟩ := h
  obtain ⟨g, cap, cur, rfl, hg, a1, a2, a3, a4⟩ := h1.at (by omega)
  refine ⟨_, _, fun d => meth_Pop d _ _ w, call_Pop, ?_⟩
  refine (row_Pop bc g cap n (e n).p w hn h1.c0.2.2.1 (h1.c0.2.2.2 2) a1 (by rw [cell_of_heap hg]; exact a4 n (by omega))).mono ?_
  rintro r w1 ⟨rfl, rfl⟩
  obtain ⟨c1, c2⟩ := h1.popped
  exact ⟨_, rfl, O, _, c1, CacS.step h2 h3 c2, h3⟩

/-- Behind a draw. -/
theorem undrew {w w1 : World} (h : Below w.drew.heap.size w.drew w1) : Below w.heap.size w w1 := ⟨h.os, h.tape, h.output, h.size, h.block⟩

/-- Bytes, cloned. -/
theorem clone_bytes (g c : Nat) (xs : List Int) (w : World) (h0 : 0 < xs.length) (hl : xs.length ≤ 140737488355328) (hc : ∀ i, i < xs.length → w.cell? ⟨g, i, none⟩ = some (.int .u8 (xs.getD i 0))) :
    Calls Try.prog 13 #[.slice (some ⟨g, 0, none⟩) xs.length c] w fun r w' => ∃ h cp, r = .returned (.slice (some ⟨h, 0, none⟩) xs.length cp) ∧ w'.ownsRow w.heap.size 5 1 (.slice (some ⟨h, 0, none⟩) xs.length cp) xs.length (xs.map (Value.int .u8)) ∧ Below w.heap.size w w' := by
  refine (Try.bytes_Clone_at ⟨g, 0, none⟩ xs.length c xs w rfl hl ?_).mono ?_
  · intro i hi
    rw [← hc i hi]
    cases i with
    | zero => simp [Addr.add]
    | succ i => simp [Addr.add]
  · rintro r w1 ⟨v', rfl, h1, _, h2⟩
    rcases h1.2 with ⟨_, hz⟩ | ⟨h, cap, cur, rfl, _⟩
    · omega
    · exact ⟨h, cap, rfl, h1, h2⟩

/-- What is told of a tile's being allowed. -/
def OkT (t : Tl) : Prop := ∀ w, Calls Try.prog 11 #[t.val] w fun e w' => e = .returned (.int .i64 0) ∧ Below w.heap.size w w'

/-- The push of a new tile. -/
theorem put_push {O : Nat → Prop} {w W w3 : World} {bc most m n : Nat} {v : Value} {e : Nat → Ent} (hn : n ≤ 1000000) (C : Cac O W bc most m n v e) (hk : KeptO O w W) (hO : ∀ k, O k → k < w.heap.size)
    (hb3 : Below W.heap.size W w3) (t : Tl) (u cu : Nat) (xs : List Int) (hu : w3.ownsRow W.heap.size 5 1 (.slice (some ⟨u, 0, none⟩) xs.length cu) xs.length (xs.map (Value.int .u8))) :
    Calls Try.prog 15 #[.iface 48 (.pointer (some ⟨bc, 2, none⟩)), .iface 45 (.pointer (some ⟨w3.heap.size, 0, none⟩))]
      (w3.alloc (.cells #[.int .i64 t.z, .int .i64 t.x, .int .i64 t.y, .int .i64 t.r, .slice (some ⟨u, 0, none⟩) xs.length cu, .int .i64 m] 44)) fun r w' =>
      r = .returned (.tuple #[]) ∧ ∃ p, CacS O w bc most m (n + 1) (upH Ent.k (putE e n ⟨p, t, xs.map (Value.int .u8), (m : Int)⟩) n) w' := by
  have hb4 : Below W.heap.size W (w3.alloc (.cells #[.int .i64 t.z, .int .i64 t.x, .int .i64 t.y, .int .i64 t.r, .slice (some ⟨u, 0, none⟩) xs.length cu, .int .i64 m] 44)) := kept_alloc hb3 _
  have C4 := C.later hb4
  have k4 : KeptO O w (w3.alloc (.cells #[.int .i64 t.z, .int .i64 t.x, .int .i64 t.y, .int .i64 t.r, .slice (some ⟨u, 0, none⟩) xs.length cu, .int .i64 m] 44)) := hk.trans (KeptO.of_below (O := O) hb4) (fun _ _ h => h)
  have hul := hu.lt u rfl
  have hp := cac_Push (O0 := O) (wb := w) (by omega) C4 k4 (fun k ok => Or.inl ok) ⟨w3.heap.size, t, xs.map (Value.int .u8), (m : Int)⟩ (.slice (some ⟨u, 0, none⟩) xs.length cu) ⟨?_, ?_, ?_, ?_⟩ ?_
  · refine (push_any (cac_heap O w bc most m (n + 1)) (by omega) _ _ _ hp).mono ?_
    rintro r w5 ⟨rfl, S⟩
    exact ⟨rfl, _, S⟩
  · exact heap_alloc_new w3 _
  · have : (xs.map (Value.int .u8)).length = xs.length := by simp
    simp only [this]
    exact owns_base (hu.alloc _) (Nat.zero_le _)
  · exact Or.inr ⟨Nat.le_trans hk.size hb3.size, by simp⟩
  · intro b hb
    cases hb
    exact Or.inr ⟨Nat.le_trans hk.size hul.1, by simp; omega⟩
  · intro j hj eq
    obtain ⟨bv, he⟩ := C.ent j hj
    have := C.old _ he.own
    have := hb3.size
    simp only at eq
    omega

set_option maxHeartbeats 4000000 in
set_option maxRecDepth 100000 in
theorem cac_put_new {O : Nat → Prop} {w : World} {bc most now n : Nat} {v : Value} {e : Nat → Ent} (h : Cac O w bc most now n v e) (hn : n ≤ 1000000) (hnow : now ≤ 1099511627776) (hm0 : 0 < most) (hm : most ≤ 1000)
    (t : Tl) (hok : OkT t) (hno : ∀ i, i < n → (e i).t ≠ t) (m : Nat) (hm' : now + 1 = m) (g c : Nat) (hgO : ¬ O g) (xs : List Int) (h0 : 0 < xs.length) (hl : xs.length ≤ 1000) (hc : ∀ i, i < xs.length → w.cell? ⟨g, i, none⟩ = some (.int .u8 (xs.getD i 0))) :
    Calls Try.prog 7 #[.pointer (some ⟨bc, 0, none⟩), t.val, .slice (some ⟨g, 0, none⟩) xs.length c] w fun r w' =>
      r = .returned (.bool true) ∧ ∃ p, CacS O w bc most m (if most < n + 1 then n else n + 1)
        (if most < n + 1 then popH Ent.k n (upH Ent.k (putE e n ⟨p, t, xs.map (Value.int .u8), (m : Int)⟩) n) else upH Ent.k (putE e n ⟨p, t, xs.map (Value.int .u8), (m : Int)⟩) n) w' := by
  obtain ⟨q0, q1, q2, q3⟩ := h.c0
  have l0 := h.old _ h.own
  have hg0 := World.block_lt_of_cell? _ _ (hc 0 h0)
  have hb0 : Below w.heap.size w (w.alloc (.cells #[.int .i64 t.z, .int .i64 t.x, .int .i64 t.y, .int .i64 t.r] 28)) := kept_alloc (Below.refl _ _) _
  have hok1 := hok (w.alloc (.cells #[.int .i64 t.z, .int .i64 t.x, .int .i64 t.y, .int .i64 t.r] 28))
  have hne0 : ((most : Int) == 0) = false := by simp; omega
  have H := Lib.hid h
  have Hc := Lib.hid hc
  have Hok := Lib.hid hok
  clear h hc hok
  unfold Tl.val at hok1 ⊢
  go_enter Try.func7, Try.ntmps7
  go_wp2_with fail
  refine hok1.mono ?_
  rintro x w1 ⟨rfl, hb1⟩
  clear hok1
  have hb2 := kept_trans hb0 hb1
  have t1 : TlAt w1 w.heap.size t := TlAt.later ⟨by go_simp, by go_simp, by go_simp, by go_simp⟩ hb1
  obtain ⟨b1, b2, b3, b4⟩ := t1
  have hf := cac_find (H.out.later hb2) (by omega) t
  unfold Tl.val at hf
  go_wp2_with fail
  refine hf.mono ?_
  rintro x w2 ⟨r, rfl, hb3, hr⟩
  clear hf
  obtain rfl : r = -1 := by
    rcases hr with ⟨i, hi, _, ht⟩ | ⟨h, _⟩
    · exact absurd ht (hno i hi)
    · exact h
  clear hr
  have hb4 := kept_trans hb2 hb3
  have C2 := Lib.hid (H.out.later hb4)
  obtain ⟨c0, c1, c2, c3⟩ := C2.out.c0
  have hnow1 : (now : Int) + 1 = (m : Nat) := by omega
  have hm2 : m ≤ 1099511627777 := by omega
  have t2 : TlAt w2 w.heap.size t := TlAt.later ⟨b1, b2, b3, b4⟩ hb3
  clear hm' hb1 hb2 hb3 b1 b2 b3 b4
  go_wp2_with fail
  refine wp_world (fun W => Cac O W bc most m n v e ∧ KeptO O w W ∧ TlAt W w.heap.size t ∧ (∀ i, i < xs.length → W.cell? ⟨g, i, none⟩ = some (.int .u8 (xs.getD i 0)))) ?_ ?_
  · obtain ⟨k1, k2⟩ := C2.out.tick m
    have nbc : ∀ b, b < w.heap.size → ¬ w.heap.size = b := fun b hb => by omega
    refine ⟨k1, (KeptO.of_below (O := O) hb4).trans k2 (fun _ _ h => h), ?_, fun i hi => ?_⟩
    · have nO : ¬ O w.heap.size := fun h => by have := H.out.old _ h; omega
      exact ⟨k2.cell nO t2.z, k2.cell nO t2.x, k2.cell nO t2.y, k2.cell nO t2.r⟩
    · exact k2.cell hgO (later hb4 (Hc.out i hi))
  rintro W ⟨C, hk, ⟨d1, d2, d3, d4⟩, hbs⟩
  clear C2 c0 c1 c2 c3 t2
  obtain ⟨c0, c1, c2, c3⟩ := C.c0
  have l1 := World.block_lt_of_cell? _ _ d1
  have l2 := World.block_lt_of_cell? _ _ c0
  have HC := Lib.hid C
  have Hbs := Lib.hid hbs
  have Hk := Lib.hid hk
  clear C hbs hk
  go_region_with (first | (go_at_call 13; refine (clone_bytes g c xs W.drew h0 (by omega) Hbs.out).mono ?_; rintro x w3 ⟨u, cu, rfl, hu, hb3⟩; replace hb3 := undrew hb3; obtain ⟨hc3, hf3⟩ := bcell hb3) | (go_at_call 15; refine (put_push (by omega) HC.out Hk.out H.out.old hb3 t u cu xs hu).mono ?_; rintro x w5 ⟨rfl, p, S⟩))
  all_goals
    clear c0 c1 c2 c3 d1 d2 d3 d4 l1 l2 hc3 hf3 hb3 hu HC Hbs Hk
    obtain ⟨O5, v5, C5, _, _⟩ := id S
    obtain ⟨a5, cap5, rfl⟩ := C5.slice
    obtain ⟨c0, c1, c2, c3⟩ := C5.c0
    have HS := Lib.hid S
    clear C5 S
    by_cases hq : most < n + 1
    · have hq' : (most : Int) < (n : Int) + 1 := by omega
      go_wp2_with fail
      go_region
      go_wp2_with fail
      refine (pop_any (cac_heap O w bc most m (n + 1)) (by omega) _ _ (HS.out.later (Below.refl _ _).drew) (fun _ w' => CacS O w bc most m n (popH Ent.k n (upH Ent.k (putE e n ⟨p, t, xs.map (Value.int .u8), (m : Int)⟩) n)) w') (fun w' S' => cac_Pop (by omega) S')).mono ?_
      rintro x w6 ⟨y, rfl, S6⟩
      go_wp2_with fail
      go_returns
      all_goals first | (exfalso; omega) | (refine ⟨rfl, p, ?_⟩; first | exact S6 | (rw [if_pos hq, if_pos hq]; exact S6) | (rw [if_pos hq]; exact S6))
    · have hq' : ¬ (most : Int) < (n : Int) + 1 := by omega
      go_wp2_with fail
      go_region
      go_wp2_with fail
      go_returns
      all_goals first | (exfalso; omega) | (refine ⟨rfl, p, ?_⟩; first | exact HS.out.later (Below.refl _ _).drew | (rw [if_neg hq, if_neg hq]; exact HS.out.later (Below.refl _ _).drew) | (rw [if_neg hq]; exact HS.out.later (Below.refl _ _).drew))

end Go.Proofs.Ytogdnkdndhodmaa

/- Walks: Put of a tile that is there. -/
import Derived.Test.YtogdnkdndhodmaaPutA
namespace Go.Proofs.Ytogdnkdndhodmaa
open Go.RowKit Go.Sort

/-- Other bytes. -/
def setB (e : Nat → Ent) (i : Nat) (bs : List Value) : Nat → Ent := fun j => if j = i then { e i with bs := bs } else e j

theorem setB_p (e : Nat → Ent) (i : Nat) (bs : List Value) (j : Nat) : (setB e i bs j).p = (e j).p := by
  unfold setB; split
  · rename_i h; subst h; rfl
  · rfl

/-- Other bytes are laid into an entry. -/
theorem Cac.rebyte {O O' : Nat → Prop} {w : World} {bc most now n : Nat} {v : Value} {e : Nat → Ent} (h : Cac O w bc most now n v e) (i : Nat) (hi : i < n) (u : Value) (bs : List Value)
    (hu : w.ownsRow 0 5 1 u bs.length bs) (hO : ∀ k, O k → O' k) (hub : ∀ k, u.ownBlock = some k → O' k) (hO' : ∀ k, O' k → k < w.heap.size) :
    Cac O' (w.setCell ⟨(e i).p, 4, none⟩ u) bc most now n v (setB e i bs) ∧ KeptO O w (w.setCell ⟨(e i).p, 4, none⟩ u) := by
  obtain ⟨bv, he⟩ := h.ent i hi
  have hk : KeptO O w (w.setCell ⟨(e i).p, 4, none⟩ u) := KeptO.set 4 _ he.own
  have hb : ∀ b, b ≠ (e i).p → (w.setCell ⟨(e i).p, 4, none⟩ u).heap[b]? = w.heap[b]? := fun b hb => heap_setCell_ne hb _
  have nb : bc ≠ (e i).p := by
    intro eq
    have := he.blk
    rw [← eq, h.blk] at this
    simp at this
  refine ⟨⟨(hb bc nb).trans h.blk, ?_, ?_, fun a b ha hb' => by rw [setB_p, setB_p]; exact h.inj a b ha hb', hO _ h.own, fun k ek => hO _ (h.ownv k ek), fun b ob => Nat.lt_of_lt_of_le (hO' b ob) hk.size⟩, hk⟩
  · have : (fun j => ptr (setB e i bs j).p) = fun j => ptr (e j).p := by funext j; rw [setB_p]
    rw [this]
    refine ownsRow_heap h.row (fun b eb => hb b ?_)
    intro eq
    obtain ⟨c, hc⟩ := ownsRow_kind h.row b eb
    rw [eq, he.blk] at hc
    simp at hc
  · intro j hj
    by_cases eq : j = i
    · subst eq
      refine ⟨u, ?_, ?_, ?_, hub⟩
      · rw [setB_p, heap_setCell he.blk]
        simp [Ent.cells, setB]
      · have : (setB e j bs j).bs = bs := by simp [setB]
        rw [this]
        refine ownsRow_heap hu (fun b eb => hb b ?_)
        intro eq
        obtain ⟨c, hc⟩ := ownsRow_kind hu b eb
        rw [eq, he.blk] at hc
        simp at hc
      · rw [setB_p]; exact hO _ he.own
    · obtain ⟨bj, hj'⟩ := h.ent j hj
      have ej : setB e i bs j = e j := by simp [setB, eq]
      rw [ej]
      refine ⟨bj, hj'.kept (hb _ (fun h' => eq (h.inj j i hj hi h'))) (fun b eb => hb b ?_) hO⟩
      intro eq
      obtain ⟨c1, hc1⟩ := ownsRow_kind hj'.row b eb
      rw [eq, he.blk] at hc1; simp at hc1

set_option maxHeartbeats 4000000 in
set_option maxRecDepth 100000 in
theorem cac_put_old {O : Nat → Prop} {w : World} {bc most now n : Nat} {v : Value} {e : Nat → Ent} (h : Cac O w bc most now n v e) (hn : n ≤ 1000000) (hnow : now ≤ 1099511627776) (hm0 : 0 < most) (hm : most ≤ 1000)
    (t : Tl) (hok : OkT t) (hyes : ∃ i, i < n ∧ (e i).t = t) (g c : Nat) (hgO : ¬ O g) (xs : List Int) (h0 : 0 < xs.length) (hl : xs.length ≤ 1000) (hc : ∀ i, i < xs.length → w.cell? ⟨g, i, none⟩ = some (.int .u8 (xs.getD i 0))) :
    Calls Try.prog 7 #[.pointer (some ⟨bc, 0, none⟩), t.val, .slice (some ⟨g, 0, none⟩) xs.length c] w fun r w' =>
      r = .returned (.bool true) ∧ ∃ i, i < n ∧ (e i).t = t ∧ CacS O w bc most (now + 1) n (fixH Ent.k n (setK (setB e i (xs.map (Value.int .u8))) i ((now + 1 : Nat) : Int)) i) w' := by
  obtain ⟨q0, q1, q2, q3⟩ := h.c0
  have l0 := h.old _ h.own
  have hg0 := World.block_lt_of_cell? _ _ (hc 0 h0)
  have hb0 : Below w.heap.size w (w.alloc (.cells #[.int .i64 t.z, .int .i64 t.x, .int .i64 t.y, .int .i64 t.r] 28)) := kept_alloc (Below.refl _ _) _
  have hok1 := hok (w.alloc (.cells #[.int .i64 t.z, .int .i64 t.x, .int .i64 t.y, .int .i64 t.r] 28))
  have hne0 : ((most : Int) == 0) = false := by simp; omega
  have H := Lib.hid h
  have Hc := Lib.hid hc
  clear h hc hok
  unfold Tl.val at hok1 ⊢
  go_enter Try.func7, Try.ntmps7
  go_wp2_with fail
  refine hok1.mono ?_
  rintro x w1 ⟨rfl, hb1⟩
  clear hok1
  have hb2 := kept_trans hb0 hb1
  have t1 : TlAt w1 w.heap.size t := TlAt.later ⟨by go_simp, by go_simp, by go_simp, by go_simp⟩ hb1
  obtain ⟨b1, b2, b3, b4⟩ := t1
  have hf := cac_find (H.out.later hb2) (by omega) t
  unfold Tl.val at hf
  go_wp2_with fail
  refine hf.mono ?_
  rintro x w2 ⟨r, rfl, hb3, hr⟩
  clear hf
  rcases hr with ⟨i, hi, rfl, ht⟩ | ⟨_, hno⟩
  rotate_left
  · obtain ⟨i, hi, ht⟩ := hyes
    exact absurd ht (hno i hi)
  have hb4 := kept_trans hb2 hb3
  have C2 := Lib.hid (H.out.later hb4)
  have hbs2 := Lib.hid (fun i hi => later hb4 (Hc.out i hi))
  have hi' : (i : Int) < n := by omega
  have hi0 : ¬ (i : Int) < 0 := by omega
  have hi1 : (0 : Int) ≤ i := by omega
  obtain ⟨g5, cap5, cur5, rfl, hg5, _, _, _, hcc⟩ := C2.out.at (by omega)
  obtain ⟨bv, he⟩ := C2.out.ent i hi
  obtain ⟨c0, c1, c2, c3⟩ := C2.out.c0
  obtain ⟨q4, q5, q6⟩ := he.c
  have q7 : w2.cell? ⟨g5, i, none⟩ = some (.pointer (some ⟨(e i).p, 0, none⟩)) := by rw [cell_of_heap hg5]; exact hcc i hi
  have l1 := World.block_lt_of_cell? _ _ c0
  have l2 := World.block_lt_of_cell? _ _ q7
  have l3 := World.block_lt_of_cell? _ _ q5
  clear hcc hg5 he hb1 hb2 hb3 b1 b2 b3 b4
  go_wp2_with fail
  go_region_with (first | (go_at_call 13; refine (clone_bytes g c xs w2.drew h0 (by omega) hbs2.out).mono ?_; rintro x w3 ⟨u, cu, rfl, hu, hb3⟩; replace hb3 := undrew hb3; obtain ⟨hc3, hf3⟩ := bcell hb3))
  all_goals
    have C3 := C2.out.later hb3
    have hul := hu.lt u rfl
    have hz : w.heap.size ≤ w2.heap.size := hb4.size
    have hbl : (xs.map (Value.int .u8)).length = xs.length := by simp
    have hub : w3.ownsRow 0 5 1 (.slice (some ⟨u, 0, none⟩) xs.length cu) (xs.map (Value.int .u8)).length (xs.map (Value.int .u8)) := by rw [hbl]; exact owns_base hu (Nat.zero_le _)
    obtain ⟨R1, R2⟩ := C3.rebyte (O' := fun k => O k ∨ (w.heap.size ≤ k ∧ k < w3.heap.size)) i hi (.slice (some ⟨u, 0, none⟩) xs.length cu) (xs.map (Value.int .u8)) hub (fun k ok => Or.inl ok)
      (fun k ek => by cases ek; exact Or.inr ⟨Nat.le_trans hz (by simpa using hul.1), hul.2⟩)
      (fun k ok => by
        rcases ok with h | h
        · exact C3.old k h
        · exact h.2)
    have hk : KeptO O w (w3.setCell ⟨(e i).p, 4, none⟩ (.slice (some ⟨u, 0, none⟩) xs.length cu)) := (KeptO.of_below (O := O) (kept_trans hb4 hb3)).trans R2 (fun _ _ h => h)
    have hus := cac_use R1 (by omega) hnow i hi
    replace hk := Lib.hid hk
    clear C3 hul hbl hub R1 R2 hc3 hf3 hb3 hu c0 c1 c2 c3 q4 q5 q6 q7
    go_wp2_with fail
    refine hus.mono ?_
    rintro x w4 ⟨rfl, hc4, hk4⟩
    clear hus
    have S4 : CacS O w bc most (now + 1) n (fixH Ent.k n (setK (setB e i (xs.map (Value.int .u8))) i ((now + 1 : Nat) : Int)) i) w4 := by
      refine ⟨_, _, hc4, CacS.step hk.out ?_ hk4, ?_⟩
      · intro k ok
        rcases ok with h | h
        · exact Or.inl h
        · exact Or.inr h.1
      · intro k ok
        rcases ok with h | h
        · exact Or.inl h
        · exact Or.inr h.1
    clear hc4 hk4
    go_wp2_with fail
    go_returns
    exact ⟨rfl, i, hi, ht, S4⟩

end Go.Proofs.Ytogdnkdndhodmaa

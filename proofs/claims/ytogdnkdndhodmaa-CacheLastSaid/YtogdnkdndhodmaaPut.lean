/- Walks: one more in the cache's row; one less. -/
import Derived.Test.YtogdnkdndhodmaaUse
import Derived.Test.YtogdnkdndhodmaaTail
import Derived.Test.YtogdnkdndhodmaaApp
namespace Go.Proofs.Ytogdnkdndhodmaa
open Go.RowKit Go.Sort

theorem Try.info45 : (Try.prog.info? 45).map (fun i => (i.zero, i.size, i.bytes)) = some (some (.pointer none), 1, 8) := by kernel_rfl

set_option maxHeartbeats 2000000 in
set_option maxRecDepth 100000 in
theorem row_Push (bc p n : Nat) (v : Value) (xs : List Value) (w : World) (hn : n ≤ 1099511627776) (h2 : w.cell? ⟨bc, 2, none⟩ = some v) (hf : w.frozen? ⟨bc, 2, none⟩ = false)
    (hr : w.ownsRow 0 45 1 v n xs) (hne : some bc ≠ v.ownBlock) :
    Calls Try.prog 76 #[.pointer (some ⟨bc, 2, none⟩), .iface 45 (.pointer (some ⟨p, 0, none⟩))] w fun e w' =>
      e = .returned (.tuple #[]) ∧ ∃ v' w4, w' = w4.setCell ⟨bc, 2, none⟩ v' ∧ w.grownBy w4 v.ownBlock ∧ w4.ownsRow 0 45 1 v' (n + 1) (xs ++ [ptr p]) ∧ (∀ k, v'.ownBlock = some k → v.ownBlock = some k ∨ w.heap.size ≤ k) := by
  obtain ⟨i0, hi, hz0, hz1, hz2⟩ := info_parts Try.info45
  have hta : ∀ (u : Value) (w : World), (Instr.typeAssert (.iface 45 u) 20 45 true).run Try.prog w = .ok (.tuple #[u, .bool true]) w := fun u w => by kernel_rfl
  have l1 := World.block_lt_of_cell? _ _ h2
  have hr1 := Lib.hid (hr.alloc (.cells #[.pointer (some ⟨p, 0, none⟩)] 45))
  have hlen := hr.1
  go_enter Try.func76, Try.ntmps76
  go_wp2_with (at_builtin; refine wpList_append_at rfl _ _ 36 rfl 0 45 i0 (.pointer none) 1 8 Try.underlying36 hi hz0 hz1 hz2 rfl (by decide) v n xs rfl hr1.out ⟨w.heap.size, 0, none⟩ 1 1 [.pointer (some ⟨p, 0, none⟩)] rfl rfl ?_ ?_ ?_ ?_ ?_ ?_)
  any_goals (first | (exact rfl) | omega | (unfold maxLen; omega))
  intro v' w4 hown4 hg4 hblk
  obtain ⟨a', cap', rfl⟩ : ∃ a' cap', v' = .slice a' (n + 1) cap' := by
    rcases hown4.2 with ⟨_, h0⟩ | ⟨g, cap, cur, h0, _⟩
    · omega
    · exact ⟨_, _, h0⟩
  have hgw : w.grownBy w4 v.ownBlock := grownBy_trans (World.grownBy_alloc w _ _) hg4
  have c4 : w4.cell? ⟨bc, 2, none⟩ = some v := hgw.cell h2 hne
  have f4 : w4.frozen? ⟨bc, 2, none⟩ = false := by rw [World.frozen?_of_block (a := ⟨bc, 2, none⟩) (hgw.block bc l1 hne)]; exact hf
  have hblk2 : ∀ k, (Value.slice a' (n + 1) cap').ownBlock = some k → v.ownBlock = some k ∨ w.heap.size ≤ k := fun k hk => by
    rcases hblk k hk with h | h
    · exact Or.inl h
    · exact Or.inr (by first | omega | (simp [World.alloc] at h; omega))
  have Ho := Lib.hid hown4
  have Hg := Lib.hid hgw
  have Hb := Lib.hid hblk2
  clear hown4 hgw hblk2 hblk hg4 hr1 hr
  go_wp2_with fail
  go_returns
  exact ⟨rfl, _, w4, rfl, Hg.out, Ho.out, Hb.out⟩

set_option maxHeartbeats 2000000 in
set_option maxRecDepth 100000 in
theorem row_Pop (bc g cap n p : Nat) (w : World) (hn : n ≤ 1099511627776) (h2 : w.cell? ⟨bc, 2, none⟩ = some (.slice (some ⟨g, 0, none⟩) (n + 1) cap)) (hf : w.frozen? ⟨bc, 2, none⟩ = false) (hcap : n + 1 ≤ cap)
    (hc : w.cell? ⟨g, n, none⟩ = some (.pointer (some ⟨p, 0, none⟩))) :
    Calls Try.prog 75 #[.pointer (some ⟨bc, 2, none⟩)] w fun e w' =>
      e = .returned (.iface 45 (.pointer (some ⟨p, 0, none⟩))) ∧ w' = w.setCell ⟨bc, 2, none⟩ (.slice (some ⟨g, 0, none⟩) n cap) := by
  have e1 : ((n + 1 : Nat) : Int) - 1 = (n : Nat) := by omega
  have e2 : (n : Int) < ((n + 1 : Nat) : Int) := by omega
  have e3 : (n : Int) ≤ (cap : Int) := by omega
  go_enter Try.func75, Try.ntmps75
  go_wp2_with fail
  go_returns
  exact ⟨rfl, rfl⟩

end Go.Proofs.Ytogdnkdndhodmaa

/- Walks: the cache's row, as a heap. -/
import Derived.Test.YtogdnkdndhodmaaHeapB
namespace Go.Proofs.Ytogdnkdndhodmaa
open Go.RowKit Go.Sort

theorem row_Len (a : Option Addr) (n cap : Nat) (w : World) :
    Calls Try.prog 71 #[.slice a n cap] w fun e w' => e = .returned (.int .i64 n) ∧ w' = w := by
  go_enter Try.func71, Try.ntmps71
  go_wp2_with fail
  go_returns
  exact ⟨rfl, rfl⟩

set_option maxHeartbeats 1000000 in
set_option maxRecDepth 100000 in
theorem row_Less (g n cap i k bi bk : Nat) (x y : Int) (w : World) (hi : i < n) (hk : k < n)
    (c1 : w.cell? ⟨g, i, none⟩ = some (.pointer (some ⟨bi, 0, none⟩))) (c2 : w.cell? ⟨g, k, none⟩ = some (.pointer (some ⟨bk, 0, none⟩)))
    (c3 : w.cell? ⟨bi, 5, none⟩ = some (.int .i64 x)) (c4 : w.cell? ⟨bk, 5, none⟩ = some (.int .i64 y)) :
    Calls Try.prog 72 #[.slice (some ⟨g, 0, none⟩) n cap, .int .i64 i, .int .i64 k] w fun e w' => e = .returned (.bool (decide (x < y))) ∧ w' = w.drew := by
  go_enter Try.func72, Try.ntmps72
  have hi' : (i : Int) < n := by omega
  have hk' : (k : Int) < n := by omega
  have l1 := World.block_lt_of_cell? _ _ c1
  have l3 := World.block_lt_of_cell? _ _ c3
  have l4 := World.block_lt_of_cell? _ _ c4
  go_wp2_with fail
  go_region
  go_wp2_with fail
  go_returns
  exact ⟨rfl, rfl⟩

set_option maxHeartbeats 1000000 in
set_option maxRecDepth 100000 in
theorem row_Swap (g n cap i k bi bk : Nat) (w : World) (hi : i < n) (hk : k < n)
    (c1 : w.cell? ⟨g, i, none⟩ = some (.pointer (some ⟨bi, 0, none⟩))) (c2 : w.cell? ⟨g, k, none⟩ = some (.pointer (some ⟨bk, 0, none⟩)))
    (f1 : w.frozen? ⟨g, i, none⟩ = false) (f2 : w.frozen? ⟨g, k, none⟩ = false) :
    Calls Try.prog 73 #[.slice (some ⟨g, 0, none⟩) n cap, .int .i64 i, .int .i64 k] w fun e w' => e = .returned (.tuple #[]) ∧ w' = ((w.setCell ⟨g, i, none⟩ (.pointer (some ⟨bk, 0, none⟩))).setCell ⟨g, k, none⟩ (.pointer (some ⟨bi, 0, none⟩))).drew := by
  have hi' : (i : Int) < n := by omega
  have hk' : (k : Int) < n := by omega
  by_cases hne : i = k
  · subst hne
    obtain rfl : bi = bk := by rw [c1] at c2; simpa using c2
    go_enter Try.func73, Try.ntmps73
    go_wp2_with fail
    go_region
    go_wp2_with fail
    go_returns
    exact ⟨rfl, rfl⟩
  · have hne' : ¬ k = i := fun h => hne h.symm
    go_enter Try.func73, Try.ntmps73
    go_wp2_with fail
    go_region
    go_wp2_with fail
    go_returns
    exact ⟨rfl, rfl⟩

end Go.Proofs.Ytogdnkdndhodmaa

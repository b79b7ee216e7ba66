/- Walks: a new cache; how many it holds. -/
import Derived.Test.YtogdnkdndhodmaaCacS
namespace Go.Proofs.Ytogdnkdndhodmaa
open Go.RowKit Go.Sort

theorem cac_Len {O : Nat → Prop} {w : World} {bc most now n : Nat} {v : Value} {e : Nat → Ent} (h : Cac O w bc most now n v e) :
    Calls Try.prog 9 #[.pointer (some ⟨bc, 0, none⟩)] w fun r w' => r = .returned (.int .i64 n) ∧ w' = w := by
  obtain ⟨c0, c1, c2, c3⟩ := h.c0
  obtain ⟨a, cap, rfl⟩ := h.slice
  clear h
  go_enter Try.func9, Try.ntmps9
  go_wp2_with fail
  go_returns
  exact ⟨rfl, rfl⟩

theorem cac_New (k : Nat) (hk : k ≤ 1000) (w : World) :
    Calls Try.prog 5 #[.int .i64 k] w fun r w' => r = .returned (.pointer (some ⟨w.heap.size, 0, none⟩)) ∧ Below w.heap.size w w' ∧ Cac (fun b => b = w.heap.size) w' w.heap.size k 0 0 (.slice none 0 0) (fun _ => ⟨0, ⟨0, 0, 0, 0⟩, [], 0⟩) := by
  have h1 : max (k : Int) 0 = k := by omega
  have h2 : min (k : Int) 1000 = k := by omega
  go_enter Try.func5, Try.ntmps5
  go_wp2_with fail
  go_returns
  refine ⟨rfl, kept_alloc (Below.refl _ _) _, ?_⟩
  refine ⟨heap_alloc_new w _, World.ownsRow_nil _ _ _ _, fun j hj => absurd hj (by omega), fun i j hi => absurd hi (by omega), rfl, fun h e => (by cases e), fun h e => (by rw [e]; simp)⟩

end Go.Proofs.Ytogdnkdndhodmaa

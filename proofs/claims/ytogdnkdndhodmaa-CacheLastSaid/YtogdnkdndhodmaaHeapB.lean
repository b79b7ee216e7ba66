/- Walks: container/heap's own functions over whatever keeps a row. -/
import Derived.Test.YtogdnkdndhodmaaHeap
namespace Go.Proofs.Ytogdnkdndhodmaa
open Go.RowKit Go.Sort

section
variable {α : Type} {t : TypeId} {p : Value} {K : α → Int} {n : Nat} {S : (Nat → α) → World → Prop}

set_option maxHeartbeats 2000000 in
set_option maxRecDepth 100000 in
theorem fix_any (H : HeapIf t p K n S) (hn : n ≤ 1099511627776) (i : Nat) (a : Nat → α) (hi : i < n) (w : World) (hS : S a w) :
    Calls Try.prog 23 #[.iface t p, .int .i64 i] w fun e w' => e = .returned (.tuple #[]) ∧ S (fixH K n a i) w' := by
  obtain ⟨f, r, hm, hf, hc⟩ := H.len a w hS
  replace hm := hm 214
  go_enter Try.func23, Try.ntmps23
  go_wp2_with fail
  refine hc.mono ?_
  rintro e w1 ⟨rfl, hS1⟩
  clear hm hf hc
  go_wp2_with fail
  refine (down_any H hn n i a (by omega) (by omega) _ hS1).mono ?_
  rintro e w2 ⟨rfl, hS2⟩
  by_cases hq : i < (downH K n a i).2
  · simp only [decide_eq_true hq]
    have hF : (downH K n a i).1 = fixH K n a i := (if_pos hq).symm
    rw [hF] at hS2
    clear hq hF
    go_wp2_with fail
    go_returns
    exact ⟨rfl, hS2⟩
  · simp only [decide_eq_false hq]
    have hF : upH K (downH K n a i).1 i = fixH K n a i := (if_neg hq).symm
    clear hq
    go_wp2_with fail
    refine (up_any H hn i _ hi _ hS2).mono ?_
    rintro e w3 ⟨rfl, hS3⟩
    rw [hF] at hS3
    clear hF
    go_wp2_with fail
    go_returns
    exact ⟨rfl, hS3⟩

set_option maxHeartbeats 2000000 in
set_option maxRecDepth 100000 in
theorem push_any (H : HeapIf t p K (n + 1) S) (hn : n < 1099511627776) (x : Value) (a : Nat → α) (w : World)
    (hp : Meth t p "Push" #[x] w fun e w' => e = .returned (.tuple #[]) ∧ S a w') :
    Calls Try.prog 15 #[.iface t p, x] w fun e w' => e = .returned (.tuple #[]) ∧ S (upH K a n) w' := by
  obtain ⟨f, r, hm, hf, hc⟩ := hp
  replace hm := hm 214
  go_enter Try.func15, Try.ntmps15
  go_wp2_with fail
  refine hc.mono ?_
  rintro e w1 ⟨rfl, hS1⟩
  clear hm hf hc
  obtain ⟨f, r, hm, hf, hc⟩ := H.len a w1 hS1
  replace hm := hm 214
  go_wp2_with fail
  refine hc.mono ?_
  rintro e w2 ⟨rfl, hS2⟩
  clear hm hf hc
  have e1 : ((n + 1 : Nat) : Int) - 1 = (n : Nat) := by omega
  go_wp2_with fail
  refine (up_any H (by omega) n _ (by omega) _ hS2).mono ?_
  rintro e w3 ⟨rfl, hS3⟩
  go_wp2_with fail
  go_returns
  exact ⟨rfl, hS3⟩

/-- What Pop leaves ahead of its last step. -/
def popH (K : α → Int) (n : Nat) (a : Nat → α) : Nat → α := (downH K n (swp a 0 n) 0).1

set_option maxHeartbeats 2000000 in
set_option maxRecDepth 100000 in
theorem pop_any (H : HeapIf t p K (n + 1) S) (hn : n < 1099511627776) (a : Nat → α) (w : World) (hS : S a w) (R : Value → World → Prop)
    (hp : ∀ w', S (popH K n a) w' → Meth t p "Pop" #[] w' fun e w' => ∃ v, e = .returned v ∧ R v w') :
    Calls Try.prog 16 #[.iface t p] w fun e w' => ∃ v, e = .returned v ∧ R v w' := by
  obtain ⟨f, r, hm, hf, hc⟩ := H.len a w hS
  replace hm := hm 214
  go_enter Try.func16, Try.ntmps16
  go_wp2_with fail
  refine hc.mono ?_
  rintro e w1 ⟨rfl, hS1⟩
  clear hm hf hc
  obtain ⟨f, r, hm, hf, hc⟩ := H.swap a w1 0 n (by omega) (by omega) hS1
  replace hm := hm 214
  have e1 : ((n + 1 : Nat) : Int) - 1 = (n : Nat) := by omega
  go_wp2_with fail
  refine hc.mono ?_
  rintro e w2 ⟨rfl, hS2⟩
  clear hm hf hc
  go_wp2_with fail
  refine (down_any H (by omega) n 0 _ (by omega) (by omega) _ hS2).mono ?_
  rintro e w3 ⟨rfl, hS3⟩
  obtain ⟨f, r, hm, hf, hc⟩ := hp w3 hS3
  replace hm := hm 214
  go_wp2_with fail
  refine hc.mono ?_
  rintro e w4 ⟨v, rfl, hR⟩
  clear hm hf hc
  go_wp2_with fail
  go_returns
  exact ⟨v, rfl, hR⟩

/-- What Remove leaves ahead of its last step. -/
def remH (K : α → Int) (n : Nat) (a : Nat → α) (i : Nat) : Nat → α := if i = n then a else fixH K n (swp a i n) i

set_option maxHeartbeats 2000000 in
set_option maxRecDepth 100000 in
theorem remove_any (H : HeapIf t p K (n + 1) S) (hn : n < 1099511627776) (i : Nat) (hi : i < n + 1) (a : Nat → α) (w : World) (hS : S a w) (R : Value → World → Prop)
    (hp : ∀ w', S (remH K n a i) w' → Meth t p "Pop" #[] w' fun e w' => ∃ v, e = .returned v ∧ R v w') :
    Calls Try.prog 18 #[.iface t p, .int .i64 i] w fun e w' => ∃ v, e = .returned v ∧ R v w' := by
  obtain ⟨f, r, hm, hf, hc⟩ := H.len a w hS
  replace hm := hm 214
  go_enter Try.func18, Try.ntmps18
  go_wp2_with fail
  refine hc.mono ?_
  rintro e w1 ⟨rfl, hS1⟩
  clear hm hf hc
  have e1 : ((n + 1 : Nat) : Int) - 1 = (n : Nat) := by omega
  unfold remH at hp
  by_cases hin : i = n
  · subst hin
    rw [if_pos rfl] at hp
    obtain ⟨f, r, hm, hf, hc⟩ := hp w1 hS1
    replace hm := hm 214
    go_wp2_with fail
    refine hc.mono ?_
    rintro e w4 ⟨v, rfl, hR⟩
    clear hm hf hc
    go_wp2_with fail
    go_returns
    exact ⟨v, rfl, hR⟩
  · rw [if_neg hin] at hp
    unfold fixH at hp
    have hni : ((n : Int) != (i : Int)) = true := by simp; omega
    obtain ⟨f, r, hm, hf, hc⟩ := H.swap a w1 i n (by omega) (by omega) hS1
    replace hm := hm 214
    go_wp2_with fail
    refine hc.mono ?_
    rintro e w2 ⟨rfl, hS2⟩
    clear hm hf hc
    go_wp2_with fail
    refine (down_any H (by omega) n i _ (by omega) (by omega) _ hS2).mono ?_
    rintro e w3 ⟨rfl, hS3⟩
    by_cases hq : i < (downH K n (swp a i n) i).2
    · simp only [decide_eq_true hq]
      rw [if_pos hq] at hp
      clear hq
      obtain ⟨f, r, hm, hf, hc⟩ := hp w3 hS3
      replace hm := hm 214
      go_wp2_with fail
      refine hc.mono ?_
      rintro e w4 ⟨v, rfl, hR⟩
      clear hm hf hc
      go_wp2_with fail
      go_returns
      exact ⟨v, rfl, hR⟩
    · simp only [decide_eq_false hq]
      rw [if_neg hq] at hp
      clear hq
      go_wp2_with fail
      refine (up_any H (by omega) i _ (by omega) _ hS3).mono ?_
      rintro e w4 ⟨rfl, hS4⟩
      obtain ⟨f, r, hm, hf, hc⟩ := hp w4 hS4
      replace hm := hm 214
      go_wp2_with fail
      refine hc.mono ?_
      rintro e w5 ⟨v, rfl, hR⟩
      clear hm hf hc
      go_wp2_with fail
      go_returns
      exact ⟨v, rfl, hR⟩

end
end Go.Proofs.Ytogdnkdndhodmaa

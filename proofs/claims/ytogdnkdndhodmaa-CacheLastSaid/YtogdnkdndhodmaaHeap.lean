/- Walks: container/heap over whatever keeps a row. -/
import Derived.Test.YtogdnkdndhodmaaProg
import Derived.Test.YtogdnkdndhodmaaReg
import Derived.Test.YtogdnkdndhodmaaHp
import Derived.Handy
namespace Go.Proofs.Ytogdnkdndhodmaa
open Go.RowKit Go.Sort

/-- A value's method of that name, and what it does. -/
def Meth (t : TypeId) (p : Value) (name : String) (args : Array Value) (w : World) (R : Ending → World → Prop) : Prop :=
  ∃ f r, (∀ d, (method (d + 1) t p name).run Try.prog w = .ok (f, r) w) ∧ (∀ xs w, (callFunc f xs).run Try.prog w = .ok (.enter f xs) w) ∧ Calls Try.prog f (#[r] ++ args) w R

/-- What heap asks of the thing that it orders: n in a row. -/
structure HeapIf {α : Type} (t : TypeId) (p : Value) (K : α → Int) (n : Nat) (S : (Nat → α) → World → Prop) : Prop where
  len : ∀ a w, S a w → Meth t p "Len" #[] w fun e w' => e = .returned (.int .i64 n) ∧ S a w'
  less : ∀ a w i k, i < n → k < n → S a w → Meth t p "Less" #[.int .i64 (i : Nat), .int .i64 (k : Nat)] w fun e w' => e = .returned (.bool (decide (K (a i) < K (a k)))) ∧ S a w'
  swap : ∀ a w i k, i < n → k < n → S a w → Meth t p "Swap" #[.int .i64 (i : Nat), .int .i64 (k : Nat)] w fun e w' => e = .returned (.tuple #[]) ∧ S (swp a i k) w'

section
variable {α : Type} {t : TypeId} {p : Value} {K : α → Int} {n : Nat} {S : (Nat → α) → World → Prop}

set_option maxHeartbeats 2000000 in
set_option maxRecDepth 100000 in
theorem up_any (H : HeapIf t p K n S) (hn : n ≤ 1099511627776) (j : Nat) (a : Nat → α) (hj : j < n) (w : World) (hS : S a w) :
    Calls Try.prog 24 #[.iface t p, .int .i64 j] w fun e w' => e = .returned (.tuple #[]) ∧ S (upH K a j) w' := by
  go_enter Try.func24, Try.ntmps24
  go_wp2_with fail
  go_loopw [1] (fun x wr => ∃ (k : Nat) (b : Nat → α), x = .int .i64 k ∧ k < n ∧ S b wr ∧ upH K b k = upH K a j)
    (fun x _ => (intOf x).toNat)
  case atStart => exact ⟨j, a, rfl, hj, hS, rfl⟩
  case round =>
    obtain ⟨k, b, rfl, hk, hSb, hu⟩ := hrel
    by_cases k0 : k = 0
    · subst k0
      go_wp2_with fail
      go_returns
      rw [← hu, upH, dif_pos rfl]
      exact ⟨rfl, hSb⟩
    · obtain ⟨i, hi⟩ : ∃ i, (k - 1) / 2 = i := ⟨_, rfl⟩
      have hh : ((k : Int) - 1).tdiv 2 = (i : Nat) := by
        rw [Int.tdiv_eq_ediv_of_nonneg (by omega)]; omega
      have hne : ((i : Int) == (k : Int)) = false := by simp; omega
      obtain ⟨f, r, hm, hf, hc⟩ := H.less b _ k i hk (by omega) hSb
      replace hm := hm 214
      go_wp2_with fail
      refine hc.mono ?_
      rintro e w1 ⟨rfl, hS1⟩
      clear hm hf hc
      by_cases hlt : K (b k) < K (b i)
      · simp only [decide_eq_true hlt]
        obtain ⟨f, r, hm, hf, hc⟩ := H.swap b w1 i k (by omega) hk hS1
        replace hm := hm 214
        have hu2 : upH K (swp b i k) i = upH K a j := by
          rw [← hu, upH.eq_def K b k, dif_neg k0, hi, if_pos hlt]
        clear hlt hu
        go_wp2_with fail
        refine hc.mono ?_
        rintro e w2 ⟨rfl, hS2⟩
        clear hm hf hc
        go_wp2_with fail
        go_roundw
        case rel => exact ⟨i, _, rfl, by omega, hS2, hu2⟩
        case measure => simp [intOf]; omega
      · simp only [decide_eq_false hlt]
        have hu2 : b = upH K a j := by
          rw [← hu, upH.eq_def K b k, dif_neg k0, hi, if_neg hlt]
        clear hlt hu
        go_wp2_with fail
        go_returns
        rw [← hu2]
        exact ⟨rfl, hS1⟩

/- down, by gen/g_heap.py -/
set_option maxHeartbeats 4000000 in
set_option maxRecDepth 100000 in
theorem down_any (H : HeapIf t p K n S) (hn : n ≤ 1099511627776) (m j : Nat) (a : Nat → α) (hj : j ≤ n) (hmn : m ≤ n) (w : World) (hS : S a w) :
    Calls Try.prog 25 #[.iface t p, .int .i64 j, .int .i64 m] w fun e w' => e = .returned (.bool (decide (j < (downH K m a j).2))) ∧ S (downH K m a j).1 w' := by
  go_enter Try.func25, Try.ntmps25
  go_wp2_with fail
  go_loopw [7] (fun x wr => ∃ (k : Nat) (b : Nat → α), x = .int .i64 k ∧ j ≤ k ∧ k ≤ n ∧ S b wr ∧ downH K m b k = downH K m a j)
    (fun x _ => m - (intOf x).toNat)
  case atStart => exact ⟨j, a, rfl, Nat.le_refl _, by omega, hS, rfl⟩
  case round =>
    obtain ⟨k, b, rfl, hjk, hkn, hSb, hu⟩ := hrel
    obtain ⟨c, hc1⟩ : ∃ c, 2 * k + 1 = c := ⟨_, rfl⟩
    have hci : 2 * (k : Int) + 1 = (c : Nat) := by omega
    have hcm : 2 * (k : Int) = (c : Int) - 1 := by omega
    by_cases h1 : c < m
    · have h1i : ¬ (m : Int) ≤ c := by omega
      have h1n : ¬ (c : Int) < 0 := by omega
      obtain ⟨d, hd1⟩ : ∃ d, 2 * k + 2 = d := ⟨_, rfl⟩
      have hdi : (c : Int) + 1 = (d : Nat) := by omega
      by_cases h2 : d < m
      · obtain ⟨f, r, hm, hf, hc⟩ := H.less b wr d c (by omega) (by omega) hSb
        replace hm := hm 214
        go_wp2_with fail
        refine hc.mono ?_
        rintro e w1 ⟨rfl, hS1⟩
        clear hm hf hc
        by_cases hq : K (b d) < K (b c)
        · simp only [decide_eq_true hq]
          have hk : kid K m b k = d := by simp only [kid, hc1, hd1]; rw [if_pos ⟨h2, hq⟩]
          clear hq
          obtain ⟨f, r, hm, hf, hc⟩ := H.less b w1 d k (by omega) (by omega) hS1
          replace hm := hm 214
          go_wp2_with fail
          refine hc.mono ?_
          rintro e w2 ⟨rfl, hS2⟩
          clear hm hf hc
          by_cases hlt : K (b d) < K (b k)
          · simp only [decide_eq_true hlt]
            obtain ⟨f, r, hm, hf, hc⟩ := H.swap b w2 k d (by omega) (by omega) hS2
            replace hm := hm 214
            have hu2 : downH K m (swp b k d) d = downH K m a j := by
              rw [← hu, downH.eq_def K m b k, dif_pos (by omega), hk, if_pos hlt]
            clear hlt hu hk
            go_wp2_with fail
            refine hc.mono ?_
            rintro e w3 ⟨rfl, hS3⟩
            clear hm hf hc
            go_wp2_with fail
            go_roundw
            case rel => exact ⟨d, _, rfl, by omega, by omega, hS3, hu2⟩
            case measure => simp [intOf]; omega
          · simp only [decide_eq_false hlt]
            have hu2 : (b, k) = downH K m a j := by
              rw [← hu, downH.eq_def K m b k, dif_pos (by omega), hk, if_neg hlt]
            clear hlt hu hk
            go_wp2_with fail
            go_returns
            rw [← hu2]
            exact ⟨by simp, hS2⟩
        · simp only [decide_eq_false hq]
          have hk : kid K m b k = c := by simp only [kid, hc1, hd1]; rw [if_neg (fun h => hq h.2)]
          clear hq
          obtain ⟨f, r, hm, hf, hc⟩ := H.less b w1 c k (by omega) (by omega) hS1
          replace hm := hm 214
          go_wp2_with fail
          refine hc.mono ?_
          rintro e w2 ⟨rfl, hS2⟩
          clear hm hf hc
          by_cases hlt : K (b c) < K (b k)
          · simp only [decide_eq_true hlt]
            obtain ⟨f, r, hm, hf, hc⟩ := H.swap b w2 k c (by omega) (by omega) hS2
            replace hm := hm 214
            have hu2 : downH K m (swp b k c) c = downH K m a j := by
              rw [← hu, downH.eq_def K m b k, dif_pos (by omega), hk, if_pos hlt]
            clear hlt hu hk
            go_wp2_with fail
            refine hc.mono ?_
            rintro e w3 ⟨rfl, hS3⟩
            clear hm hf hc
            go_wp2_with fail
            go_roundw
            case rel => exact ⟨c, _, rfl, by omega, by omega, hS3, hu2⟩
            case measure => simp [intOf]; omega
          · simp only [decide_eq_false hlt]
            have hu2 : (b, k) = downH K m a j := by
              rw [← hu, downH.eq_def K m b k, dif_pos (by omega), hk, if_neg hlt]
            clear hlt hu hk
            go_wp2_with fail
            go_returns
            rw [← hu2]
            exact ⟨by simp, hS2⟩
      · have hk : kid K m b k = c := by simp only [kid, hc1, hd1]; rw [if_neg (fun h => h2 h.1)]
        obtain ⟨f, r, hm, hf, hc⟩ := H.less b wr c k (by omega) (by omega) hSb
        replace hm := hm 214
        go_wp2_with fail
        refine hc.mono ?_
        rintro e w2 ⟨rfl, hS2⟩
        clear hm hf hc
        by_cases hlt : K (b c) < K (b k)
        · simp only [decide_eq_true hlt]
          obtain ⟨f, r, hm, hf, hc⟩ := H.swap b w2 k c (by omega) (by omega) hS2
          replace hm := hm 214
          have hu2 : downH K m (swp b k c) c = downH K m a j := by
            rw [← hu, downH.eq_def K m b k, dif_pos (by omega), hk, if_pos hlt]
          clear hlt hu hk
          go_wp2_with fail
          refine hc.mono ?_
          rintro e w3 ⟨rfl, hS3⟩
          clear hm hf hc
          go_wp2_with fail
          go_roundw
          case rel => exact ⟨c, _, rfl, by omega, by omega, hS3, hu2⟩
          case measure => simp [intOf]; omega
        · simp only [decide_eq_false hlt]
          have hu2 : (b, k) = downH K m a j := by
            rw [← hu, downH.eq_def K m b k, dif_pos (by omega), hk, if_neg hlt]
          clear hlt hu hk
          go_wp2_with fail
          go_returns
          rw [← hu2]
          exact ⟨by simp, hS2⟩
    · have h1i : (m : Int) ≤ c := by omega
      have hu2 : (b, k) = downH K m a j := by
        rw [← hu, downH.eq_def K m b k, dif_neg (by omega)]
      clear hu
      go_wp2_with fail
      go_returns
      rw [← hu2]
      exact ⟨by simp, hSb⟩

end
end Go.Proofs.Ytogdnkdndhodmaa

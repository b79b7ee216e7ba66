/- Plain: a heap in a row, as container/heap keeps it. -/
import Derived.ProofKit
namespace Go.Proofs.Ytogdnkdndhodmaa

section
variable {α : Type} (K : α → Int)

/-- Two change places. -/
def swp (a : Nat → α) (i k : Nat) : Nat → α := fun j => if j = i then a k else if j = k then a i else a j

/-- One rises. -/
def upH (a : Nat → α) (j : Nat) : Nat → α :=
  if h : j = 0 then a
  else if K (a j) < K (a ((j - 1) / 2)) then upH (swp a ((j - 1) / 2) j) ((j - 1) / 2) else a
termination_by j
decreasing_by omega

/-- The lesser child. -/
def kid (n : Nat) (a : Nat → α) (i : Nat) : Nat :=
  if 2 * i + 2 < n ∧ K (a (2 * i + 2)) < K (a (2 * i + 1)) then 2 * i + 2 else 2 * i + 1

theorem kid_ge (n : Nat) (a : Nat → α) (i : Nat) : i < kid K n a i := by unfold kid; split <;> omega
theorem kid_lt (n : Nat) (a : Nat → α) (i : Nat) (h : 2 * i + 1 < n) : kid K n a i < n := by unfold kid; split <;> omega
theorem kid_par (n : Nat) (a : Nat → α) (i : Nat) : (kid K n a i - 1) / 2 = i := by unfold kid; split <;> omega

/-- One sinks: the row behind it, and where it comes to rest. -/
def downH (n : Nat) (a : Nat → α) (i : Nat) : (Nat → α) × Nat :=
  if h : 2 * i + 1 < n then
    if K (a (kid K n a i)) < K (a i) then downH n (swp a i (kid K n a i)) (kid K n a i) else (a, i)
  else (a, i)
termination_by n - i
decreasing_by have := kid_ge K n a i; omega

theorem swp_lo (a : Nat → α) (i k j : Nat) (h1 : j ≠ i) (h2 : j ≠ k) : swp a i k j = a j := by simp [swp, h1, h2]
theorem swp_l (a : Nat → α) (i k : Nat) : swp a i k i = a k := by simp [swp]
theorem swp_r (a : Nat → α) (i k : Nat) : swp a i k k = a i := by
  unfold swp; split
  · rename_i h; subst h; rfl
  · simp

/-- In order, from the m-th on. -/
def InHeap (m n : Nat) (a : Nat → α) : Prop := ∀ k, 0 < k → k < n → m ≤ (k - 1) / 2 → K (a ((k - 1) / 2)) ≤ K (a k)

/-- In order but for the i-th and those right below it. -/
structure Sinks (m n : Nat) (a : Nat → α) (i : Nat) : Prop where
  rest : ∀ k, 0 < k → k < n → m ≤ (k - 1) / 2 → (k - 1) / 2 ≠ i → K (a ((k - 1) / 2)) ≤ K (a k)
  over : ∀ k, 0 < k → k < n → (k - 1) / 2 = i → 0 < i → m ≤ (i - 1) / 2 → K (a ((i - 1) / 2)) ≤ K (a k)

/-- In order but for the i-th and what is right over it. -/
structure Rises (n : Nat) (a : Nat → α) (j : Nat) : Prop where
  rest : ∀ k, 0 < k → k < n → k ≠ j → K (a ((k - 1) / 2)) ≤ K (a k)
  over : ∀ k, 0 < k → k < n → (k - 1) / 2 = j → 0 < j → K (a ((j - 1) / 2)) ≤ K (a k)

/-- In order but for the i-th and its neighbours. -/
structure Odd1 (n : Nat) (a : Nat → α) (i : Nat) : Prop where
  rest : ∀ k, 0 < k → k < n → k ≠ i → (k - 1) / 2 ≠ i → K (a ((k - 1) / 2)) ≤ K (a k)
  over : ∀ k, 0 < k → k < n → (k - 1) / 2 = i → 0 < i → K (a ((i - 1) / 2)) ≤ K (a k)

theorem up_heap (n : Nat) : ∀ (j : Nat) (a : Nat → α), j < n → Rises K n a j → InHeap K 0 n (upH K a j) := by
  intro j
  induction j using Nat.strongRecOn with
  | ind j ih =>
    intro a hj h
    unfold upH
    split
    · rename_i h0
      intro k k0 kn _
      exact h.rest k k0 kn (by omega)
    · rename_i h0
      split
      · rename_i hlt
        refine ih ((j - 1) / 2) (by omega) _ (by omega) ⟨?_, ?_⟩
        · intro k k0 kn hk
          by_cases e1 : k = j
          · subst e1
            rw [swp_l, swp_r]; omega
          · rw [swp_lo _ _ _ k hk e1]
            by_cases e2 : (k - 1) / 2 = j
            · rw [e2, swp_r]; exact h.over k k0 kn e2 (by omega)
            · by_cases e3 : (k - 1) / 2 = (j - 1) / 2
              · rw [e3, swp_l]
                have := h.rest k k0 kn e1
                rw [e3] at this
                omega
              · rw [swp_lo _ _ _ _ e3 e2]; exact h.rest k k0 kn e1
        · intro k k0 kn hk hi
          have e0 : ((j - 1) / 2 - 1) / 2 ≠ (j - 1) / 2 := by omega
          rw [swp_lo _ _ _ _ e0 (by omega)]
          have hp := h.rest ((j - 1) / 2) hi (by omega) (by omega)
          by_cases e1 : k = j
          · subst e1; rw [swp_r]; exact hp
          · rw [swp_lo _ _ _ k (by omega) e1]
            have := h.rest k k0 kn e1
            rw [hk] at this
            omega
      · rename_i hge
        intro k k0 kn _
        by_cases e : k = j
        · subst e; omega
        · exact h.rest k k0 kn e

theorem kid_le (n : Nat) (a : Nat → α) (i k : Nat) (k0 : 0 < k) (kn : k < n) (hk : (k - 1) / 2 = i) : K (a (kid K n a i)) ≤ K (a k) := by
  have : k = 2 * i + 1 ∨ k = 2 * i + 2 := by omega
  unfold kid
  rcases this with rfl | rfl
  · split <;> omega
  · split
    · omega
    · omega

theorem sinks_step (m n : Nat) (a : Nat → α) (i : Nat) (hm : m ≤ i) (hn : 2 * i + 1 < n) (hlt : K (a (kid K n a i)) < K (a i))
    (rest : ∀ k, 0 < k → k < n → m ≤ (k - 1) / 2 → k ≠ i → (k - 1) / 2 ≠ i → K (a ((k - 1) / 2)) ≤ K (a k))
    (over : ∀ k, 0 < k → k < n → (k - 1) / 2 = i → 0 < i → m ≤ (i - 1) / 2 → K (a ((i - 1) / 2)) ≤ K (a k)) :
    Sinks K m n (swp a i (kid K n a i)) (kid K n a i) := by
  have hp := kid_par K n a i
  have hg := kid_ge K n a i
  have hl := kid_lt K n a i hn
  have hle := kid_le K n a i
  generalize kid K n a i = c at *
  refine ⟨?_, ?_⟩
  · intro k k0 kn hmk hk
    by_cases e1 : (k - 1) / 2 = i
    · rw [e1, swp_l]
      by_cases e2 : k = c
      · subst e2; rw [swp_r]; omega
      · rw [swp_lo _ _ _ k (by omega) e2]; exact hle k k0 kn e1
    · rw [swp_lo _ _ _ _ e1 hk]
      by_cases e2 : k = i
      · subst e2; rw [swp_l]; exact over c (by omega) hl hp k0 hmk
      · by_cases e3 : k = c
        · subst e3; omega
        · rw [swp_lo _ _ _ k e2 e3]; exact rest k k0 kn hmk e2 e1
  · intro k k0 kn hk c0 _
    rw [hp, swp_l, swp_lo _ _ _ k (by omega) (by omega)]
    have := rest k k0 kn (by omega) (by omega) (by omega)
    rwa [hk] at this

theorem down_heap (m n : Nat) : ∀ (d i : Nat) (a : Nat → α), n - i ≤ d → m ≤ i → Sinks K m n a i → InHeap K m n (downH K n a i).1 := by
  intro d
  induction d with
  | zero =>
    intro i a hd hm h
    unfold downH
    rw [dif_neg (by omega)]
    intro k k0 kn hk
    exact h.rest k k0 kn hk (by omega)
  | succ d ih =>
    intro i a hd hm h
    unfold downH
    split
    · rename_i hn
      have hg := kid_ge K n a i
      split
      · rename_i hlt
        exact ih _ _ (by omega) (by omega) (sinks_step K m n a i hm hn hlt (fun k k0 kn hk _ e => h.rest k k0 kn hk e) h.over)
      · rename_i hge
        intro k k0 kn hk
        by_cases e : (k - 1) / 2 = i
        · have := kid_le K n a i k k0 kn e
          show K (a _) ≤ K (a k)
          rw [e]; omega
        · exact h.rest k k0 kn hk e
    · rename_i hn
      intro k k0 kn hk
      exact h.rest k k0 kn hk (by omega)

theorem down_ge (n : Nat) : ∀ (d i : Nat) (a : Nat → α), n - i ≤ d → i ≤ (downH K n a i).2 := by
  intro d
  induction d with
  | zero => intro i a hd; unfold downH; rw [dif_neg (by omega)]; exact Nat.le_refl _
  | succ d ih =>
    intro i a hd
    unfold downH
    split
    · have hg := kid_ge K n a i
      split
      · have := ih (kid K n a i) (swp a i (kid K n a i)) (by omega)
        omega
      · exact Nat.le_refl _
    · exact Nat.le_refl _

/-- What 'Fix' does. -/
def fixH (n : Nat) (a : Nat → α) (i : Nat) : Nat → α :=
  if i < (downH K n a i).2 then (downH K n a i).1 else upH K (downH K n a i).1 i

theorem fix_heap (n : Nat) (a : Nat → α) (i : Nat) (hi : i < n) (h : Odd1 K n a i) : InHeap K 0 n (fixH K n a i) := by
  unfold fixH
  have key : downH K n a i = (a, i) ∨ (2 * i + 1 < n ∧ K (a (kid K n a i)) < K (a i)) := by
    unfold downH
    by_cases h1 : 2 * i + 1 < n
    · by_cases h2 : K (a (kid K n a i)) < K (a i)
      · exact Or.inr ⟨h1, h2⟩
      · left; simp [h2]
    · left; simp [h1]
  by_cases e : 2 * i + 1 < n ∧ K (a (kid K n a i)) < K (a i)
  · have hg := kid_ge K n a i
    have hs := sinks_step K 0 n a i (by omega) e.1 e.2 (fun k k0 kn _ e1 e2 => h.rest k k0 kn e1 e2) (fun k k0 kn hk i0 _ => h.over k k0 kn hk i0)
    have hd : downH K n a i = downH K n (swp a i (kid K n a i)) (kid K n a i) := by rw [downH]; simp [e.1, e.2]
    have hge := down_ge K n _ (kid K n a i) (swp a i (kid K n a i)) (Nat.le_refl _)
    rw [hd, if_pos (by omega)]
    exact down_heap K 0 n _ _ _ (Nat.le_refl _) (by omega) hs
  · have hd := key.resolve_right e
    rw [hd]
    simp only [Nat.lt_irrefl, if_false]
    refine up_heap K n i a hi ⟨?_, h.over⟩
    intro k k0 kn hk
    by_cases e2 : (k - 1) / 2 = i
    · have := kid_le K n a i k k0 kn e2
      have h1 : 2 * i + 1 < n := by omega
      rw [e2]
      have : ¬ K (a (kid K n a i)) < K (a i) := fun h2 => e ⟨h1, h2⟩
      omega
    · exact h.rest k k0 kn hk e2

theorem heap_min (n : Nat) (a : Nat → α) (h : InHeap K 0 n a) : ∀ k, k < n → K (a 0) ≤ K (a k) := by
  intro k
  induction k using Nat.strongRecOn with
  | ind k ih =>
    intro hk
    by_cases e : k = 0
    · subst e; exact Int.le_refl _
    · have := ih ((k - 1) / 2) (by omega) (by omega)
      have h2 := h k (by omega) hk (by omega)
      omega
end

/-- The first n as a list. -/
def rowOf {α : Type} (n : Nat) (a : Nat → α) : List α := (List.range n).map a

/-- The same ones, in whatever order: b is a, its places changed among the first n. -/
def Moved {α : Type} (n : Nat) (a b : Nat → α) : Prop := ∃ f g : Nat → Nat, (∀ j, g (f j) = j) ∧ (∀ j, f (g j) = j) ∧ (∀ j, j < n ↔ f j < n) ∧ (∀ j, n ≤ j → f j = j) ∧ ∀ j, b j = a (f j)

theorem Moved.refl {α : Type} (n : Nat) (a : Nat → α) : Moved n a a := ⟨id, id, fun _ => rfl, fun _ => rfl, fun _ => Iff.rfl, fun _ _ => rfl, fun _ => rfl⟩
theorem Moved.trans {α : Type} {n : Nat} {a b c : Nat → α} : Moved n a b → Moved n b c → Moved n a c := by
  rintro ⟨f, g, h1, h2, h3, h4, h5⟩ ⟨f', g', k1, k2, k3, k4, k5⟩
  refine ⟨fun j => f (f' j), fun j => g' (g j), fun j => by simp [h1, k1], fun j => by simp [h2, k2], fun j => by rw [k3 j, h3 (f' j)], fun j hj => by simp [k4 j hj, h4 j hj], fun j => by rw [k5, h5]⟩

theorem Moved.mono {α : Type} {n n' : Nat} {a b : Nat → α} (hn : n ≤ n') : Moved n a b → Moved n' a b := by
  rintro ⟨f, g, h1, h2, h3, h4, h5⟩
  refine ⟨f, g, h1, h2, fun j => ?_, fun j hj => h4 j (by omega), h5⟩
  by_cases e : j < n
  · have := (h3 j).1 e; omega
  · rw [h4 j (by omega)]

theorem moved_swp {α : Type} (n : Nat) (a : Nat → α) (i k : Nat) (hi : i < n) (hk : k < n) : Moved n a (swp a i k) := by
  refine ⟨swp id i k, swp id i k, ?_, ?_, ?_, ?_, ?_⟩
  all_goals intro j
  · simp only [swp, id]; repeat' split
    all_goals omega
  · simp only [swp, id]; repeat' split
    all_goals omega
  · simp only [swp, id]; repeat' split
    all_goals omega
  · intro hj; simp only [swp, id]; repeat' split
    all_goals omega
  · simp only [swp, id]; repeat' split
    all_goals rfl

section
variable {α : Type} (K : α → Int)

theorem moved_up (n : Nat) : ∀ (j : Nat) (a : Nat → α), j < n → Moved n a (upH K a j) := by
  intro j
  induction j using Nat.strongRecOn with
  | ind j ih =>
    intro a hj
    unfold upH
    split
    · exact Moved.refl _ _
    · split
      · exact (moved_swp n a _ _ (by omega) hj).trans (ih _ (by omega) _ (by omega))
      · exact Moved.refl _ _

theorem moved_down (n : Nat) : ∀ (d i : Nat) (a : Nat → α), n - i ≤ d → Moved n a (downH K n a i).1 := by
  intro d
  induction d with
  | zero => intro i a hd; unfold downH; rw [dif_neg (by omega)]; exact Moved.refl _ _
  | succ d ih =>
    intro i a hd
    unfold downH
    split
    · rename_i hn
      have hg := kid_ge K n a i
      have hl := kid_lt K n a i hn
      split
      · exact (moved_swp n a _ _ (by omega) hl).trans (ih _ _ (by omega))
      · exact Moved.refl _ _
    · exact Moved.refl _ _

theorem moved_fix (n : Nat) (a : Nat → α) (i : Nat) (hi : i < n) : Moved n a (fixH K n a i) := by
  unfold fixH
  split
  · exact moved_down K n _ i a (Nat.le_refl _)
  · exact (moved_down K n _ i a (Nat.le_refl _)).trans (moved_up K n i _ hi)
end

end Go.Proofs.Ytogdnkdndhodmaa

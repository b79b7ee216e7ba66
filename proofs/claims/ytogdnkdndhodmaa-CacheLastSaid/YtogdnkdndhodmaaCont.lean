/- Plain: what the cache's row holds, as a list in the order of use. -/
import Derived.Test.YtogdnkdndhodmaaCacN
namespace Go.Proofs.Ytogdnkdndhodmaa

/-- The row's entries, the one least lately used first. -/
structure Cont (n : Nat) (e : Nat → Ent) (l : List Ent) : Prop where
  len : l.length = n
  up : l.Pairwise (fun a b => a.k < b.k)
  mem : ∀ x, x ∈ l ↔ ∃ j, j < n ∧ e j = x
  inj : ∀ i j, i < n → j < n → e i = e j → i = j

theorem pair_inj : ∀ {l : List Ent}, l.Pairwise (fun a b => a.k < b.k) → ∀ x, x ∈ l → ∀ y, y ∈ l → x.k = y.k → x = y
  | [], _, x, hx, _, _, _ => by cases hx
  | a :: l, h, x, hx, y, hy, he => by
    rw [List.pairwise_cons] at h
    rcases List.mem_cons.1 hx with ex | hx'
    · rcases List.mem_cons.1 hy with ey | hy'
      · rw [ex, ey]
      · have := h.1 y hy'; rw [ex] at he; omega
    · rcases List.mem_cons.1 hy with ey | hy'
      · have := h.1 x hx'; rw [ey] at he; omega
      · exact pair_inj h.2 x hx' y hy' he

/-- All but one. -/
def butK (l : List Ent) (k : Int) : List Ent := l.filter (fun y => decide (y.k ≠ k))

theorem mem_butK (l : List Ent) (k : Int) (x : Ent) : x ∈ butK l k ↔ x ∈ l ∧ x.k ≠ k := by simp [butK]

theorem butK_none {l : List Ent} {k : Int} (h : ∀ y, y ∈ l → y.k ≠ k) : butK l k = l := by
  unfold butK
  rw [List.filter_eq_self]
  intro y hy
  simpa using h y hy

theorem butK_head {l : List Ent} {x : Ent} (h : (x :: l).Pairwise (fun a b => a.k < b.k)) : butK (x :: l) x.k = l := by
  rw [List.pairwise_cons] at h
  have : butK l x.k = l := butK_none (fun y hy => by have := h.1 y hy; omega)
  unfold butK at this ⊢
  rw [List.filter_cons_of_neg (by simp)]
  exact this

theorem butK_last {l : List Ent} {x : Ent} (h : (l ++ [x]).Pairwise (fun a b => a.k < b.k)) : butK (l ++ [x]) x.k = l := by
  rw [List.pairwise_append] at h
  have : butK l x.k = l := butK_none (fun y hy => by have := h.2.2 y hy x (by simp); omega)
  unfold butK at this ⊢
  rw [List.filter_append, this, List.filter_cons_of_neg (by simp)]
  simp

theorem butK_len : ∀ {l : List Ent}, l.Pairwise (fun a b => a.k < b.k) → ∀ x, x ∈ l → (butK l x.k).length + 1 = l.length
  | [], _, x, hx => by cases hx
  | a :: l, h, x, hx => by
    rcases List.mem_cons.1 hx with rfl | hx
    · rw [butK_head h]; simp
    · rw [List.pairwise_cons] at h
      have h1 := h.1 x hx
      have := butK_len h.2 x hx
      unfold butK at this ⊢
      rw [List.filter_cons_of_pos (by simp; omega)]
      simp only [List.length_cons]; omega

theorem butK_up {l : List Ent} (h : l.Pairwise (fun a b => a.k < b.k)) (k : Int) : (butK l k).Pairwise (fun a b => a.k < b.k) := h.sublist List.filter_sublist

theorem Cont.at {n : Nat} {e : Nat → Ent} {l : List Ent} (h : Cont n e l) (i : Nat) (hi : i < n) : e i ∈ l := (h.mem _).2 ⟨i, hi, rfl⟩

theorem Cont.moved {n : Nat} {a b : Nat → Ent} {l : List Ent} (h : Cont n a l) (m : Moved n a b) : Cont n b l := by
  obtain ⟨f, g, m1, m2, m3, m4, m5⟩ := m
  refine ⟨h.len, h.up, fun x => ?_, fun i j hi hj => ?_⟩
  · rw [h.mem]
    constructor
    · rintro ⟨j, hj, rfl⟩
      exact ⟨g j, (m3 (g j)).2 (by rw [m2]; exact hj), by rw [m5, m2]⟩
    · rintro ⟨j, hj, rfl⟩
      exact ⟨f j, (m3 j).1 hj, (m5 j).symm⟩
  · rw [m5, m5]
    intro eq
    have := h.inj _ _ ((m3 i).1 hi) ((m3 j).1 hj) eq
    rw [← m1 i, ← m1 j, this]

theorem Cont.put {n : Nat} {e : Nat → Ent} {l : List Ent} (h : Cont n e l) (x : Ent) (hx : ∀ y, y ∈ l → y.k < x.k) : Cont (n + 1) (putE e n x) (l ++ [x]) := by
  have hne : ∀ j, j < n → e j ≠ x := fun j hj eq => by
    have := hx _ (h.at j hj)
    rw [eq] at this; omega
  refine ⟨by simp [h.len], ?_, fun y => ?_, fun i j hi hj => ?_⟩
  · rw [List.pairwise_append]
    exact ⟨h.up, by simp, fun a ha b hb => by rw [List.mem_singleton] at hb; subst hb; exact hx a ha⟩
  · rw [List.mem_append, List.mem_singleton, h.mem]
    constructor
    · rintro (⟨j, hj, rfl⟩ | rfl)
      · exact ⟨j, by omega, by simp [putE, Nat.ne_of_lt hj]⟩
      · exact ⟨n, by omega, by simp [putE]⟩
    · rintro ⟨j, hj, rfl⟩
      by_cases e1 : j = n
      · right; simp [putE, e1]
      · left; exact ⟨j, by omega, by simp [putE, e1]⟩
  · unfold putE
    by_cases ei : i = n <;> by_cases ej : j = n
    · intro _; omega
    · simp only [ei, ej, if_true, if_false]
      intro eq; exact absurd eq.symm (hne j (by omega))
    · simp only [ei, ej, if_true, if_false]
      intro eq; exact absurd eq (hne i (by omega))
    · simp only [ei, ej, if_false]
      exact h.inj i j (by omega) (by omega)

/-- The last place is given up. -/
theorem Cont.drop {n : Nat} {a : Nat → Ent} {l : List Ent} (h : Cont (n + 1) a l) : Cont n a (butK l (a n).k) := by
  refine ⟨by have := butK_len h.up _ (h.at n (by omega)); have := h.len; omega, butK_up h.up _, fun x => ?_, fun i j hi hj => h.inj i j (by omega) (by omega)⟩
  rw [mem_butK, h.mem]
  constructor
  · rintro ⟨⟨j, hj, rfl⟩, hk⟩
    exact ⟨j, by rcases Nat.lt_succ_iff_lt_or_eq.1 hj with h | h; exact h; subst h; exact absurd rfl hk, rfl⟩
  · rintro ⟨j, hj, rfl⟩
    refine ⟨⟨j, by omega, rfl⟩, fun hk => ?_⟩
    have := h.inj j n (by omega) (by omega) (pair_inj h.up _ (h.at j (by omega)) _ (h.at n (by omega)) hk)
    omega

theorem Cont.pop {n : Nat} {a : Nat → Ent} {l : List Ent} (h : Cont (n + 1) a l) : Cont n (popH Ent.k n a) (butK l (a 0).k) := by
  have h1 := (h.moved (moved_swp (n + 1) a 0 n (by omega) (by omega))).drop
  rw [swp_r] at h1
  exact h1.moved (moved_down Ent.k n n 0 _ (by omega))

theorem pop_heap {n : Nat} {a : Nat → Ent} (h : InHeap Ent.k 0 (n + 1) a) : InHeap Ent.k 0 n (popH Ent.k n a) := by
  refine down_heap Ent.k 0 n n 0 _ (by omega) (by omega) ⟨?_, fun k _ _ _ h0 => by omega⟩
  intro k k0 kn hk hp
  rw [swp_lo _ _ _ _ hp (by omega), swp_lo _ _ _ k (by omega) (by omega)]
  exact h k k0 (by omega) hk

/-- The least one is the list's first. -/
theorem Cont.least {n : Nat} {a : Nat → Ent} {x : Ent} {l : List Ent} (h : Cont (n + 1) a (x :: l)) (hh : InHeap Ent.k 0 (n + 1) a) : a 0 = x := by
  obtain ⟨j, hj, hx⟩ := (h.mem x).1 (by simp)
  have h1 := heap_min Ent.k (n + 1) a hh j hj
  rw [hx] at h1
  rcases List.mem_cons.1 (h.at 0 (by omega)) with h2 | h2
  · exact h2
  · have := (List.pairwise_cons.1 h.up).1 _ h2
    omega

theorem Cont.pop_least {n : Nat} {a : Nat → Ent} {x : Ent} {l : List Ent} (h : Cont (n + 1) a (x :: l)) (hh : InHeap Ent.k 0 (n + 1) a) : Cont n (popH Ent.k n a) l := by
  have h1 := h.pop
  rwa [h.least hh, butK_head h.up] at h1

/-- One is turned, and is now the one used last. -/
theorem Cont.rekey {n : Nat} {e : Nat → Ent} {l : List Ent} (h : Cont n e l) (i : Nat) (hi : i < n) (y : Ent) (hy : ∀ z, z ∈ l → z.k < y.k) (e' : Nat → Ent) (he : ∀ j, e' j = if j = i then y else e j) :
    Cont n e' (butK l (e i).k ++ [y]) := by
  have hne : ∀ j, j < n → e j ≠ y := fun j hj eq => by
    have := hy _ (h.at j hj)
    rw [eq] at this; omega
  refine ⟨by have := butK_len h.up _ (h.at i hi); have := h.len; simp; omega, ?_, fun x => ?_, fun a b ha hb => ?_⟩
  · rw [List.pairwise_append]
    exact ⟨butK_up h.up _, by simp, fun a ha b hb => by rw [List.mem_singleton] at hb; subst hb; exact hy a ((mem_butK _ _ _).1 ha).1⟩
  · rw [List.mem_append, List.mem_singleton, mem_butK, h.mem]
    constructor
    · rintro (⟨⟨j, hj, rfl⟩, hk⟩ | rfl)
      · exact ⟨j, hj, by rw [he, if_neg]; rintro rfl; exact hk rfl⟩
      · exact ⟨i, hi, by rw [he, if_pos rfl]⟩
    · rintro ⟨j, hj, rfl⟩
      rw [he]
      by_cases e1 : j = i
      · right; rw [if_pos e1]
      · left; rw [if_neg e1]
        exact ⟨⟨j, hj, rfl⟩, fun hk => e1 (h.inj j i hj hi (pair_inj h.up _ (h.at j hj) _ (h.at i hi) hk))⟩
  · rw [he, he]
    by_cases ei : a = i <;> by_cases ej : b = i
    · intro _; omega
    · simp only [ei, ej, if_true, if_false]
      intro eq; exact absurd eq.symm (hne b hb)
    · simp only [ei, ej, if_true, if_false]
      intro eq; exact absurd eq (hne a ha)
    · simp only [ei, ej, if_false]
      exact h.inj a b ha hb

theorem put_heap {n : Nat} {e : Nat → Ent} (h : InHeap Ent.k 0 n e) (x : Ent) : InHeap Ent.k 0 (n + 1) (upH Ent.k (putE e n x) n) := by
  refine up_heap Ent.k (n + 1) n _ (by omega) ⟨?_, fun k _ hk hp _ => by omega⟩
  intro k k0 kn hk
  have e1 : putE e n x ((k - 1) / 2) = e ((k - 1) / 2) := by unfold putE; rw [if_neg (by omega)]
  have e2 : putE e n x k = e k := by unfold putE; rw [if_neg hk]
  rw [e1, e2]
  exact h k k0 (by omega) (Nat.zero_le _)

theorem set_heap {n : Nat} {e : Nat → Ent} (h : InHeap Ent.k 0 n e) (i : Nat) (hi : i < n) (y : Ent) (e' : Nat → Ent) (he : ∀ j, e' j = if j = i then y else e j) : InHeap Ent.k 0 n (fixH Ent.k n e' i) := by
  refine fix_heap Ent.k n e' i hi ⟨?_, ?_⟩
  · intro k k0 kn hk hp
    rw [he, he, if_neg hp, if_neg hk]
    exact h k k0 kn (Nat.zero_le _)
  · intro k k0 kn hp hi0
    rw [he, he, if_neg (by omega), if_neg (by omega)]
    have h1 := h k k0 kn (Nat.zero_le _)
    have h2 := h i hi0 hi (Nat.zero_le _)
    rw [hp] at h1
    omega

end Go.Proofs.Ytogdnkdndhodmaa

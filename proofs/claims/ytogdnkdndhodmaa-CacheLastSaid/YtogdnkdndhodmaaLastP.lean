/- Plain: the tiles of a row, one behind the other, in a cache of few. -/
import Derived.Test.YtogdnkdndhodmaaCont
namespace Go.Proofs.Ytogdnkdndhodmaa
open Go.RowKit Go.Sort

def tileN (x : Nat) : Tl := ⟨6, 0, (x : Nat), 0⟩
def bs7 (x : Nat) : List Value := [.int .u8 x, .int .u8 7]
def strip (x : Ent) : Tl × List Value := (x.t, x.bs)
def S7 (x : Nat) : Tl × List Value := (tileN x, bs7 x)

theorem tileN_inj {x y : Nat} (h : tileN x = tileN y) : x = y := by
  simp [tileN] at h; omega

/-- The cache behind the first i tiles. -/
structure LastL (most i n : Nat) (e : Nat → Ent) (l : List Ent) : Prop where
  cont : Cont n e l
  heap : InHeap Ent.k 0 n e
  what : l.map strip = (List.range' (i - n) n).map S7
  stamp : ∀ y, y ∈ l → y.k ≤ ((2 * i : Nat) : Int)
  low : ∀ y, y ∈ l → 0 ≤ y.k

/-- In between: the last one has been put, once. -/
structure MidL (i n : Nat) (e : Nat → Ent) (m : List Ent) (x : Ent) : Prop where
  cont : Cont n e (m ++ [x])
  heap : InHeap Ent.k 0 n e
  what : m.map strip = (List.range' (i + 1 - n) (n - 1)).map S7
  stamp : ∀ y, y ∈ m → y.k ≤ ((2 * i : Nat) : Int)
  low : ∀ y, y ∈ m → 0 ≤ y.k

theorem range_tail (a n : Nat) : (List.range' a (n + 1)).map S7 = S7 a :: (List.range' (a + 1) n).map S7 := by
  rw [List.range'_succ]; rfl

theorem last_put {most i n : Nat} {e : Nat → Ent} {l : List Ent} (h : LastL most i n e l) (hn : n = min i most) (hm : 0 < most) (x : Ent) (hx : x.k = ((2 * i + 1 : Nat) : Int)) :
    ∃ m, MidL i (if most < n + 1 then n else n + 1) (if most < n + 1 then popH Ent.k n (upH Ent.k (putE e n x) n) else upH Ent.k (putE e n x) n) m x := by
  have c1 : Cont (n + 1) (upH Ent.k (putE e n x) n) (l ++ [x]) := (h.cont.put x (fun y hy => by have := h.stamp y hy; rw [hx]; omega)).moved (moved_up Ent.k (n + 1) n _ (by omega))
  have h1 := put_heap h.heap x
  by_cases hq : most < n + 1
  · simp only [if_pos hq]
    obtain ⟨n', rfl⟩ : ∃ n', n = n' + 1 := ⟨n - 1, by omega⟩
    have hw := h.what
    rw [range_tail] at hw
    match l, hw, h, c1 with
    | [], hw, _, _ => simp at hw
    | y :: l, hw, h, c1 =>
      simp only [List.map_cons, List.cons.injEq] at hw
      refine ⟨l, c1.pop_least h1, pop_heap h1, ?_, fun z hz => h.stamp z (List.mem_cons_of_mem _ hz), fun z hz => h.low z (List.mem_cons_of_mem _ hz)⟩
      rw [hw.2]
      congr 2
      omega
  · simp only [if_neg hq]
    refine ⟨l, c1, h1, ?_, h.stamp, h.low⟩
    rw [h.what]
    congr 2
    omega

theorem mid_at {i n : Nat} {e : Nat → Ent} {m : List Ent} {x : Ent} (h : MidL i n e m x) (hn : n ≤ i + 1) (j : Nat) (hj : j < n) (ht : (e j).t = tileN i) : e j = x := by
  rcases List.mem_append.1 (h.cont.at j hj) with h1 | h1
  · have h2 : strip (e j) ∈ m.map strip := List.mem_map_of_mem h1
    rw [h.what] at h2
    obtain ⟨a, ha, h3⟩ := List.mem_map.1 h2
    rw [List.mem_range'_1] at ha
    have h4 : tileN a = (e j).t := congrArg Prod.fst h3
    rw [ht] at h4
    have := tileN_inj h4
    omega
  · simpa using h1

theorem last_step {most i n : Nat} {e : Nat → Ent} {m : List Ent} {x : Ent} (h : MidL i n e m x) (hn : n = min (i + 1) most) (hx : x.k = ((2 * i + 1 : Nat) : Int)) (hm : 0 < most) (j : Nat) (hj : j < n) (ht : (e j).t = tileN i) :
    ∃ l, LastL most (i + 1) n (fixH Ent.k n (setK (setB e j (bs7 i)) j ((2 * i + 1 + 1 : Nat) : Int)) j) l := by
  have ej := mid_at h (by omega) j hj ht
  have he : ∀ a, setK (setB e j (bs7 i)) j ((2 * i + 1 + 1 : Nat) : Int) a = if a = j then ({ x with bs := bs7 i, k := ((2 * i + 1 + 1 : Nat) : Int) } : Ent) else e a := by
    intro a
    by_cases ea : a = j
    · subst ea; simp [setK, setB, ej]
    · simp [setK, setB, ea]
  have hall : ∀ z, z ∈ m ++ [x] → z.k < ({ x with bs := bs7 i, k := ((2 * i + 1 + 1 : Nat) : Int) } : Ent).k := by
    intro z hz
    rcases List.mem_append.1 hz with h1 | h1
    · have := h.stamp z h1; show z.k < ((2 * i + 1 + 1 : Nat) : Int); omega
    · rw [List.mem_singleton] at h1; subst h1; show z.k < ((2 * i + 1 + 1 : Nat) : Int); omega
  have c := (h.cont.rekey j hj _ hall _ he).moved (moved_fix Ent.k n _ j hj)
  rw [ej, butK_last h.cont.up] at c
  refine ⟨_, c, set_heap h.heap j hj _ _ he, ?_, ?_, ?_⟩
  · have e1 : (List.range' (i + 1 - n) n) = List.range' (i + 1 - n) (n - 1) ++ [i] := by
      obtain ⟨k, rfl⟩ : ∃ k, n = k + 1 := ⟨n - 1, by omega⟩
      rw [List.range'_concat]
      congr 2
      omega
    rw [e1, List.map_append, List.map_append, h.what]
    have : strip { x with bs := bs7 i, k := ((2 * i + 1 + 1 : Nat) : Int) } = S7 i := by
      unfold strip S7
      rw [← ht, ej]
    rw [List.map_cons, List.map_nil, List.map_cons, List.map_nil, this]
  · intro y hy
    rcases List.mem_append.1 hy with h1 | h1
    · have := h.stamp y h1; omega
    · rw [List.mem_singleton] at h1; subst h1; show ((2 * i + 1 + 1 : Nat) : Int) ≤ _; omega
  · intro y hy
    rcases List.mem_append.1 hy with h1 | h1
    · exact h.low y h1
    · rw [List.mem_singleton] at h1; subst h1; show (0 : Int) ≤ ((2 * i + 1 + 1 : Nat) : Int); omega

/-- What is in the cache behind all the tiles. -/
structure InL (lo hi n : Nat) (e : Nat → Ent) : Prop where
  each : ∀ j, j < n → ∃ x, lo ≤ x ∧ x < hi ∧ (e j).t = tileN x ∧ (e j).bs = bs7 x
  all : ∀ x, lo ≤ x → x < hi → ∃ j, j < n ∧ (e j).t = tileN x

theorem last_in {most i n : Nat} {e : Nat → Ent} {l : List Ent} (h : LastL most i n e l) (hn : n ≤ i) : InL (i - n) i n e := by
  constructor
  · intro j hj
    have h2 : strip (e j) ∈ l.map strip := List.mem_map_of_mem (h.cont.at j hj)
    rw [h.what] at h2
    obtain ⟨a, ha, h3⟩ := List.mem_map.1 h2
    rw [List.mem_range'_1] at ha
    exact ⟨a, by omega, by omega, (congrArg Prod.fst h3).symm, (congrArg Prod.snd h3).symm⟩
  · intro x h1 h2
    have : S7 x ∈ l.map strip := by
      rw [h.what]
      exact List.mem_map_of_mem (List.mem_range'_1.2 (by omega))
    obtain ⟨y, hy, h3⟩ := List.mem_map.1 this
    obtain ⟨j, hj, rfl⟩ := (h.cont.mem y).1 hy
    exact ⟨j, hj, congrArg Prod.fst h3⟩

theorem InL.moved {lo hi n : Nat} {a b : Nat → Ent} (h : InL lo hi n a) (m : Moved n a b) : InL lo hi n b := by
  obtain ⟨f, g, m1, m2, m3, m4, m5⟩ := m
  constructor
  · intro j hj
    rw [m5]
    exact h.each _ ((m3 j).1 hj)
  · intro x h1 h2
    obtain ⟨j, hj, ht⟩ := h.all x h1 h2
    exact ⟨g j, (m3 (g j)).2 (by rw [m2]; exact hj), by rw [m5, m2]; exact ht⟩

theorem InL.used {lo hi n : Nat} {e : Nat → Ent} (h : InL lo hi n e) (i : Nat) (hi' : i < n) (k : Int) : InL lo hi n (fixH Ent.k n (setK e i k) i) := by
  have ht : ∀ j, (setK e i k j).t = (e j).t ∧ (setK e i k j).bs = (e j).bs := fun j => by
    unfold setK; split
    · rename_i h; subst h; exact ⟨rfl, rfl⟩
    · exact ⟨rfl, rfl⟩
  refine InL.moved ⟨fun j hj => ?_, fun x h1 h2 => ?_⟩ (moved_fix Ent.k n _ i hi')
  · rw [(ht j).1, (ht j).2]; exact h.each j hj
  · obtain ⟨j, hj, h3⟩ := h.all x h1 h2
    exact ⟨j, hj, by rw [(ht j).1]; exact h3⟩

end Go.Proofs.Ytogdnkdndhodmaa

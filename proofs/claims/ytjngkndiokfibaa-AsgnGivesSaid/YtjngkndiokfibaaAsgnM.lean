import Derived.Test.YtjngkndiokfibaaWWords
/- What Assign comes to, in plain Lean. -/
namespace Go.Proofs.Ytjngkndiokfibaa.AsgnM
def clampT (t : Int) : Nat := (min (max t 0) 1000).toNat
def living (alive : List Bool) : Nat := alive.count true
def give (t w : Nat) (s : List Int × List Int) : List Int × List Int := (s.1.set t (w : Int), s.2.set w (s.2.getD w 0 + 1))
def ok1 (alive : List Bool) (share : Int) (has : List Int) (w : Int) : Bool := decide (0 ≤ w) && (decide (w < (alive.length : Int)) && (alive.getD w.toNat false && decide (has.getD w.toNat 0 < share)))
def step1 (alive : List Bool) (share : Int) (prev : List Int) (s : List Int × List Int) (i : Nat) : List Int × List Int := if ok1 alive share s.2 (prev.getD i 0) = true then give i (prev.getD i 0).toNat s else s
def ph1 (alive : List Bool) (share : Int) (prev : List Int) (s : List Int × List Int) (k : Nat) : List Int × List Int := (List.range k).foldl (step1 alive share prev) s
def bstep (alive : List Bool) (has : List Int) (b : Int) (w : Nat) : Int := if (alive.getD w false && (b == -1 || decide (has.getD w 0 < has.getD b.toNat 0))) = true then (w : Int) else b
def best (alive : List Bool) (has : List Int) (k : Nat) : Int := (List.range k).foldl (bstep alive has) (-1)
def step2 (alive : List Bool) (s : List Int × List Int) (i : Nat) : List Int × List Int := if s.1.getD i 0 = -1 then give i (best alive s.2 alive.length).toNat s else s
def ph2 (alive : List Bool) (s : List Int × List Int) (k : Nat) : List Int × List Int := (List.range k).foldl (step2 alive) s
def share (T L : Nat) : Int := (((T + L - 1) / L : Nat) : Int)
def start (T n : Nat) : List Int × List Int := (List.replicate T (-1), List.replicate n 0)
def f (t : Int) (alive : List Bool) (prev : List Int) : List Int :=
  if living alive = 0 then List.replicate (clampT t) (-1)
  else (ph2 alive (ph1 alive (share (clampT t) (living alive)) prev (start (clampT t) alive.length) (min (clampT t) prev.length)) (clampT t)).1

theorem ph1_succ (alive : List Bool) (sh : Int) (prev : List Int) (s : List Int × List Int) (k : Nat) : ph1 alive sh prev s (k + 1) = step1 alive sh prev (ph1 alive sh prev s k) k := by
  simp [ph1, List.range_succ]
theorem ph2_succ (alive : List Bool) (s : List Int × List Int) (k : Nat) : ph2 alive s (k + 1) = step2 alive (ph2 alive s k) k := by simp [ph2, List.range_succ]
theorem best_succ (alive : List Bool) (has : List Int) (k : Nat) : best alive has (k + 1) = bstep alive has (best alive has k) k := by simp [best, List.range_succ]
theorem best_range (alive : List Bool) (has : List Int) : ∀ k, best alive has k = -1 ∨ (0 ≤ best alive has k ∧ best alive has k < k ∧ alive.getD (best alive has k).toNat false = true)
  | 0 => .inl rfl
  | k + 1 => by
    rw [best_succ]; unfold bstep
    split
    · rename_i h
      simp only [Bool.and_eq_true] at h
      exact .inr ⟨by omega, by omega, by simpa using h.1⟩
    · rcases best_range alive has k with h | ⟨h0, h1, h2⟩
      · exact .inl h
      · exact .inr ⟨h0, by omega, h2⟩
theorem best_some (alive : List Bool) (has : List Int) : ∀ k, (∃ w, w < k ∧ alive.getD w false = true) → best alive has k ≠ -1
  | 0, ⟨w, h, _⟩ => by omega
  | k + 1, ⟨w, h, ha⟩ => by
    rw [best_succ]; unfold bstep
    split
    · omega
    · rename_i hn
      by_cases e : w = k
      · subst e
        intro hb
        apply hn
        rw [ha, hb]; rfl
      · exact best_some alive has k ⟨w, by omega, ha⟩
theorem living_pos {alive : List Bool} (h : living alive ≠ 0) : ∃ w, w < alive.length ∧ alive.getD w false = true := by
  have := List.count_pos_iff.1 (Nat.pos_of_ne_zero h)
  obtain ⟨w, hw, he⟩ := List.mem_iff_getElem.1 this
  exact ⟨w, hw, by simp [List.getD_eq_getElem?_getD, List.getElem?_eq_getElem hw, he]⟩
theorem best_ok {alive : List Bool} (has : List Int) (h : living alive ≠ 0) : 0 ≤ best alive has alive.length ∧ best alive has alive.length < alive.length ∧ alive.getD (best alive has alive.length).toNat false = true := by
  rcases best_range alive has alive.length with h1 | h1
  · exact absurd h1 (best_some alive has _ (living_pos h))
  · exact h1

/-- The rows' lengths stay; the counts are at most the number of steps. -/
def Fine (T n : Nat) (m : Int) (s : List Int × List Int) : Prop := s.1.length = T ∧ s.2.length = n ∧ ∀ i, 0 ≤ s.2.getD i 0 ∧ s.2.getD i 0 ≤ m
theorem Fine.mono {T n : Nat} {m m' : Int} {s : List Int × List Int} (h : Fine T n m s) (hm : m ≤ m') : Fine T n m' s := ⟨h.1, h.2.1, fun i => ⟨(h.2.2 i).1, Int.le_trans (h.2.2 i).2 hm⟩⟩
theorem Fine.give {T n : Nat} {m : Int} {s : List Int × List Int} (h : Fine T n m s) (t w : Nat) : Fine T n (m + 1) (give t w s) := by
  refine ⟨by simp [AsgnM.give, h.1], by simp [AsgnM.give, h.2.1], fun i => ?_⟩
  have h1 := h.2.2 i
  have h2 := h.2.2 w
  by_cases e : i = w
  · subst e
    by_cases hl : i < s.2.length
    · have : (AsgnM.give t i s).2.getD i 0 = s.2.getD i 0 + 1 := by
        simp [AsgnM.give, List.getD_eq_getElem?_getD, List.getElem?_set_self hl]
      rw [this]; omega
    · have : (AsgnM.give t i s).2 = s.2 := by simp [AsgnM.give, List.set_eq_of_length_le (Nat.le_of_not_lt hl)]
      rw [this]; omega
  · have : (AsgnM.give t w s).2.getD i 0 = s.2.getD i 0 := by
      simp [AsgnM.give, List.getD_eq_getElem?_getD, List.getElem?_set_ne (Ne.symm e)]
    rw [this]; omega
theorem Fine.start (T n : Nat) : Fine T n 0 (start T n) := by
  refine ⟨by simp [AsgnM.start], by simp [AsgnM.start], fun i => ?_⟩
  have : (AsgnM.start T n).2.getD i 0 = 0 := by
    simp [AsgnM.start, List.getD_eq_getElem?_getD, List.getElem?_replicate]; split <;> rfl
  rw [this]; omega
theorem Fine.ph1 {T n : Nat} (alive : List Bool) (sh : Int) (prev : List Int) : ∀ k : Nat, Fine T n k (AsgnM.ph1 alive sh prev (AsgnM.start T n) k)
  | 0 => Fine.start T n
  | k + 1 => by
    rw [ph1_succ]; unfold step1
    have h := Fine.ph1 (T := T) (n := n) alive sh prev k
    split
    · exact h.give _ _
    · exact h.mono (by omega)
theorem Fine.ph2 {T n : Nat} {m : Int} (alive : List Bool) {s : List Int × List Int} (hs : Fine T n m s) : ∀ k : Nat, Fine T n (m + k) (AsgnM.ph2 alive s k)
  | 0 => by simpa [AsgnM.ph2] using hs
  | k + 1 => by
    rw [ph2_succ]; unfold step2
    have h := Fine.ph2 alive hs k
    split
    · exact (h.give _ _).mono (by omega)
    · exact h.mono (by omega)
theorem clampT_le (t : Int) : clampT t ≤ 1000 := by unfold clampT; omega
theorem f_length (t : Int) (alive : List Bool) (prev : List Int) : (f t alive prev).length = clampT t := by
  unfold f; split
  · simp
  · exact (Fine.ph2 alive (Fine.ph1 (T := clampT t) (n := alive.length) alive _ prev _) _).1
end Go.Proofs.Ytjngkndiokfibaa.AsgnM

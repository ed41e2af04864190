import Derived.Test.YtanhibhcmfmeeaaInsKv
import Derived.BigQuiet
import Derived.Deep.QuietTactic
import Derived.Deep.RegionWith
import Derived.OwnWalk
import Derived.Outline
/- A row of pairs by rising keys; where a key is: find. -/
namespace Go.Proofs.Ytanhibhcmfmeeaa.Kv
open Go.RowKit Go.Proofs.YtanhibhcmfmeeaaW.PrintWords Go.Proofs.Ytanhibhcmfmeeaa.Cut Go.Proofs.Ytanhibhcmfmeeaa.Fr Go.Proofs.Ytanhibhcmfmeeaa.SlK
abbrev P2 := Int × Int
abbrev L2 := List P2
def enc2 (p : P2) : List Value := [.int .i64 p.1, .int .i64 p.2]
theorem enc2_len (l : L2) : (l.flatMap enc2).length = l.length * 2 := by
  induction l with
  | nil => rfl
  | cons x r ih => rw [List.flatMap_cons, List.length_append, ih]; simp [enc2]; omega
theorem enc2_get : ∀ (l : L2) (i : Nat) (p : P2), l[i]? = some p → (l.flatMap enc2)[i * 2]? = some (.int .i64 p.1) ∧ (l.flatMap enc2)[i * 2 + 1]? = some (.int .i64 p.2)
  | [], i, p, h => by simp at h
  | x :: r, 0, p, h => by
    obtain rfl : x = p := by simpa using h
    exact ⟨rfl, rfl⟩
  | x :: r, i + 1, p, h => by
    have h' := enc2_get r i p (by simpa using h)
    rw [List.flatMap_cons]
    constructor
    · rw [List.getElem?_append_right (by simp [enc2]; omega)]
      have : (i + 1) * 2 - (enc2 x).length = i * 2 := by simp [enc2]; omega
      rw [this]; exact h'.1
    · rw [List.getElem?_append_right (by simp [enc2]; omega)]
      have : (i + 1) * 2 + 1 - (enc2 x).length = i * 2 + 1 := by simp [enc2]; omega
      rw [this]; exact h'.2
theorem enc2_one (l : L2) : ∀ u ∈ l.flatMap enc2, u.oneCell' = true := by
  intro u hu
  obtain ⟨x, _, hx⟩ := List.mem_flatMap.1 hu
  simp [enc2] at hx
  rcases hx with rfl | rfl <;> rfl
theorem enc2_take (l : L2) (i : Nat) : (l.flatMap enc2).take (i * 2) = (l.take i).flatMap enc2 := by
  induction l generalizing i with
  | nil => simp
  | cons x r ih =>
    cases i with
    | zero => simp
    | succ i =>
      rw [List.take_succ_cons, List.flatMap_cons, List.flatMap_cons, ← ih i]
      have : (i + 1) * 2 = (enc2 x).length + i * 2 := by simp [enc2]; omega
      rw [this, List.take_length_add_append]
theorem enc2_drop (l : L2) (i : Nat) : (l.flatMap enc2).drop (i * 2) = (l.drop i).flatMap enc2 := by
  induction l generalizing i with
  | nil => simp
  | cons x r ih =>
    cases i with
    | zero => simp
    | succ i =>
      rw [List.drop_succ_cons, List.flatMap_cons, ← ih i]
      have : (i + 1) * 2 = (enc2 x).length + i * 2 := by simp [enc2]; omega
      rw [this, List.drop_length_add_append]
/-! plain -/
def Sorted (l : L2) : Prop := l.Pairwise fun a b => a.1 < b.1
def idx (key : Int) (l : L2) : Nat := (l.takeWhile fun p => decide (p.1 < key)).length
def look (l : L2) (key : Int) : Option Int := (l.find? fun p => p.1 == key).map (·.2)
theorem idx_le (key : Int) (l : L2) : idx key l ≤ l.length := by
  unfold idx
  have := List.takeWhile_prefix (l := l) (fun p : P2 => decide (p.1 < key))
  exact this.length_le
/-- The place is told by what stands on its sides. -/
theorem idx_uniq {key : Int} : ∀ {l : L2} {i : Nat}, i ≤ l.length → (∀ j p, j < i → l[j]? = some p → p.1 < key) → (∀ p, l[i]? = some p → key ≤ p.1) → idx key l = i
  | [], i, hi, _, _ => by simp at hi; subst hi; rfl
  | x :: r, 0, _, _, h2 => by
    have := h2 x rfl
    unfold idx
    rw [List.takeWhile_cons_of_neg (by simp; omega)]
    rfl
  | x :: r, i + 1, hi, h1, h2 => by
    have h0 := h1 0 x (by omega) rfl
    have ih := idx_uniq (key := key) (l := r) (i := i) (by simpa using hi) (fun j p hj hp => h1 (j + 1) p (by omega) (by simpa using hp)) (fun p hp => h2 p (by simpa using hp))
    unfold idx at ih ⊢
    rw [List.takeWhile_cons_of_pos (by simpa using h0), List.length_cons, ih]
theorem look_idx {key : Int} : ∀ {l : L2}, Sorted l → look l key = (l[idx key l]?).bind fun p => if p.1 = key then some p.2 else none
  | [], _ => rfl
  | x :: r, hs => by
    obtain ⟨h1, h2⟩ := List.pairwise_cons.1 hs
    have ih := look_idx (key := key) h2
    unfold look idx at ih ⊢
    by_cases hx : x.1 < key
    · rw [List.takeWhile_cons_of_pos (by simpa using hx), List.length_cons, List.getElem?_cons_succ, List.find?_cons_of_neg (by simp; omega)]
      exact ih
    · rw [List.takeWhile_cons_of_neg (by simpa using hx), List.length_nil, List.getElem?_cons_zero, Option.bind_some]
      by_cases e : x.1 = key
      · rw [List.find?_cons_of_pos (by simpa using e), if_pos e]; rfl
      · rw [if_neg e, List.find?_cons_of_neg (by simpa using e)]
        have : r.find? (fun p => p.1 == key) = none := List.find?_eq_none.2 fun y hy => by
          have := h1 y hy
          simp; omega
        rw [this]; rfl
def cmpI (a b : Int) : Int := if a < b then -1 else if b < a then 1 else 0
set_option maxHeartbeats 1000000 in
theorem clo_calls (k v key : Int) (w : World) : Calls Try.prog 61 #[.agg #[.int .i64 k, .int .i64 v], .int .i64 key] w fun e w' => e = .returned (.int .i64 (cmpI k key)) ∧ Below w.heap.size w w' := by
  unfold cmpI
  rcases Int.lt_trichotomy k key with h | h | h
  · rw [if_pos h]
    go_enter Try.func61, Try.ntmps61
    go_wp2
    go_ret
    exact ⟨rfl, below_alloc (Below.refl _ _) _⟩
  · subst h
    rw [if_neg (Int.lt_irrefl k), if_neg (Int.lt_irrefl k)]
    go_enter Try.func61, Try.ntmps61
    go_wp2
    go_ret
    exact ⟨rfl, below_alloc (Below.refl _ _) _⟩
  · have h1 : ¬ k < key := by omega
    rw [if_neg h1, if_pos h]
    go_enter Try.func61, Try.ntmps61
    go_wp2
    go_ret
    exact ⟨rfl, below_alloc (Below.refl _ _) _⟩
end Go.Proofs.Ytanhibhcmfmeeaa.Kv

import Derived.Test.YteihfipojnfnfaaOpen
import Derived.Test.YteihfipojnfnfaaRows
/- What the second form's bound gives: a slice is no longer than the bulk of what it reads as. -/
namespace Go.Proofs.Yteihfipojnfnfaa.Bulk
open Go.RowKit Go.ChangeShapes Go.WideShapes Go.Deep Go.Proofs.YteihfipojnfnfaaW.PrintWords Go.Proofs.Yteihfipojnfnfaa.Open
theorem one_le {H : Type} (d : DataW H) : 1 ≤ Rows.uptoBulk d := by
  cases d with
  | lit l => cases l <;> simp [Rows.uptoBulk]
  | nil => simp [Rows.uptoBulk]
  | ptr d => simp [Rows.uptoBulk]
  | slice elems spare => simp [Rows.uptoBulk]
  | agg parts => simp [Rows.uptoBulk]
  | iface t d => simp [Rows.uptoBulk]
  | map entries => simp [Rows.uptoBulk]
  | held h => simp [Rows.uptoBulk]
theorem length_le {H : Type} : ∀ l : List (DataW H), l.length ≤ Rows.uptoBulkAll l
  | [] => by simp [Rows.uptoBulkAll]
  | x :: r => by have := one_le x; have := length_le r; simp only [Rows.uptoBulkAll, List.length_cons]; omega
theorem part_le {H : Type} {d : DataW H} {l : List (DataW H)} (h : d ∈ l) : Rows.uptoBulk d ≤ Rows.uptoBulkAll l := by
  induction l with
  | nil => cases h
  | cons x r ih =>
    simp only [Rows.uptoBulkAll]
    cases List.mem_cons.1 h with
    | inl e => subst e; omega
    | inr e => have := ih e; omega
theorem slice_le {H : Type} (elems spare : List (DataW H)) : elems.length + 1 ≤ Rows.uptoBulk (.slice elems spare) := by
  have h1 := length_le elems
  simp only [Rows.uptoBulk]
  omega
theorem bound {H : Type} {l : List (DataW H)} (hk : Rows.uptoSmall H l = true) : Rows.uptoBulkAll l ≤ 1048576 := of_decide_eq_true hk
theorem len_le {P : Program} {t e : TypeId} (ht : P.underlying t = some (.slice e)) {H : Type} {enc : TypeId × Value → H} {w : World} {base : Nat} {spare : Nat → Bool} {held : Bool} {A : Option Addr} {n c : Nat} {d : DataW H} {p : List MemPlace}
    (h : DataW.Trod enc P w base spare held t (.slice A n c) d p) : n ≤ Rows.uptoBulk d := by
  obtain ⟨fuel, hf⟩ := h
  rcases open_slice ht hf with ⟨hc, _⟩ | ⟨a, len, cap, m, k, D, Pl, hc, _, _, _, _, hx, _⟩
  · have hc' : [Value.slice A n c] = [.slice none 0 0] := hc
    injection hc' with h1 _
    injection h1 with _ h2 _
    omega
  · have hc' : [Value.slice A n c] = [.slice (some a) len cap] := hc
    injection hc' with h1 _
    injection h1 with _ hn _
    injection hx with hx _
    subst hx
    have := slice_le ((List.range len).map D) ((List.range (m - len)).map fun j => D (len + j))
    rw [List.length_map, List.length_range] at this
    omega
end Go.Proofs.Yteihfipojnfnfaa.Bulk

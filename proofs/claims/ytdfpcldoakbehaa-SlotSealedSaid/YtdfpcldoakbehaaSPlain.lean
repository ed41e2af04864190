import Derived.Test.YtdfpcldoakbehaaCrcLaws
/- A node by definition: what payloads make of its epoch and its cells. -/
namespace Go.Proofs.Ytdfpcldoakbehaa.Slot
open Go.Proofs.Ytdfpcldoakbehaa.Pack Go.Proofs.Ytdfpcldoakbehaa.Crc
abbrev B3 := Int × Int × List Int
def look (m : List B3) (a : Int) : Option B3 := m.find? fun c => decide (c.1 = a)
def putC (c : B3) (m : List B3) : List B3 := c :: m.filter fun x => decide (x.1 ≠ c.1)
/-- Bytes that are read: what they are, the error, how many bytes they took. -/
def bytesR (l : List Int) : List Int × Int × Nat :=
  if (uintR l).2.1 ≠ 0 then ([], (uintR l).2.1, 0)
  else if ((l.length - (uintR l).2.2 : Nat) : Int) < (uintR l).1 then ([], 4, 0)
  else ((l.drop (uintR l).2.2).take (uintR l).1.toNat, 0, (uintR l).2.2 + (uintR l).1.toNat)
/-- What a payload's parts are: the kind, the epoch, the rest. -/
structure Hd where
  what : Int
  ep : Int
  rest : List Int
def headR (b : List Int) : Option Hd :=
  if (uintR b).2.1 ≠ 0 ∨ (uintR (b.drop (uintR b).2.2)).2.1 ≠ 0 ∨ 1048576 < (uintR (b.drop (uintR b).2.2)).1 then none
  else some ⟨(uintR b).1, (uintR (b.drop (uintR b).2.2)).1, (b.drop (uintR b).2.2).drop (uintR (b.drop (uintR b).2.2)).2.2⟩
def cellR (l : List Int) : Option (Int × List Int) :=
  if (uintR l).2.1 ≠ 0 ∨ (bytesR (l.drop (uintR l).2.2)).2.1 ≠ 0 ∨ (l.drop (uintR l).2.2).drop (bytesR (l.drop (uintR l).2.2)).2.2 ≠ [] ∨ 4096 ≤ (uintR l).1 ∨ 2048 < (bytesR (l.drop (uintR l).2.2)).1.length then none
  else some ((uintR l).1, (bytesR (l.drop (uintR l).2.2)).1)
def redoF (s : Int × List B3) (b : List Int) : Int × List B3 :=
  match headR b with
  | none => s
  | some h =>
    if h.what = 2 then (if h.rest = [] ∧ s.1 < h.ep then (h.ep, s.2) else s)
    else if h.what = 1 then
      match cellR h.rest with
      | none => s
      | some c => if h.ep < s.1 then s else match look s.2 c.1 with
        | none => (s.1, putC (c.1, h.ep, c.2) s.2)
        | some d => if d.2.1 < h.ep then (s.1, putC (c.1, h.ep, c.2) s.2) else s
    else s
theorem bytesR_spec (l : List Int) : (bytesR l).2.2 ≤ l.length ∧ ((bytesR l).2.1 = 0 ∨ (bytesR l).2.1 = 4 ∨ (bytesR l).2.1 = 5) := by
  obtain ⟨h1, h2, h3⟩ := uintR_spec l
  unfold bytesR
  split
  · exact ⟨Nat.zero_le _, h3⟩
  · split
    · exact ⟨Nat.zero_le _, .inr (.inl rfl)⟩
    · refine ⟨?_, .inl rfl⟩
      simp only
      omega
theorem look_mem {m : List B3} {a : Int} {c : B3} (h : look m a = some c) : c ∈ m ∧ c.1 = a := by
  have h1 := List.mem_of_find?_eq_some h
  have h2 := List.find?_some h
  exact ⟨h1, of_decide_eq_true h2⟩
theorem look_put (c : B3) (m : List B3) (a : Int) : look (putC c m) a = if c.1 = a then some c else look m a := by
  unfold look putC
  rw [List.find?_cons]
  by_cases h : c.1 = a
  · simp [h]
  · rw [if_neg h, decide_eq_false h]
    simp only
    rw [List.find?_filter]
    congr 1
    funext x
    by_cases hx : x.1 = a
    · have h' : ¬ a = c.1 := fun e => h e.symm
      simp [hx, h']
    · simp [hx]
/-- Each slot once. -/
def Once (m : List B3) : Prop := m.Pairwise fun x y => x.1 ≠ y.1
theorem Once.put {m : List B3} (h : Once m) (c : B3) : Once (putC c m) := by
  unfold Once putC
  refine List.pairwise_cons.2 ⟨fun x hx => ?_, h.filter _⟩
  have := (List.mem_filter.1 hx).2
  exact fun e => (of_decide_eq_true this) e.symm
theorem mem_put {c x : B3} {m : List B3} (h : x ∈ putC c m) : x = c ∨ x ∈ m := by
  unfold putC at h
  rcases List.mem_cons.1 h with h | h
  · exact .inl h
  · exact .inr (List.mem_filter.1 h).1
theorem put_len {m : List B3} (h : Once m) (c : B3) : (putC c m).length = if (look m c.1).isSome then m.length else m.length + 1 := by
  unfold putC
  rw [List.length_cons]
  induction m with
  | nil => rfl
  | cons x r ih =>
    obtain ⟨h1, h2⟩ := List.pairwise_cons.1 h
    have ih := ih h2
    unfold look at ih ⊢
    rw [List.find?_cons, List.filter_cons]
    by_cases e : x.1 = c.1
    · have hall : r.filter (fun y => decide (y.1 ≠ c.1)) = r := List.filter_eq_self.2 fun y hy => decide_eq_true fun e' => h1 y hy (e.trans e'.symm)
      rw [decide_eq_true e, if_neg (by simp [e]), hall]
      rfl
    · simp only [e, decide_false, ne_eq, not_false_eq_true, decide_true, if_true, List.length_cons]
      simp only [ne_eq] at ih
      split at ih <;> rename_i hh
      · rw [if_pos hh]; omega
      · rw [if_neg hh]; omega
theorem filter_ne_len (a : Int) : ∀ (l : List Int), l.Pairwise (· ≠ ·) → l.length ≤ (l.filter fun x => decide (x ≠ a)).length + 1
  | [], _ => by simp
  | x :: r, h => by
    obtain ⟨h1, h2⟩ := List.pairwise_cons.1 h
    have ih := filter_ne_len a r h2
    rw [List.filter_cons, List.length_cons]
    by_cases e : x = a
    · subst e
      have hall : r.filter (fun y => decide (y ≠ x)) = r := List.filter_eq_self.2 fun y hy => decide_eq_true fun e' => h1 y hy e'.symm
      rw [hall]; split <;> simp
    · rw [if_pos (decide_eq_true e), List.length_cons]; omega
theorem nodup_le : ∀ (B : Nat) (l : List Int), l.Pairwise (· ≠ ·) → (∀ x ∈ l, 0 ≤ x ∧ x < B) → l.length ≤ B
  | 0, l, _, h => by
    cases l with
    | nil => simp
    | cons x r => have := h x (by simp); omega
  | B + 1, l, hp, h => by
    have h1 := filter_ne_len (B : Int) l hp
    have h2 := nodup_le B (l.filter fun x => decide (x ≠ (B : Int))) (hp.filter _) (fun x hx => by
      obtain ⟨q1, q2⟩ := List.mem_filter.1 hx
      have := h x q1
      have := of_decide_eq_true q2
      omega)
    omega
end Go.Proofs.Ytdfpcldoakbehaa.Slot

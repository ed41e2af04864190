import Derived.Test.YtcjhllpbbbjaiaaWinKey
/- A store as a sorted list of places and values; the datum of its map. -/
namespace Go.Proofs.Ytcjhllpbbbjaiaa.Win
open Go.Maps (Keyed)
abbrev P2 := Int × Int
abbrev St := List (P2 × Int)
def ltW (a b : P2) : Prop := a.1 < b.1 ∨ a.1 = b.1 ∧ a.2 < b.2
instance (a b : P2) : Decidable (ltW a b) := by unfold ltW; infer_instance
theorem ltW_irr (a : P2) : ¬ ltW a a := by unfold ltW; omega
theorem ltW_trans {a b c : P2} (h : ltW a b) (g : ltW b c) : ltW a c := by unfold ltW at *; omega
theorem ltW_total {a b : P2} (h : a ≠ b) : ltW a b ∨ ltW b a := by
  obtain ⟨a1, a2⟩ := a
  obtain ⟨b1, b2⟩ := b
  have h' : ¬ (a1 = b1 ∧ a2 = b2) := fun ⟨x, y⟩ => h (by rw [x, y])
  unfold ltW
  simp only
  omega
def Sorted (m : St) : Prop := m.Pairwise fun a b => ltW a.1 b.1
def look : St → P2 → Option Int
  | [], _ => none
  | x :: r, p => if x.1 = p then some x.2 else look r p
def put (p : P2) (v : Int) : St → St
  | [] => [(p, v)]
  | x :: r => if ltW p x.1 then (p, v) :: x :: r else if x.1 = p then (p, v) :: r else x :: put p v r
def del (p : P2) (m : St) : St := m.filter fun x => decide (x.1 ≠ p)
theorem look_mem : ∀ {m : St} {p : P2} {v : Int}, look m p = some v → (p, v) ∈ m
  | x :: r, p, v, h => by
    rw [look] at h
    by_cases e : x.1 = p
    · rw [if_pos e] at h
      obtain rfl := Option.some.inj h
      subst e; exact List.mem_cons_self
    · rw [if_neg e] at h; exact List.mem_cons_of_mem _ (look_mem h)
theorem look_none : ∀ {m : St} {p : P2}, look m p = none ↔ ∀ x ∈ m, x.1 ≠ p
  | [], p => by simp [look]
  | x :: r, p => by
    rw [look]
    by_cases e : x.1 = p
    · rw [if_pos e]
      exact ⟨fun h => (by cases h), fun h => absurd e (h x List.mem_cons_self)⟩
    · rw [if_neg e, look_none]
      exact ⟨fun h y hy => (List.mem_cons.1 hy).elim (fun e' => e' ▸ e) (h y), fun h y hy => h y (List.mem_cons_of_mem _ hy)⟩
theorem mem_put {p : P2} {v : Int} : ∀ {m : St} {x : P2 × Int}, x ∈ put p v m → x = (p, v) ∨ x ∈ m
  | [], x, h => by simp [put] at h; exact .inl h
  | y :: r, x, h => by
    rw [put] at h
    split at h
    · rcases List.mem_cons.1 h with h | h
      · exact .inl h
      · exact .inr h
    · split at h
      · rcases List.mem_cons.1 h with h | h
        · exact .inl h
        · exact .inr (List.mem_cons_of_mem _ h)
      · rcases List.mem_cons.1 h with h | h
        · exact .inr (h ▸ List.mem_cons_self)
        · exact (mem_put h).imp id (List.mem_cons_of_mem _)
theorem sorted_put (p : P2) (v : Int) : ∀ {m : St}, Sorted m → Sorted (put p v m)
  | [], _ => by simp [put, Sorted]
  | y :: r, h => by
    obtain ⟨h1, h2⟩ := List.pairwise_cons.1 h
    rw [put]
    split
    · rename_i hc
      refine List.pairwise_cons.2 ⟨fun x hx => ?_, h⟩
      rcases List.mem_cons.1 hx with rfl | hx
      · exact hc
      · exact ltW_trans hc (h1 x hx)
    · rename_i hc
      split
      · rename_i he
        exact List.pairwise_cons.2 ⟨fun x hx => he ▸ h1 x hx, h2⟩
      · rename_i he
        refine List.pairwise_cons.2 ⟨fun x hx => ?_, sorted_put p v h2⟩
        rcases mem_put hx with rfl | hx
        · exact (ltW_total he).resolve_right hc
        · exact h1 x hx
theorem look_put (p q : P2) (v : Int) : ∀ {m : St}, Sorted m → look (put p v m) q = if p = q then some v else look m q
  | [], _ => by simp [put, look]
  | y :: r, h => by
    obtain ⟨h1, h2⟩ := List.pairwise_cons.1 h
    rw [put]
    split
    · rw [look]
    · rename_i hc
      split
      · rename_i he
        rw [look, look]
        by_cases e : p = q
        · rw [if_pos e, if_pos e]
        · rw [if_neg e, if_neg e, if_neg (fun h' => e (he ▸ h'))]
      · rename_i he
        rw [look, look, look_put p q v h2]
        by_cases e : y.1 = q
        · rw [if_pos e, if_pos e, if_neg (fun h' => he (e.trans h'.symm))]
        · rw [if_neg e, if_neg e]
theorem sorted_del (p : P2) {m : St} (h : Sorted m) : Sorted (del p m) := h.sublist List.filter_sublist
theorem look_del (p q : P2) : ∀ (m : St), look (del p m) q = if p = q then none else look m q
  | [] => by simp [del, look]
  | y :: r => by
    have ih := look_del p q r
    unfold del at ih ⊢
    by_cases e : y.1 = p
    · rw [List.filter_cons_of_neg (by simpa using e), ih, look]
      by_cases e2 : p = q
      · rw [if_pos e2, if_pos e2]
      · rw [if_neg e2, if_neg e2, if_neg (fun h' => e2 (e ▸ h'))]
    · rw [List.filter_cons_of_pos (by simpa using e), look, ih, look]
      by_cases e2 : y.1 = q
      · rw [if_pos e2, if_pos e2, if_neg (fun h' => e (e2.trans h'.symm))]
      · rw [if_neg e2, if_neg e2]
theorem put_len (p : P2) (v : Int) : ∀ {m : St}, Sorted m → (put p v m).length = if (look m p).isSome = true then m.length else m.length + 1
  | [], _ => by simp [put, look]
  | y :: r, h => by
    obtain ⟨h1, h2⟩ := List.pairwise_cons.1 h
    rw [put]
    split
    · rename_i hc
      have hn : look (y :: r) p = none := look_none.2 fun x hx e => by
        rcases List.mem_cons.1 hx with rfl | hx
        · rw [e] at hc; exact ltW_irr _ hc
        · have := ltW_trans hc (h1 x hx)
          rw [e] at this; exact ltW_irr _ this
      rw [hn]; rfl
    · rename_i hc
      split
      · rename_i he
        rw [look, if_pos he]; rfl
      · rename_i he
        rw [look, if_neg he, List.length_cons, put_len p v h2]
        split <;> simp
end Go.Proofs.Ytcjhllpbbbjaiaa.Win

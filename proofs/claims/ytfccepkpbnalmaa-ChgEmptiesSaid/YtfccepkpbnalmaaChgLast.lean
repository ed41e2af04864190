import Derived.KernelRfl
/- The last changes of each place, sorted: in plain lists. -/
namespace Go.Proofs.Ytfccepkpbnalmaa.Chg
abbrev T5 := Int × Int × Int × Int × Bool
abbrev P3 := Int × Int × Int
def kp (c : T5) : P3 := (c.1, c.2.1, c.2.2.1)
def dl (c : T5) : Bool := c.2.2.2.2
def ltQ (a b : P3) : Prop := a.1 < b.1 ∨ a.1 = b.1 ∧ (a.2.1 < b.2.1 ∨ a.2.1 = b.2.1 ∧ a.2.2 < b.2.2)
instance (a b : P3) : Decidable (ltQ a b) := by unfold ltQ; infer_instance
theorem ltQ_irr (a : P3) : ¬ ltQ a a := by unfold ltQ; omega
theorem ltQ_trans {a b c : P3} (h : ltQ a b) (g : ltQ b c) : ltQ a c := by unfold ltQ at *; omega
theorem ltQ_total {a b : P3} (h : a ≠ b) : ltQ a b ∨ ltQ b a := by
  obtain ⟨a1, a2, a3⟩ := a
  obtain ⟨b1, b2, b3⟩ := b
  have h' : ¬ (a1 = b1 ∧ a2 = b2 ∧ a3 = b3) := fun ⟨x, y, z⟩ => h (by rw [x, y, z])
  unfold ltQ
  simp only
  omega
/-- The last change of a place. -/
def lastAt : List T5 → P3 → Option T5
  | [], _ => none
  | c :: r, p => (lastAt r p).or (if kp c = p then some c else none)
theorem lastAt_kp : ∀ {l : List T5} {p : P3} {c : T5}, lastAt l p = some c → kp c = p ∧ c ∈ l
  | c :: r, p, d, h => by
    rw [lastAt] at h
    cases hr : lastAt r p with
    | some e =>
      rw [hr] at h
      obtain rfl : e = d := by simpa using h
      exact ⟨(lastAt_kp hr).1, List.mem_cons_of_mem _ (lastAt_kp hr).2⟩
    | none =>
      rw [hr] at h
      by_cases hc : kp c = p
      · rw [if_pos hc] at h
        obtain rfl : c = d := by simpa using h
        exact ⟨hc, List.mem_cons_self⟩
      · rw [if_neg hc] at h; simp at h
theorem lastAt_append : ∀ (a b : List T5) (p : P3), lastAt (a ++ b) p = (lastAt b p).or (lastAt a p)
  | [], b, p => by simp [lastAt]
  | c :: a, b, p => by
    rw [List.cons_append, lastAt, lastAt_append a b p, lastAt]
    cases lastAt b p <;> simp
theorem lastAt_snoc (l : List T5) (c : T5) (p : P3) : lastAt (l ++ [c]) p = if kp c = p then some c else lastAt l p := by
  rw [lastAt_append]
  by_cases h : kp c = p <;> simp [lastAt, h]
theorem lastAt_none : ∀ {l : List T5} {p : P3}, lastAt l p = none ↔ ∀ c ∈ l, kp c ≠ p
  | [], p => by simp [lastAt]
  | c :: r, p => by
    have ih := lastAt_none (l := r) (p := p)
    rw [lastAt]
    constructor
    · intro h d hd
      have h1 : lastAt r p = none := by
        cases hr : lastAt r p with
        | none => rfl
        | some e => rw [hr] at h; simp at h
      rcases List.mem_cons.1 hd with rfl | hd
      · intro e; rw [h1, if_pos e] at h; simp at h
      · exact ih.1 h1 d hd
    · intro h
      rw [ih.2 fun d hd => h d (List.mem_cons_of_mem _ hd), if_neg (h c List.mem_cons_self)]; rfl
/-- Strictly rising by places. -/
def Rises (l : List T5) : Prop := l.Pairwise fun a b => ltQ (kp a) (kp b)
theorem rises_uniq : ∀ (a b : List T5), Rises a → Rises b → (∀ c, c ∈ a ↔ c ∈ b) → a = b
  | [], [], _, _, _ => rfl
  | [], c :: b, _, _, h => absurd ((h c).2 List.mem_cons_self) (by simp)
  | c :: a, [], _, _, h => absurd ((h c).1 List.mem_cons_self) (by simp)
  | c :: a, d :: b, ha, hb, h => by
    obtain ⟨a1, a2⟩ := List.pairwise_cons.1 ha
    obtain ⟨b1, b2⟩ := List.pairwise_cons.1 hb
    have e : c = d := by
      rcases List.mem_cons.1 ((h c).1 List.mem_cons_self) with e | hc
      · exact e
      · rcases List.mem_cons.1 ((h d).2 List.mem_cons_self) with e | hd
        · exact e.symm
        · exact absurd (ltQ_trans (a1 d hd) (b1 c hc)) (ltQ_irr _)
    subst e
    rw [rises_uniq a b a2 b2 fun x => ?_]
    constructor
    · intro hx
      rcases List.mem_cons.1 ((h x).1 (List.mem_cons_of_mem _ hx)) with e | h'
      · rw [e] at hx; exact absurd (a1 c hx) (ltQ_irr _)
      · exact h'
    · intro hx
      rcases List.mem_cons.1 ((h x).2 (List.mem_cons_of_mem _ hx)) with e | h'
      · rw [e] at hx; exact absurd (b1 c hx) (ltQ_irr _)
      · exact h'
def insQ (c : T5) : List T5 → List T5
  | [] => [c]
  | d :: r => if ltQ (kp c) (kp d) then c :: d :: r else d :: insQ c r
theorem mem_insQ {c x : T5} : ∀ {l : List T5}, x ∈ insQ c l ↔ x = c ∨ x ∈ l
  | [] => by simp [insQ]
  | d :: r => by
    rw [insQ]
    split
    · simp
    · rw [List.mem_cons, mem_insQ, List.mem_cons]
      constructor
      · rintro (h | h | h) <;> simp [h]
      · rintro (h | h | h) <;> simp [h]
theorem rises_insQ {c : T5} : ∀ {l : List T5}, Rises l → (∀ d ∈ l, kp d ≠ kp c) → Rises (insQ c l)
  | [], _, _ => by simp [insQ, Rises]
  | d :: r, h, hn => by
    obtain ⟨h1, h2⟩ := List.pairwise_cons.1 h
    rw [insQ]
    split
    · rename_i hc
      refine List.pairwise_cons.2 ⟨fun x hx => ?_, h⟩
      rcases List.mem_cons.1 hx with rfl | hx
      · exact hc
      · exact ltQ_trans hc (h1 x hx)
    · rename_i hc
      have hdc : ltQ (kp d) (kp c) := (ltQ_total (hn d List.mem_cons_self)).resolve_right hc
      refine List.pairwise_cons.2 ⟨fun x hx => ?_, rises_insQ h2 fun x hx => hn x (List.mem_cons_of_mem _ hx)⟩
      rcases mem_insQ.1 hx with rfl | hx
      · exact hdc
      · exact h1 x hx
def lastM : List T5 → List T5
  | [] => []
  | c :: r => if (lastAt r (kp c)).isSome = true ∨ dl c = true then lastM r else insQ c (lastM r)
theorem lastM_spec : ∀ (l : List T5), Rises (lastM l) ∧ ∀ c, c ∈ lastM l ↔ lastAt l (kp c) = some c ∧ dl c = false
  | [] => ⟨List.Pairwise.nil, by simp [lastM, lastAt]⟩
  | c :: r => by
    obtain ⟨h1, h2⟩ := lastM_spec r
    rw [lastM]
    by_cases h : (lastAt r (kp c)).isSome = true ∨ dl c = true
    · rw [if_pos h]
      refine ⟨h1, fun x => ?_⟩
      rw [h2 x, lastAt]
      cases hr : lastAt r (kp x) with
      | some e => simp
      | none =>
        by_cases hc : kp c = kp x
        · rw [if_pos hc]
          constructor
          · rintro ⟨h3, _⟩; cases h3
          · rintro ⟨h3, h4⟩
            obtain rfl : c = x := by simpa using h3
            rcases h with h | h
            · rw [hr] at h; cases h
            · rw [h] at h4; cases h4
        · rw [if_neg hc]; simp
    · rw [if_neg h]
      have hn : lastAt r (kp c) = none := by
        cases hr : lastAt r (kp c) with
        | none => rfl
        | some e => exact absurd (.inl (by rw [hr]; rfl)) h
      have hd : dl c = false := by
        cases hr : dl c with
        | false => rfl
        | true => exact absurd (.inr hr) h
      refine ⟨rises_insQ h1 fun d hd' => ?_, fun x => ?_⟩
      · intro e
        have := ((h2 d).1 hd').1
        rw [e, hn] at this; cases this
      · rw [mem_insQ, h2 x, lastAt]
        constructor
        · rintro (rfl | ⟨h3, h4⟩)
          · rw [hn, if_pos rfl]; exact ⟨rfl, hd⟩
          · rw [h3]; exact ⟨rfl, h4⟩
        · rintro ⟨h3, h4⟩
          cases hr : lastAt r (kp x) with
          | some e => rw [hr] at h3; right; exact ⟨by simpa using h3, h4⟩
          | none =>
            rw [hr] at h3
            by_cases hc : kp c = kp x
            · rw [if_pos hc] at h3; left; exact (by simpa using h3 : c = x).symm
            · rw [if_neg hc] at h3; cases h3
theorem lastM_uniq {l out : List T5} (h1 : Rises out) (h2 : ∀ c, c ∈ out ↔ lastAt l (kp c) = some c ∧ dl c = false) : out = lastM l :=
  rises_uniq _ _ h1 (lastM_spec l).1 fun c => by rw [h2, (lastM_spec l).2]
theorem rises_len_le {l : List T5} : (lastM l).length ≤ l.length := by
  have : ∀ (c : T5) (m : List T5), (insQ c m).length = m.length + 1 := by
    intro c m
    induction m with
    | nil => rfl
    | cons d r ih => rw [insQ]; split <;> simp [ih]
  induction l with
  | nil => simp [lastM]
  | cons c r ih =>
    rw [lastM]
    split
    · simp; omega
    · rw [this]; simp; omega
/-- What is told of what is sorted and has no Del: itself at each of its places. -/
theorem lastAt_rises {m : List T5} (h : Rises m) (c : T5) : lastAt m (kp c) = some c ↔ c ∈ m := by
  constructor
  · intro h'; exact (lastAt_kp h').2
  · intro hc
    induction m with
    | nil => cases hc
    | cons d r ih =>
      obtain ⟨h1, h2⟩ := List.pairwise_cons.1 h
      rw [lastAt]
      rcases List.mem_cons.1 hc with rfl | hc
      · have : lastAt r (kp c) = none := lastAt_none.2 fun x hx e => by
          have := h1 x hx; rw [e] at this; exact ltQ_irr _ this
        rw [this, if_pos rfl]; rfl
      · rw [ih h2 hc]; rfl
theorem lastM_self {m : List T5} (h : Rises m) (hd : ∀ c ∈ m, dl c = false) : lastM m = m :=
  (lastM_uniq h fun c => by rw [lastAt_rises h]; exact ⟨fun hc => ⟨hc, hd c hc⟩, fun hc => hc.1⟩).symm
theorem lastM_del {l : List T5} : ∀ c ∈ lastM l, dl c = false := fun c hc => (((lastM_spec l).2 c).1 hc).2
theorem lastM_idem (l : List T5) : lastM (lastM l) = lastM l := lastM_self (lastM_spec l).1 lastM_del
theorem lastM_lastM_append (a b : List T5) : lastM (lastM a ++ b) = lastM (a ++ b) := by
  refine lastM_uniq (lastM_spec _).1 fun c => ?_
  rw [(lastM_spec _).2, lastAt_append, lastAt_append]
  cases hb : lastAt b (kp c) with
  | some e => simp
  | none =>
    simp only [Option.none_or]
    rw [lastAt_rises (lastM_spec a).1, (lastM_spec a).2]
    exact ⟨fun h => h.1, fun h => ⟨h, h.2⟩⟩
end Go.Proofs.Ytfccepkpbnalmaa.Chg

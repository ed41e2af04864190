/- What replies tell together, in plain lists. -/
namespace Go.Proofs.Ytnnahbmhjjamcaa.Quor
abbrev P3 := Int × Int × List Int
def grp3 (l : List P3) (a : Int) : List P3 := l.filter fun z => decide (z.1 = a)
def best3 (x : P3) (l : List P3) : P3 := l.foldl (fun x y => if x.2.1 < y.2.1 then y else x) x
def bestAt (l : List P3) (a : Int) : Option P3 :=
  match grp3 l a with
  | [] => none
  | x :: r => some (best3 x r)
def insK (a : Int) : List Int → List Int
  | [] => [a]
  | b :: r => if a < b then a :: b :: r else if a = b then b :: r else b :: insK a r
theorem mem_insK {a c : Int} : ∀ {l : List Int}, c ∈ insK a l ↔ c = a ∨ c ∈ l
  | [] => by simp [insK]
  | b :: r => by
    rw [insK]
    split
    · simp
    · split
      · rename_i h
        subst h
        simp
      · simp [mem_insK (l := r)]
        constructor
        · rintro (h | h | h) <;> simp [h]
        · rintro (h | h | h) <;> simp [h]
theorem sorted_insK (a : Int) : ∀ {l : List Int}, l.Pairwise (· < ·) → (insK a l).Pairwise (· < ·)
  | [], _ => by simp [insK]
  | b :: r, h => by
    obtain ⟨h1, h2⟩ := List.pairwise_cons.1 h
    rw [insK]
    split
    · rename_i hc
      refine List.pairwise_cons.2 ⟨fun x hx => ?_, h⟩
      rcases List.mem_cons.1 hx with rfl | hx
      · exact hc
      · exact Int.lt_trans hc (h1 x hx)
    · split
      · exact h
      · refine List.pairwise_cons.2 ⟨fun x hx => ?_, sorted_insK a h2⟩
        rcases mem_insK.1 hx with rfl | hx
        · omega
        · exact h1 x hx
def keysM (l : List P3) : List Int := l.foldr (fun x ks => insK x.1 ks) []
theorem mem_keys {a : Int} : ∀ {l : List P3}, a ∈ keysM l ↔ ∃ x ∈ l, x.1 = a
  | [] => by simp [keysM]
  | y :: r => by
    have ih := mem_keys (a := a) (l := r)
    unfold keysM at ih ⊢
    rw [List.foldr_cons, mem_insK, ih]
    simp
    constructor
    · rintro (h | h)
      · exact .inl h.symm
      · exact .inr h
    · rintro (h | h)
      · exact .inl h.symm
      · exact .inr h
theorem sorted_keys : ∀ (l : List P3), (keysM l).Pairwise (· < ·)
  | [] => List.Pairwise.nil
  | y :: r => by
    have ih := sorted_keys r
    unfold keysM at ih ⊢
    exact sorted_insK _ ih
def mergeM (l : List P3) : List P3 := (keysM l).filterMap (bestAt l)
theorem best3_mem (x : P3) : ∀ (l : List P3), best3 x l ∈ x :: l
  | [] => by simp [best3]
  | y :: r => by
    unfold best3
    rw [List.foldl_cons]
    split
    · have := best3_mem y r
      unfold best3 at this
      exact List.mem_cons_of_mem _ this
    · have := best3_mem x r
      unfold best3 at this
      rcases List.mem_cons.1 this with h | h
      · rw [h]; exact List.mem_cons_self
      · exact List.mem_cons_of_mem _ (List.mem_cons_of_mem _ h)
theorem bestAt_mem {l : List P3} {a : Int} {c : P3} (h : bestAt l a = some c) : c ∈ l ∧ c.1 = a := by
  unfold bestAt at h
  split at h
  · cases h
  · rename_i x r hg
    obtain rfl := Option.some.inj h
    have h1 := best3_mem x r
    rw [← hg] at h1
    have h2 := List.mem_filter.1 h1
    exact ⟨h2.1, of_decide_eq_true h2.2⟩
theorem bestAt_some {l : List P3} {a : Int} (h : ∃ x ∈ l, x.1 = a) : ∃ c, bestAt l a = some c := by
  obtain ⟨x, hx, hxa⟩ := h
  unfold bestAt
  have : x ∈ grp3 l a := List.mem_filter.2 ⟨hx, decide_eq_true hxa⟩
  split
  · rename_i hg
    rw [hg] at this; cases this
  · exact ⟨_, rfl⟩
theorem mem_merge {l : List P3} {c : P3} : c ∈ mergeM l ↔ bestAt l c.1 = some c := by
  unfold mergeM
  rw [List.mem_filterMap]
  constructor
  · rintro ⟨a, _, h⟩
    have := (bestAt_mem h).2
    rw [this]; exact h
  · intro h
    have := bestAt_mem h
    exact ⟨c.1, mem_keys.2 ⟨c, this.1, rfl⟩, h⟩
theorem sorted_merge (l : List P3) : (mergeM l).Pairwise fun a b => a.1 < b.1 := by
  unfold mergeM
  refine (sorted_keys l).filterMap (bestAt l) ?_
  intro a a' h b hb b' hb'
  rw [(bestAt_mem hb).2, (bestAt_mem hb').2]
  exact h
theorem merge_uniq : ∀ {a b : List P3}, a.Pairwise (fun x y => x.1 < y.1) → b.Pairwise (fun x y => x.1 < y.1) → (∀ x, x ∈ a ↔ x ∈ b) → a = b
  | [], [], _, _, _ => rfl
  | [], y :: _, _, _, h => by have := (h y).2 List.mem_cons_self; cases this
  | x :: _, [], _, _, h => by have := (h x).1 List.mem_cons_self; cases this
  | x :: r, y :: s, ha, hb, h => by
    obtain ⟨a1, a2⟩ := List.pairwise_cons.1 ha
    obtain ⟨b1, b2⟩ := List.pairwise_cons.1 hb
    have e : x = y := by
      rcases List.mem_cons.1 ((h x).1 List.mem_cons_self) with e | e
      · exact e
      · rcases List.mem_cons.1 ((h y).2 List.mem_cons_self) with e' | e'
        · exact e'.symm
        · have h1 := b1 _ e
          have h2 := a1 _ e'
          omega
    subst e
    refine congrArg (x :: ·) (merge_uniq a2 b2 fun z => ⟨fun hz => ?_, fun hz => ?_⟩)
    · rcases List.mem_cons.1 ((h z).1 (List.mem_cons_of_mem _ hz)) with e | e
      · subst e; have := a1 _ hz; omega
      · exact e
    · rcases List.mem_cons.1 ((h z).2 (List.mem_cons_of_mem _ hz)) with e | e
      · subst e; have := b1 _ hz; omega
      · exact e
/-- What was collected, sorted: what is merged. -/
theorem merge_of {l out out' : List P3} (h1 : (out.map (·.1)).Nodup) (h2 : ∀ c, c ∈ out ↔ bestAt l c.1 = some c) (hp : out'.Perm out) (hs : out'.Pairwise fun a b => ¬ b.1 < a.1) : out' = mergeM l := by
  refine merge_uniq ?_ (sorted_merge l) fun c => by rw [hp.mem_iff, h2, mem_merge]
  have hn : (out'.map (·.1)).Nodup := ((hp.map _).nodup_iff).2 h1
  have hn2 : out'.Pairwise fun a b => a.1 ≠ b.1 := List.pairwise_map.1 hn
  exact (hn2.and hs).imp fun ⟨a, b⟩ => by omega
end Go.Proofs.Ytnnahbmhjjamcaa.Quor

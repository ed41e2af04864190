import Derived.Test.YtnnahbmhjjamcaaQChos
/- QuorChosen: the plain law. -/
namespace Go.Proofs.Ytnnahbmhjjamcaa.Quor
open Go.RowKit Go.Maps Go.Proofs.YtnnahbmhjjamcaaW.PrintWords Go.Proofs.Ytnnahbmhjjamcaa.Cut
/-- m replies have the cell, the others nothing. -/
def repsM (c : C3) (m r : Nat) : List (List C3) := List.replicate m [c] ++ List.replicate r []
theorem firstM_reps (c : C3) (m r : Nat) (a : Int) : firstM (repsM c m r) a = if c.1 = a then List.replicate m c else [] := by
  unfold firstM repsM
  rw [List.filterMap_append]
  have h2 : List.filterMap (fun l => findM l a) (List.replicate r ([] : List C3)) = [] := by
    induction r with
    | zero => rfl
    | succ r ih => rw [List.replicate_succ, List.filterMap_cons]; exact ih
  rw [h2, List.append_nil]
  by_cases h : c.1 = a
  · rw [if_pos h]
    induction m with
    | zero => rfl
    | succ m ih => rw [List.replicate_succ, List.filterMap_cons, show findM [c] a = some c from by simp [findM, h], ih, List.replicate_succ]
  · rw [if_neg h]
    induction m with
    | zero => rfl
    | succ m ih => rw [List.replicate_succ, List.filterMap_cons, show findM [c] a = none from by simp [findM, h], ih]
theorem sameC_self (c : C3) : sameC c c = true := by simp [sameC]
theorem manyM_rep (c : C3) (m : Nat) : manyM (List.replicate m c) c = m := by
  unfold manyM
  rw [List.filter_replicate, if_pos (sameC_self c), List.length_replicate]
theorem best3_rep (c : C3) : ∀ (m : Nat), best3 c (List.replicate m c) = c
  | 0 => rfl
  | m + 1 => by
    have ih := best3_rep c m
    unfold best3 at ih ⊢
    rw [List.replicate_succ, List.foldl_cons, if_neg (Int.lt_irrefl _)]
    exact ih
theorem chosM_rep (c : C3) (m : Nat) (n : Int) : chosM (List.replicate m c) n = if needM n ≤ m then List.replicate m c else [] := by
  unfold chosM
  rw [List.filter_replicate, manyM_rep]
  by_cases h : needM n ≤ m <;> simp [h]
theorem chosenM_reps (c : C3) (m r : Nat) (n : Int) (hn : 1 ≤ n) : chosenM (repsM c m r) c.1 n = if 2 * (m : Int) > n then some c else none := by
  unfold chosenM
  rw [firstM_reps, if_pos rfl, chosM_rep]
  have hd : needM n = n / 2 + 1 := by unfold needM; rw [if_neg (by omega)]
  rw [hd]
  by_cases h : 2 * (m : Int) > n
  · rw [if_pos (by omega), if_pos h]
    obtain ⟨q, rfl⟩ : ∃ q, m = q + 1 := ⟨m - 1, by omega⟩
    rw [List.replicate_succ]
    simp only
    rw [best3_rep]
  · rw [if_neg (by omega), if_neg h]
theorem chosenM_else (c : C3) (m r : Nat) (n a : Int) (ha : c.1 ≠ a) : chosenM (repsM c m r) a n = none := by
  unfold chosenM
  rw [firstM_reps, if_neg ha]
  rfl
theorem sorted_ext : ∀ {a b : List Int}, a.Pairwise (· < ·) → b.Pairwise (· < ·) → (∀ x, x ∈ a ↔ x ∈ b) → a = b
  | [], [], _, _, _ => rfl
  | [], y :: _, _, _, h => by have := (h y).2 List.mem_cons_self; cases this
  | x :: _, [], _, _, h => by have := (h x).1 List.mem_cons_self; cases this
  | x :: r, y :: s, ha, hb, h => by
    obtain ⟨a1, a2⟩ := List.pairwise_cons.1 ha
    obtain ⟨b1, b2⟩ := List.pairwise_cons.1 hb
    have e : x = y := by
      rcases List.mem_cons.1 ((h x).1 List.mem_cons_self) with e | e
      · exact e
      · rcases List.mem_cons.1 ((h y).2 List.mem_cons_self) with e' | e'
        · exact e'.symm
        · have h1 := b1 _ e
          have h2 := a1 _ e'
          omega
    subst e
    refine congrArg (x :: ·) (sorted_ext a2 b2 fun z => ⟨fun hz => ?_, fun hz => ?_⟩)
    · rcases List.mem_cons.1 ((h z).1 (List.mem_cons_of_mem _ hz)) with e | e
      · subst e; have := a1 _ hz; omega
      · exact e
    · rcases List.mem_cons.1 ((h z).2 (List.mem_cons_of_mem _ hz)) with e | e
      · subst e; have := b1 _ hz; omega
      · exact e
theorem insK_self (a : Int) : insK a [a] = [a] := by simp [insK]
theorem keys_rep (c : C3) : ∀ (m : Nat) (l : List C3), keysM (List.replicate m c ++ l) = if m = 0 then keysM l else insK c.1 (keysM l)
  | 0, l => rfl
  | m + 1, l => by
    have ih := keys_rep c m l
    unfold keysM at ih ⊢
    rw [List.replicate_succ, List.cons_append, List.foldr_cons, ih, if_neg (Nat.succ_ne_zero m)]
    by_cases h : m = 0
    · rw [if_pos h]
    · rw [if_neg h]
      refine sorted_ext (sorted_insK _ (sorted_insK _ (sorted_keys l))) (sorted_insK _ (sorted_keys l)) fun x => ?_
      rw [mem_insK, mem_insK]
      exact ⟨fun h => h.elim .inl id, .inr⟩
theorem filterMap_len {f : Int → Option C3} : ∀ {l : List Int}, (∀ a ∈ l, ∃ c, f a = some c) → (l.filterMap f).length = l.length
  | [], _ => rfl
  | a :: r, h => by
    obtain ⟨c, hc⟩ := h a List.mem_cons_self
    rw [List.filterMap_cons, hc]
    simp only [List.length_cons]
    rw [filterMap_len (l := r) fun b hb => h b (List.mem_cons_of_mem _ hb)]
theorem merge_keys_len (l : List C3) : (mergeM l).length = (keysM l).length := by
  unfold mergeM
  exact filterMap_len fun a ha => bestAt_some (mem_keys.1 ha)
/-- With one more reply of another slot's cell. -/
theorem merge_reps_len (c o : C3) (m r : Nat) (h : o.1 ≠ c.1) : (mergeM (repsM c m r ++ [[o]]).flatten).length = 1 + min m 1 := by
  have hf : (repsM c m r ++ [[o]]).flatten = List.replicate m c ++ [o] := by
    unfold repsM
    rw [List.flatten_append, List.flatten_append]
    have h1 : (List.replicate m [c]).flatten = List.replicate m c := by
      induction m with
      | zero => rfl
      | succ m ih => rw [List.replicate_succ, List.flatten_cons, ih, List.replicate_succ]; rfl
    have h2 : (List.replicate r ([] : List C3)).flatten = [] := by
      induction r with
      | zero => rfl
      | succ r ih => rw [List.replicate_succ, List.flatten_cons, ih]; rfl
    rw [h1, h2]
    simp
  rw [hf, merge_keys_len, keys_rep]
  have hk : keysM [o] = [o.1] := rfl
  rw [hk]
  by_cases hm : m = 0
  · rw [if_pos hm, hm]; rfl
  · rw [if_neg hm]
    have h1 : (insK c.1 [o.1]).length = 2 := by
      rw [insK]
      split
      · rfl
      · rw [if_neg (fun e => h e.symm)]; rfl
    rw [h1]; omega
end Go.Proofs.Ytnnahbmhjjamcaa.Quor

import Derived.Test.YtanhibhcmfmeeaaKvSt
import Derived.Test.YtanhibhcmfmeeaaWMore
/- A store of pairs: Put. -/
namespace Go.Proofs.Ytanhibhcmfmeeaa.Kv
open Go.RowKit Go.Proofs.YtanhibhcmfmeeaaW.PrintWords Go.Proofs.Ytanhibhcmfmeeaa.Cut Go.Proofs.Ytanhibhcmfmeeaa.Fr Go.Proofs.Ytanhibhcmfmeeaa.SlK
def putL (key val : Int) (l : L2) : L2 := if (look l key).isSome = true then l.set (idx key l) (key, val) else l.take (idx key l) ++ (key, val) :: l.drop (idx key l)
def chgV (key fr to_ val : Int) (d : Bool) : Value := .agg #[.int .i64 key, .int .i64 fr, .int .i64 to_, .int .i64 val, .bool d]
theorem enc2_set : ∀ (l : L2) (i : Nat) (p : P2) (val : Int), l[i]? = some p → (l.flatMap enc2).set (i * 2 + 1) (.int .i64 val) = (l.set i (p.1, val)).flatMap enc2
  | [], i, p, val, h => by simp at h
  | x :: r, 0, p, val, h => by
    obtain rfl : x = p := by simpa using h
    simp [enc2]
  | x :: r, i + 1, p, val, h => by
    have ih := enc2_set r i p val (by simpa using h)
    rw [List.set_cons_succ, List.flatMap_cons, List.flatMap_cons, ← ih]
    have : (i + 1) * 2 + 1 = (enc2 x).length + (i * 2 + 1) := by simp [enc2]; omega
    rw [this, List.set_append_right _ _ (by omega), Nat.add_sub_cancel_left]
theorem look_some {l : L2} {key x : Int} (hs : Sorted l) (h : look l key = some x) : l[idx key l]? = some (key, x) := by
  have h1 := look_idx (key := key) hs
  rw [h] at h1
  obtain ⟨p, hp, hq⟩ := Option.bind_eq_some_iff.1 h1.symm
  split at hq
  · rename_i e
    rw [hp]
    obtain ⟨a, b⟩ := p
    simp only at e
    subst e
    rw [← Option.some.inj hq]
  · cases hq
/-- What stands ahead of the place is lower, what stands behind it higher. -/
theorem idx_lo {key : Int} : ∀ {l : L2} {j : Nat} {p : P2}, j < idx key l → l[j]? = some p → p.1 < key
  | [], j, p, hj, _ => by simp [idx] at hj
  | x :: r, j, p, hj, hp => by
    unfold idx at hj
    by_cases hx : x.1 < key
    · rw [List.takeWhile_cons_of_pos (by simpa using hx), List.length_cons] at hj
      cases j with
      | zero =>
        obtain rfl : x = p := by simpa using hp
        exact hx
      | succ j => exact idx_lo (l := r) (j := j) (by unfold idx; omega) (by simpa using hp)
    · rw [List.takeWhile_cons_of_neg (by simpa using hx)] at hj
      simp at hj
theorem idx_hi {key : Int} : ∀ {l : L2} {p : P2}, l[idx key l]? = some p → ¬ p.1 < key
  | [], p, h => by simp [idx] at h
  | x :: r, p, h => by
    unfold idx at h
    by_cases hx : x.1 < key
    · rw [List.takeWhile_cons_of_pos (by simpa using hx), List.length_cons, List.getElem?_cons_succ] at h
      exact idx_hi h
    · rw [List.takeWhile_cons_of_neg (by simpa using hx)] at h
      obtain rfl : x = p := by simpa using h
      exact hx
theorem idx_parts (key : Int) (l : L2) (hs : Sorted l) : (∀ p ∈ l.take (idx key l), p.1 < key) ∧ (∀ p ∈ l.drop (idx key l), key ≤ p.1) := by
  constructor
  · intro p hp
    obtain ⟨j, hj⟩ := List.getElem?_of_mem hp
    rw [List.getElem?_take] at hj
    split at hj
    · rename_i h; exact idx_lo h hj
    · cases hj
  · intro p hp
    obtain ⟨j, hj⟩ := List.getElem?_of_mem hp
    rw [List.getElem?_drop] at hj
    have hl := (List.getElem?_eq_some_iff.1 hj).1
    have h0 : l[idx key l]? = some l[idx key l] := List.getElem?_eq_getElem (by omega)
    have h1 := idx_hi h0
    rcases Nat.eq_zero_or_pos j with rfl | hj0
    · rw [Nat.add_zero, h0] at hj
      obtain rfl := Option.some.inj hj
      omega
    · have := pair_at hs (i := idx key l) (j := idx key l + j) (by omega) h0 hj
      omega
theorem look_none_iff {l : L2} {key : Int} : look l key = none ↔ ∀ p ∈ l, p.1 ≠ key := by
  unfold look
  rw [Option.map_eq_none_iff, List.find?_eq_none]
  simp
theorem mem_look {l : L2} (hs : Sorted l) {k v : Int} : look l k = some v ↔ (k, v) ∈ l := by
  constructor
  · intro h
    exact List.mem_of_getElem? (look_some hs h)
  · intro h
    cases hl : look l k with
    | none => exact absurd rfl (look_none_iff.1 hl _ h)
    | some x =>
      have h1 := List.mem_of_getElem? (look_some hs hl)
      obtain ⟨i, hi⟩ := List.getElem?_of_mem h
      obtain ⟨j, hj⟩ := List.getElem?_of_mem h1
      rcases Nat.lt_trichotomy i j with e | e | e
      · have := pair_at hs e hi hj; simp at this
      · subst e; rw [hi] at hj; injection hj with hj; injection hj with _ hj; rw [hj]
      · have := pair_at hs e hj hi; simp at this
/-- What is put, written out. -/
theorem put_form (key val : Int) {l : L2} (hs : Sorted l) : ∃ r : L2, putL key val l = l.take (idx key l) ++ (key, val) :: r ∧ (∀ p ∈ r, key < p.1) ∧ (∀ p, p ∈ r ↔ p ∈ l.drop (idx key l) ∧ p.1 ≠ key) ∧ Sorted r ∧ (r.length + (if (look l key).isSome = true then 1 else 0) = (l.drop (idx key l)).length) := by
  obtain ⟨_, hhi⟩ := idx_parts key l hs
  have hsd : Sorted (l.drop (idx key l)) := List.Pairwise.drop hs
  unfold putL
  cases hl : look l key with
  | none =>
    refine ⟨l.drop (idx key l), by simp, fun p hp => ?_, fun p => ⟨fun hp => ⟨hp, ?_⟩, fun hp => hp.1⟩, hsd, by simp⟩
    · have h1 := hhi p hp
      have h2 := look_none_iff.1 hl p (List.mem_of_mem_drop hp)
      omega
    · exact look_none_iff.1 hl p (List.mem_of_mem_drop hp)
  | some x =>
    have hx := look_some hs hl
    have hi := (List.getElem?_eq_some_iff.1 hx).1
    have hd : l.drop (idx key l) = (key, x) :: l.drop (idx key l + 1) := by
      rw [List.drop_eq_getElem_cons hi, (List.getElem?_eq_some_iff.1 hx).2]
    rw [hd] at hsd
    obtain ⟨q1, q2⟩ := List.pairwise_cons.1 hsd
    refine ⟨l.drop (idx key l + 1), ?_, fun p hp => q1 p hp, fun p => ?_, q2, by rw [hd]; simp⟩
    · rw [if_pos (by rfl), List.set_eq_take_append_cons_drop, if_pos hi]
    · rw [hd, List.mem_cons]
      constructor
      · intro hp
        have := q1 p hp
        exact ⟨.inr hp, by simp only at this; omega⟩
      · rintro ⟨rfl | hp, hn⟩
        · exact absurd rfl hn
        · exact hp
theorem sorted_put (key val : Int) {l : L2} (hs : Sorted l) : Sorted (putL key val l) := by
  obtain ⟨r, h1, h2, h3, h4, _⟩ := put_form key val hs
  obtain ⟨hlo, _⟩ := idx_parts key l hs
  rw [h1]
  refine List.pairwise_append.2 ⟨List.Pairwise.take hs, List.pairwise_cons.2 ⟨fun p hp => h2 p hp, h4⟩, fun a ha b hb => ?_⟩
  have := hlo a ha
  rcases List.mem_cons.1 hb with rfl | hb
  · exact this
  · have := h2 b hb; omega
theorem mem_put (key val : Int) {l : L2} (hs : Sorted l) (p : P2) : p ∈ putL key val l ↔ p = (key, val) ∨ p.1 ≠ key ∧ p ∈ l := by
  obtain ⟨r, h1, h2, h3, _, _⟩ := put_form key val hs
  obtain ⟨hlo, _⟩ := idx_parts key l hs
  rw [h1, List.mem_append, List.mem_cons, h3]
  have hsplit : p ∈ l ↔ p ∈ l.take (idx key l) ∨ p ∈ l.drop (idx key l) := by
    rw [← List.mem_append, List.take_append_drop]
  constructor
  · rintro (h | h | h)
    · have := hlo p h
      exact .inr ⟨by omega, hsplit.2 (.inl h)⟩
    · exact .inl h
    · exact .inr ⟨h.2, hsplit.2 (.inr h.1)⟩
  · rintro (h | ⟨h, hp⟩)
    · exact .inr (.inl h)
    · rcases hsplit.1 hp with hp | hp
      · exact .inl hp
      · exact .inr (.inr ⟨hp, h⟩)
theorem len_put (key val : Int) {l : L2} (hs : Sorted l) : (putL key val l).length + (if (look l key).isSome = true then 1 else 0) = l.length + 1 := by
  obtain ⟨r, h1, _, _, _, h5⟩ := put_form key val hs
  have := idx_le key l
  rw [h1, List.length_append, List.length_cons, List.length_take]
  rw [List.length_drop] at h5
  omega
theorem look_put (key val : Int) {l : L2} (hs : Sorted l) (k : Int) : look (putL key val l) k = if k = key then some val else look l k := by
  by_cases e : k = key
  · subst e
    rw [if_pos rfl]
    exact (mem_look (sorted_put k val hs)).2 ((mem_put k val hs _).2 (.inl rfl))
  · rw [if_neg e]
    cases hl : look l k with
    | none =>
      refine look_none_iff.2 fun p hp => ?_
      rcases (mem_put key val hs p).1 hp with rfl | ⟨_, hp⟩
      · exact fun h => e h.symm
      · exact look_none_iff.1 hl p hp
    | some v => exact (mem_look (sorted_put key val hs)).2 ((mem_put key val hs _).2 (.inr ⟨e, (mem_look hs).1 hl⟩))
end Go.Proofs.Ytanhibhcmfmeeaa.Kv

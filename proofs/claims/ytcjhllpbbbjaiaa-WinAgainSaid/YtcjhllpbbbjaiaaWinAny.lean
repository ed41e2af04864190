import Derived.Test.YtcjhllpbbbjaiaaWinShown
/- Put, whatever comes; a list of deeds as it is read. -/
namespace Go.Proofs.Ytcjhllpbbbjaiaa.Win
open Go.RowKit Go.Maps Go.Proofs.YtcjhllpbbbjaiaaW.PrintWords Go.Proofs.YtcjhllpbbbjaiaaW.PrintMore Go.Proofs.Ytcjhllpbbbjaiaa.Cut
/-- What Put makes of a store; none: it refuses. -/
def putR (room size : Int) (m : St) (key time val : Int) : Option St :=
  if startF size time < 0 ∨ look m (startF size time, key) = none ∧ room ≤ m.length then none else some (put (startF size time, key) val m)
theorem startF_w64 {size time : Int} (hs : 1 ≤ size) : W64 (startF size time) := by
  have h1 := startF_le (time := time) hs
  have h2 : -1 ≤ startF size time := by
    unfold startF
    split
    · omega
    · rename_i h
      have e1 := Int.mul_ediv_add_emod time size
      have e2 : 0 ≤ size * (time / size) := Int.mul_nonneg (by omega) (Int.ediv_nonneg (by omega) (by omega))
      omega
  unfold W64
  exact WalkArith.wf_i64 (by omega)
theorem put_some {w : World} {s : Nat} {room size : Int} {b : Nat} {m m' : St} (h : Own w s room size b m) (key time val : Int) (hk : W64 key) (hv : W64 val) (hp : putR room size m key time val = some m') :
    Calls Try.prog 10 #[.pointer (some ⟨s, 0, none⟩), .int .i64 key, .int .i64 time, .int .i64 val] w fun e w' => e = .returned (.tuple #[chg size (startF size time, key) val false, .int .i64 0]) ∧ Own w' s room size b m' ∧ w.grownBy w' (some b) := by
  unfold putR at hp
  by_cases hc : startF size time < 0 ∨ look m (startF size time, key) = none ∧ room ≤ m.length
  · rw [if_pos hc] at hp; cases hp
  · rw [if_neg hc] at hp
    obtain rfl := Option.some.inj hp
    have hr := h.rng
    exact put_ok h key time val hk hv (startF_w64 hr.2.2.1) (by omega) (fun hn => by
      have : ¬ room ≤ m.length := fun h' => hc (.inr ⟨hn, h'⟩)
      omega)
theorem put_none {w : World} {s : Nat} {room size : Int} {b : Nat} {m : St} (h : Own w s room size b m) (key time val : Int) (hk : W64 key) (hp : putR room size m key time val = none) :
    Calls Try.prog 10 #[.pointer (some ⟨s, 0, none⟩), .int .i64 key, .int .i64 time, .int .i64 val] w fun e w' => ∃ x : Int, e = .returned (.tuple #[zchg, .int .i64 x]) ∧ x ≠ 0 ∧ w.grownBy w' none := by
  unfold putR at hp
  by_cases hc : startF size time < 0 ∨ look m (startF size time, key) = none ∧ room ≤ m.length
  · by_cases h1 : startF size time < 0
    · refine (put_range h key time val h1).mono ?_
      rintro e w' ⟨rfl, hg⟩
      exact ⟨2, rfl, by decide, hg⟩
    · rcases hc with hc | hc
      · exact absurd hc h1
      · refine (put_full h key time val hk (startF_w64 h.rng.2.2.1) (by omega) hc.1 hc.2).mono ?_
        rintro e w' ⟨rfl, hg⟩
        exact ⟨3, rfl, by decide, hg⟩
  · rw [if_neg hc] at hp; cases hp
/-- Put, its answer set aside. -/
theorem put_any {w : World} {s : Nat} {room size : Int} {b : Nat} {m : St} (h : Own w s room size b m) (key time val : Int) (hk : W64 key) (hv : W64 val) :
    Calls Try.prog 10 #[.pointer (some ⟨s, 0, none⟩), .int .i64 key, .int .i64 time, .int .i64 val] w fun e w' => ∃ c d, e = .returned (.tuple #[c, d]) ∧ Own w' s room size b ((putR room size m key time val).getD m) ∧ w.grownBy w' (some b) := by
  cases hp : putR room size m key time val with
  | none =>
    refine (put_none h key time val hk hp).mono ?_
    rintro e w' ⟨x, rfl, _, hg⟩
    exact ⟨_, _, rfl, h.kept hg (by simp) (by simp), hg.but _⟩
  | some m' =>
    refine (put_some h key time val hk hv hp).mono ?_
    rintro e w' ⟨rfl, hO, hg⟩
    exact ⟨_, _, rfl, hO, hg⟩
abbrev T9 := Int × Int × Int × Int × T5
abbrev K9 : Kd T9 := Kd.pair (Kd.int .i64) (Kd.pair (Kd.int .i64) (Kd.pair (Kd.int .i64) (Kd.pair (Kd.int .i64) K5)))
theorem at_C9 {w : World} {A : Option Addr} {n : Nat} {l : List T9} (h : K9.C w A n l) (i : Nat) (hi : i < n) : ∃ ad x, A = some ad ∧ l[i]? = some x ∧ w.cell? (ad.add (i * 9)) = some (.int .i64 x.1) ∧ w.cell? ⟨(ad.add (i * 9)).block, (ad.add (i * 9)).off + 1, none⟩ = some (.int .i64 x.2.1) ∧
    w.cell? ⟨(ad.add (i * 9)).block, (ad.add (i * 9)).off + 2, none⟩ = some (.int .i64 x.2.2.1) ∧ w.cell? ⟨(ad.add (i * 9)).block, (ad.add (i * 9)).off + 3, none⟩ = some (.int .i64 x.2.2.2.1) := by
  obtain ⟨hl, hsh, h⟩ := h
  obtain ⟨ad, hA, hc⟩ := h (by omega)
  have hil : i < l.length := by omega
  obtain ⟨cs, _, hk, hat⟩ := hc i (l[i]) (List.getElem?_eq_getElem hil)
  have e1 : K9.sz = 9 := rfl
  rw [e1] at hat
  obtain ⟨_, _, rfl, rfl, ⟨_, _, rfl, rfl, ⟨_, _, rfl, rfl, ⟨_, _, rfl, rfl, _⟩⟩⟩⟩ := hk
  refine ⟨ad, l[i], hA, List.getElem?_eq_getElem hil, hat 0 _ rfl, ?_, ?_, ?_⟩
  · rw [← add_field _ _ 1 (by omega)]; exact hat 1 _ rfl
  · rw [← add_field _ _ 2 (by omega)]; exact hat 2 _ rfl
  · rw [← add_field _ _ 3 (by omega)]; exact hat 3 _ rfl
/-! plain: what is there, what has ended -/
theorem ended_rest {size before : Int} : ∀ {m : St}, Sorted m → ∀ x ∈ restM size before m, endedB size before x = false
  | [], _, x, h => by simp [restM] at h
  | y :: r, hs, x, h => by
    obtain ⟨h1, h2⟩ := List.pairwise_cons.1 hs
    unfold restM at h
    by_cases hy : endedB size before y = true
    · rw [List.dropWhile_cons_of_pos hy] at h
      exact ended_rest h2 x h
    · rw [List.dropWhile_cons_of_neg hy] at h
      have hy' : ¬ y.1.1 + size ≤ before := by simpa [endedB] using hy
      rcases List.mem_cons.1 h with rfl | h
      · exact decide_eq_false hy'
      · have := h1 x h
        unfold ltW at this
        exact decide_eq_false (by omega)
theorem out_rest {size before : Int} {m : St} (hs : Sorted m) : outT size before (restM size before m) = [] := by
  unfold outT
  have h := ended_rest (size := size) (before := before) hs
  cases hm : restM size before m with
  | nil => rfl
  | cons y r =>
    rw [hm] at h
    rw [List.takeWhile_cons_of_neg (by rw [h y List.mem_cons_self]; decide)]
    rfl
theorem out_len (size before : Int) (m : St) : (outT size before m).length + (listT size (restM size before m)).length = m.length := by
  unfold outT listT restM
  rw [List.length_map, List.length_map]
  rw [← List.length_append, List.takeWhile_append_dropWhile]
theorem tw_mem {α : Type} {p : α → Bool} : ∀ {l : List α} {x : α}, x ∈ l.takeWhile p → p x = true
  | y :: r, x, h => by
    by_cases hy : p y = true
    · rw [List.takeWhile_cons_of_pos hy] at h
      rcases List.mem_cons.1 h with rfl | h
      · exact hy
      · exact tw_mem h
    · rw [List.takeWhile_cons_of_neg hy] at h
      cases h
theorem out_at {size before : Int} {m : St} {i : Nat} (h : i < (outT size before m).length) : ∃ x : P2 × Int, m[i]? = some x ∧ (outT size before m)[i]? = some (goneT size x) ∧ x.1.1 + size ≤ before := by
  unfold outT at h ⊢
  rw [List.length_map] at h
  have h0 : (m.takeWhile (endedB size before))[i]? = some (m.takeWhile (endedB size before))[i] := List.getElem?_eq_getElem h
  refine ⟨(m.takeWhile (endedB size before))[i], ?_, by rw [List.getElem?_map, h0]; rfl, ?_⟩
  · have h3 := List.takeWhile_append_dropWhile (p := endedB size before) (l := m)
    conv => lhs; rw [← h3]
    rw [List.getElem?_append_left h, h0]
  · have := tw_mem (List.getElem_mem h)
    simpa [endedB] using this
theorem rest_at {size before : Int} {m : St} (hs : Sorted m) {i : Nat} {x : P2 × Int} (h : m[i]? = some x) (hi : (outT size before m).length ≤ i) : (restM size before m)[i - (outT size before m).length]? = some x ∧ ¬ x.1.1 + size ≤ before := by
  have e : (outT size before m).length = (m.takeWhile (endedB size before)).length := List.length_map _
  rw [e] at hi ⊢
  have h2 : (restM size before m)[i - (m.takeWhile (endedB size before)).length]? = some x := by
    have h3 := List.takeWhile_append_dropWhile (p := endedB size before) (l := m)
    rw [← h3, List.getElem?_append_right hi] at h
    exact h
  refine ⟨h2, ?_⟩
  have := ended_rest hs x (List.mem_of_getElem? h2)
  simpa [endedB] using this
end Go.Proofs.Ytcjhllpbbbjaiaa.Win

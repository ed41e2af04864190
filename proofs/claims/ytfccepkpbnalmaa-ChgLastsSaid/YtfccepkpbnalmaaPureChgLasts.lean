import Derived.Test.YtfccepkpbnalmaaPChgLastsx6
import Derived.Test.YtfccepkpbnalmaaPChgLastsx0
import Derived.Test.YtfccepkpbnalmaaPChgLastsx1
import Derived.Test.YtfccepkpbnalmaaPChgLastsx2
import Derived.Test.YtfccepkpbnalmaaPChgLastsx3
import Derived.Test.YtfccepkpbnalmaaPChgLastsx4
import Derived.Test.YtfccepkpbnalmaaPChgLastsx5
/- The plain law of ChgLasts. -/
namespace Go.Proofs.Ytfccepkpbnalmaa.PChgLasts
open Go.RowKit Go.Proofs.YtfccepkpbnalmaaW.PrintWords Go.Proofs.YtfccepkpbnalmaaW.PrintLast
theorem wrap_small {i : Int} (h0 : 0 ≤ i) (h : i ≤ 9223372036854775807) : wrap64 i = i := by unfold wrap64; omega
theorem changes_same (l : List S30) (hl : l.length ≤ 9223372036854775800) (d : Nat) : ∀ (k : Nat) (i : Int), 0 ≤ i → (l.length : Int) - i = d → d < k → tidemillref12_Changes.l0 k l l i = some true := by
  induction d with
  | zero =>
    intro k i h0 hd hk
    obtain ⟨k, rfl⟩ : ∃ m, k = m + 1 := ⟨k - 1, by omega⟩
    simp only [tidemillref12_Changes.l0]; rw [if_neg (by omega)]
  | succ d ih =>
    intro k i h0 hd hk
    obtain ⟨k, rfl⟩ : ∃ m, k = m + 1 := ⟨k - 1, by omega⟩
    simp only [tidemillref12_Changes.l0]
    rw [if_pos (by omega), if_pos h0, if_pos (by omega), if_neg (by simp), wrap_small (by omega) (by omega)]
    exact ih k (i + 1) (by omega) (by omega) (by omega)
theorem changes_f (l : List S30) (hl : l.length ≤ 9223372036854775800) (k : Nat) (hk : l.length < k) : tidemillref12_Changes.f k l l = some true := by
  unfold tidemillref12_Changes.f
  rw [if_pos rfl]
  exact changes_same l hl l.length k 0 (by omega) (by omega) hk
theorem shown4 {k : Nat} (h : 4 ≤ k) : tidemilllaw15_shown.f k = some true := at_rounds tidemilllaw15_shown.mono (k := 4) h (by decide +kernel)
def lastS (l : List S30) : List S30 := (Chg.lastM (l.map tup30)).map unt30
theorem tu_id (l : List Chg.T5) : (l.map unt30).map tup30 = l := by
  rw [List.map_map]; exact (List.map_congr_left fun x _ => rfl).trans (List.map_id _)
theorem ut_id (l : List S30) : (l.map tup30).map unt30 = l := by
  rw [List.map_map]; exact (List.map_congr_left fun x _ => rfl).trans (List.map_id _)
theorem map_inj {a b : List S30} (h : a.map tup30 = b.map tup30) : a = b := by rw [← ut_id a, h, ut_id]
theorem lastS_tup (l : List S30) : (lastS l).map tup30 = Chg.lastM (l.map tup30) := tu_id _
def wfS (l : List S30) : Prop := ∀ x ∈ l, Chg.wfB (tup30 x) = true
theorem lastS_mem {l : List S30} {x : S30} (h : x ∈ lastS l) : x ∈ l := by
  obtain ⟨y, hy, rfl⟩ := List.mem_map.1 h
  have h2 := (Chg.lastAt_kp (((Chg.lastM_spec _).2 y).1 hy).1).2
  obtain ⟨z, hz, rfl⟩ := List.mem_map.1 h2
  exact hz
theorem lastS_wf {l : List S30} (h : wfS l) : wfS (lastS l) := fun x hx => h x (lastS_mem hx)
theorem lastS_len (l : List S30) : (lastS l).length ≤ l.length := by
  unfold lastS
  rw [List.length_map]
  exact Nat.le_trans Chg.rises_len_le (Nat.le_of_eq (List.length_map _))
theorem last_f (l : List S30) (hw : wfS l) (hn : l.length ≤ 1000000) : chg_Last.f l = some (lastS l) := by
  unfold chg_Last.f Chg.lastF
  have hall : (l.map tup30).all Chg.wfB = true := List.all_eq_true.2 fun x hx => by
    obtain ⟨y, hy, rfl⟩ := List.mem_map.1 hx
    exact hw y hy
  rw [if_pos ⟨hall, hn⟩]; rfl
theorem few_f (l : List S30) : tidemilllaw15_few.f l = some (l.take 300) := by
  unfold tidemilllaw15_few.f
  split
  · rw [if_pos (by omega)]
  · rw [List.take_of_length_le (by omega)]
theorem few_len (l : List S30) : (l.take 300).length ≤ 300 := by rw [List.length_take]; omega
theorem wf_take {l : List S30} (h : wfS l) (n : Nat) : wfS (l.take n) := fun x hx => h x (List.mem_of_mem_take hx)
theorem wf_drop {l : List S30} (h : wfS l) (n : Nat) : wfS (l.drop n) := fun x hx => h x (List.mem_of_mem_drop hx)
theorem wf_append {a b : List S30} (h : wfS a) (g : wfS b) : wfS (a ++ b) := fun x hx => (List.mem_append.1 hx).elim (h x) (g x)
theorem wf_of (l : List S30) (h : ∀ x ∈ l, (Lit.int .i64 x.f0).wf = true ∧ (Lit.int .i64 x.f1).wf = true ∧ (Lit.int .i64 x.f2).wf = true ∧ (Lit.int .i64 x.f3).wf = true ∧ True) : wfS l := fun x hx => by
  obtain ⟨h0, h1, h2, _⟩ := h x hx
  show ((Lit.int .i64 x.f0).wf && ((Lit.int .i64 x.f1).wf && (Lit.int .i64 x.f2).wf)) = true
  rw [h0, h1, h2]; rfl
open Chg in
theorem ahead_f (a b : S30) : tidemillref15_ahead.f a.f0 a.f1 a.f2 a.f3 a.f4 b.f0 b.f1 b.f2 b.f3 b.f4 = some (decide (ltQ (kp (tup30 a)) (kp (tup30 b)))) := by
  unfold tidemillref15_ahead.f
  have e : ltQ (kp (tup30 a)) (kp (tup30 b)) ↔ a.f0 < b.f0 ∨ a.f0 = b.f0 ∧ (a.f1 < b.f1 ∨ a.f1 = b.f1 ∧ a.f2 < b.f2) := Iff.rfl
  by_cases h0 : a.f0 = b.f0
  · rw [if_pos h0]
    by_cases h1 : a.f1 = b.f1
    · rw [if_pos h1]; congr 1; exact decide_eq_decide.2 (by rw [e]; omega)
    · rw [if_neg h1]; congr 1; exact decide_eq_decide.2 (by rw [e]; omega)
  · rw [if_neg h0]; congr 1; exact decide_eq_decide.2 (by rw [e]; omega)
open Chg in
theorem place_f (a b : S30) : tidemillref15_Place.f a.f0 a.f1 a.f2 a.f3 a.f4 b.f0 b.f1 b.f2 b.f3 b.f4 = some (decide (kp (tup30 b) = kp (tup30 a))) := by
  unfold tidemillref15_Place.f
  have e : kp (tup30 b) = kp (tup30 a) ↔ b.f0 = a.f0 ∧ b.f1 = a.f1 ∧ b.f2 = a.f2 := by
    unfold kp tup30
    simp only [Prod.mk.injEq]
  by_cases h0 : a.f0 = b.f0
  · rw [if_pos h0]
    by_cases h1 : a.f1 = b.f1
    · rw [if_pos h1]; congr 1
      by_cases h2 : a.f2 = b.f2
      · rw [decide_eq_true (by rw [e]; omega)]; exact beq_iff_eq.2 h2
      · rw [decide_eq_false (by rw [e]; omega)]; exact beq_eq_false_iff_ne.2 h2
    · rw [if_neg h1]; congr 1; exact (decide_eq_false (by rw [e]; omega)).symm
  · rw [if_neg h0]; congr 1; exact (decide_eq_false (by rw [e]; omega)).symm
def insS (c : S30) : List S30 → List S30
  | [] => [c]
  | d :: r => if Chg.ltQ (Chg.kp (tup30 c)) (Chg.kp (tup30 d)) then c :: d :: r else d :: insS c r
theorem insS_tup (c : S30) : ∀ l : List S30, (insS c l).map tup30 = Chg.insQ (tup30 c) (l.map tup30)
  | [] => rfl
  | d :: r => by
    rw [insS, List.map_cons, Chg.insQ]
    split
    · rfl
    · rw [List.map_cons, insS_tup c r]
theorem insS_len (c : S30) (l : List S30) : (insS c l).length = l.length + 1 := by
  induction l with
  | nil => rfl
  | cons d r ih => rw [insS]; split <;> simp [ih]
theorem wrap_up (j : Nat) (h : j ≤ 300) : wrap64 ((j : Int) + 1) = ((j + 1 : Nat) : Int) := by
  rw [wrap_small (by omega) (by omega)]; rfl
theorem rd_at (l : List S30) (i : Nat) (h : i < l.length) : rd_T30 l (i : Int) = l[i] := by
  unfold rd_T30
  rw [Int.toNat_natCast, List.getD_eq_getElem?_getD, List.getElem?_eq_getElem h]; rfl
theorem l2_eq (x0 x3 : List S30) (i : Nat) (hi : i < x0.length) (h3 : x3.length ≤ 300) :
    ∀ (d j k : Nat) (x7 : List S30) (x8 : Bool), x3.length - j = d → j ≤ x3.length → x7.length ≤ 2 * j + 2 →
      tidemillref15_Last.l2 (k + d + 1) x0 x3 (i : Int) x7 x8 (j : Int) = tidemillref15_Last.l0 k x0 (x7 ++ if x8 = true then x3.drop j else insS (x0[i]) (x3.drop j)) (wrap64 ((i : Int) + 1)) := by
  intro d
  induction d with
  | zero =>
    intro j k x7 x8 hd hj h7
    obtain rfl : j = x3.length := by omega
    rw [Nat.add_zero, tidemillref15_Last.l2, if_neg (by omega), List.drop_length]
    cases x8 with
    | true => rw [if_pos rfl, if_pos rfl, List.append_nil]
    | false => rw [if_neg (by simp), if_pos (by omega), if_pos (by omega), if_pos (by omega), if_neg (by simp), rd_at x0 i hi]; rfl
  | succ d ih =>
    intro j k x7 x8 hd hj h7
    have hlt : j < x3.length := by omega
    rw [show k + (d + 1) + 1 = (k + d + 1) + 1 by omega, tidemillref15_Last.l2, if_pos (by omega), List.drop_eq_getElem_cons hlt, wrap_up j (by omega), rd_at x3 j hlt, rd_at x0 i hi]
    cases x8 with
    | true =>
      rw [if_pos rfl, if_pos (by omega), if_pos (by omega)]
      have := ih (j + 1) k (x7 ++ [x3[j]]) true (by omega) (by omega) (by simp; omega)
      rw [if_pos rfl, List.append_assoc] at this
      rw [if_pos rfl]
      exact this
    | false =>
      change _ = tidemillref15_Last.l0 k x0 (x7 ++ insS (x0[i]) (x3[j] :: x3.drop (j + 1))) _
      rw [if_neg (by simp), if_pos (by omega), if_pos (by omega), if_pos (by omega), ahead_f, Option.bind_some, insS]
      by_cases h : Chg.ltQ (Chg.kp (tup30 (x0[i]))) (Chg.kp (tup30 (x3[j])))
      · rw [decide_eq_true h, if_pos rfl, if_pos (by omega), Option.bind_some, if_pos (by rw [List.length_append, List.length_singleton]; omega), if_pos h]
        have := ih (j + 1) k ((x7 ++ [x0[i]]) ++ [x3[j]]) true (by omega) (by omega) (by simp; omega)
        have e : x7 ++ [x0[i]] ++ [x3[j]] ++ x3.drop (j + 1) = x7 ++ x0[i] :: x3[j] :: x3.drop (j + 1) := by simp
        rw [if_pos rfl, e] at this
        exact this
      · rw [decide_eq_false h, if_neg (by simp), if_pos (by omega), if_neg h]
        have := ih (j + 1) k (x7 ++ [x3[j]]) false (by omega) (by omega) (by simp; omega)
        rw [if_neg (by simp), List.append_assoc] at this
        exact this
theorem l1_eq (x0 x3 : List S30) (i : Nat) (hi : i < x0.length) (h0 : x0.length ≤ 300) :
    ∀ (d j k : Nat) (x5 : Bool), x0.length - j = d → j ≤ x0.length →
      tidemillref15_Last.l1 (k + d + 1) x0 x3 (i : Int) x5 (j : Int) = tidemillref15_Last.j2 k x0 x3 (i : Int) (x5 || (Chg.lastAt ((x0.drop j).map tup30) (Chg.kp (tup30 (x0[i])))).isSome || (x0[i]).f4) := by
  intro d
  induction d with
  | zero =>
    intro j k x5 hd hj
    obtain rfl : j = x0.length := by omega
    rw [Nat.add_zero, tidemillref15_Last.l1, if_neg (by omega), List.drop_length]
    cases x5 with
    | true => rw [if_pos rfl]; rfl
    | false => rw [if_neg (by simp), if_pos (by omega), if_pos (by omega), rd_at x0 i hi]; rfl
  | succ d ih =>
    intro j k x5 hd hj
    have hlt : j < x0.length := by omega
    rw [show k + (d + 1) + 1 = (k + d + 1) + 1 by omega, tidemillref15_Last.l1, if_pos (by omega), List.drop_eq_getElem_cons hlt, wrap_up j (by omega), rd_at x0 j hlt, rd_at x0 i hi]
    have e : (Chg.lastAt ((x0[j] :: x0.drop (j + 1)).map tup30) (Chg.kp (tup30 (x0[i])))).isSome = (decide (Chg.kp (tup30 (x0[j])) = Chg.kp (tup30 (x0[i]))) || (Chg.lastAt ((x0.drop (j + 1)).map tup30) (Chg.kp (tup30 (x0[i])))).isSome) := by
      rw [List.map_cons, Chg.lastAt]
      by_cases h : Chg.kp (tup30 (x0[j])) = Chg.kp (tup30 (x0[i]))
      · rw [decide_eq_true h, if_pos h]; cases Chg.lastAt ((x0.drop (j + 1)).map tup30) (Chg.kp (tup30 (x0[i]))) <;> rfl
      · rw [decide_eq_false h, if_neg h]; cases Chg.lastAt ((x0.drop (j + 1)).map tup30) (Chg.kp (tup30 (x0[i]))) <;> rfl
    rw [e]
    cases x5 with
    | true =>
      rw [if_pos rfl, ih (j + 1) k true (by omega) (by omega)]
      simp only [Bool.true_or]
    | false =>
      rw [if_neg (by simp), if_pos (by omega), if_pos (by omega), if_pos (by omega), place_f, Option.bind_some, ih (j + 1) k _ (by omega) (by omega)]
      simp only [Bool.false_or]
def Inv (x0 out : List S30) (i : Nat) : Prop := Chg.Rises (out.map tup30) ∧ out.length ≤ i ∧ ∀ c, c ∈ out.map tup30 ↔ Chg.lastAt (x0.map tup30) (Chg.kp c) = some c ∧ Chg.dl c = false ∧ Chg.lastAt ((x0.drop i).map tup30) (Chg.kp c) = none
theorem inv_done {x0 out : List S30} (h : Inv x0 out x0.length) : out = lastS x0 := by
  apply map_inj
  rw [lastS_tup]
  refine Chg.lastM_uniq h.1 fun c => ?_
  rw [h.2.2 c, List.drop_length]
  exact ⟨fun ⟨a, b, _⟩ => ⟨a, b⟩, fun ⟨a, b⟩ => ⟨a, b, rfl⟩⟩
theorem last_split (x0 : List S30) (i : Nat) (hi : i < x0.length) (hn : Chg.lastAt ((x0.drop (i + 1)).map tup30) (Chg.kp (tup30 (x0[i]))) = none) : Chg.lastAt (x0.map tup30) (Chg.kp (tup30 (x0[i]))) = some (tup30 (x0[i])) := by
  have e : x0.map tup30 = (x0.take i).map tup30 ++ (x0[i] :: x0.drop (i + 1)).map tup30 := by
    rw [← List.drop_eq_getElem_cons hi, ← List.map_append, List.take_append_drop]
  rw [e, Chg.lastAt_append, List.map_cons, Chg.lastAt, hn, if_pos rfl]; rfl
theorem drop_at (x0 : List S30) (i : Nat) (hi : i < x0.length) (p : Chg.P3) : Chg.lastAt ((x0.drop i).map tup30) p = (Chg.lastAt ((x0.drop (i + 1)).map tup30) p).or (if Chg.kp (tup30 (x0[i])) = p then some (tup30 (x0[i])) else none) := by
  rw [List.drop_eq_getElem_cons hi, List.map_cons, Chg.lastAt]
theorem inv_skip {x0 out : List S30} {i : Nat} (hi : i < x0.length) (h : Inv x0 out i) (hs : (Chg.lastAt ((x0.drop (i + 1)).map tup30) (Chg.kp (tup30 (x0[i])))).isSome = true ∨ (x0[i]).f4 = true) : Inv x0 out (i + 1) := by
  refine ⟨h.1, by have := h.2.1; omega, fun c => ?_⟩
  rw [h.2.2 c, drop_at x0 i hi]
  constructor
  · rintro ⟨h1, h2, h3⟩
    refine ⟨h1, h2, ?_⟩
    cases hl : Chg.lastAt ((x0.drop (i + 1)).map tup30) (Chg.kp c) with
    | none => rfl
    | some e => rw [hl] at h3; cases h3
  · rintro ⟨h1, h2, h3⟩
    refine ⟨h1, h2, ?_⟩
    rw [h3, Option.none_or, if_neg]
    intro hk
    rcases hs with hs | hs
    · rw [hk, h3] at hs; cases hs
    · have := last_split x0 i hi (by rw [hk]; exact h3)
      rw [hk, h1] at this
      have := Option.some.inj this
      rw [this] at h2
      have e2 : Chg.dl (tup30 (x0[i])) = (x0[i]).f4 := rfl
      rw [e2, hs] at h2; cases h2
theorem inv_put {x0 out : List S30} {i : Nat} (hi : i < x0.length) (h : Inv x0 out i) (hn : Chg.lastAt ((x0.drop (i + 1)).map tup30) (Chg.kp (tup30 (x0[i]))) = none) (hd : (x0[i]).f4 = false) : Inv x0 (insS (x0[i]) out) (i + 1) := by
  have hne : ∀ d ∈ out.map tup30, Chg.kp d ≠ Chg.kp (tup30 (x0[i])) := fun d hdm hk => by
    have h3 := ((h.2.2 d).1 hdm).2.2
    rw [hk, drop_at x0 i hi, if_pos rfl, hn] at h3; cases h3
  refine ⟨by rw [insS_tup]; exact Chg.rises_insQ h.1 hne, by rw [insS_len]; have := h.2.1; omega, fun c => ?_⟩
  rw [insS_tup, Chg.mem_insQ, h.2.2 c, drop_at x0 i hi]
  constructor
  · rintro (rfl | ⟨h1, h2, h3⟩)
    · exact ⟨last_split x0 i hi hn, hd, hn⟩
    · refine ⟨h1, h2, ?_⟩
      cases hl : Chg.lastAt ((x0.drop (i + 1)).map tup30) (Chg.kp c) with
      | none => rfl
      | some e => rw [hl] at h3; cases h3
  · rintro ⟨h1, h2, h3⟩
    by_cases hk : Chg.kp (tup30 (x0[i])) = Chg.kp c
    · left
      have := last_split x0 i hi hn
      rw [hk, h1] at this
      exact Option.some.inj this
    · right
      refine ⟨h1, h2, ?_⟩
      rw [h3, if_neg hk]; rfl
theorem l0_ok (x0 : List S30) (h0 : x0.length ≤ 300) : ∀ (d i : Nat) (out : List S30), x0.length - i = d → i ≤ x0.length → Inv x0 out i → ∃ k, tidemillref15_Last.l0 k x0 out (i : Int) = some (lastS x0) := by
  intro d
  induction d with
  | zero =>
    intro i out hd hi h
    obtain rfl : i = x0.length := by omega
    exact ⟨1, by rw [tidemillref15_Last.l0, if_neg (by omega), inv_done h]⟩
  | succ d ih =>
    intro i out hd hi h
    have hlt : i < x0.length := by omega
    by_cases hs : (Chg.lastAt ((x0.drop (i + 1)).map tup30) (Chg.kp (tup30 (x0[i])))).isSome = true ∨ (x0[i]).f4 = true
    · obtain ⟨k, hk⟩ := ih (i + 1) out (by omega) (by omega) (inv_skip hlt h hs)
      refine ⟨(k + 1) + d + 1 + 1, ?_⟩
      have e : (false || (Chg.lastAt ((x0.drop (i + 1)).map tup30) (Chg.kp (tup30 (x0[i])))).isSome || (x0[i]).f4) = true := by
        rcases hs with hs | hs <;> rw [hs] <;> simp
      rw [tidemillref15_Last.l0, if_pos (by omega), wrap_up i (by omega), l1_eq x0 out i hlt h0 d (i + 1) (k + 1) false (by omega) (by omega), e, tidemillref15_Last.j2, if_pos rfl, wrap_up i (by omega)]
      exact hk
    · have hd4 : (x0[i]).f4 = false := by
        cases e : (x0[i]).f4 with
        | false => rfl
        | true => exact absurd (.inr e) hs
      have hn : Chg.lastAt ((x0.drop (i + 1)).map tup30) (Chg.kp (tup30 (x0[i]))) = none := by
        cases e : Chg.lastAt ((x0.drop (i + 1)).map tup30) (Chg.kp (tup30 (x0[i]))) with
        | none => rfl
        | some c => exact absurd (.inl (by rw [e]; rfl)) hs
      obtain ⟨k, hk⟩ := ih (i + 1) (insS (x0[i]) out) (by omega) (by omega) (inv_put hlt h hn hd4)
      have hol := h.2.1
      refine ⟨(k + out.length + 1 + 1) + d + 1 + 1, ?_⟩
      rw [tidemillref15_Last.l0, if_pos (by omega), wrap_up i (by omega), l1_eq x0 out i hlt h0 d (i + 1) (k + out.length + 1 + 1) false (by omega) (by omega), hn, hd4, tidemillref15_Last.j2, if_neg (by simp)]
      have := l2_eq x0 out i hlt (by omega) out.length 0 k [] false (by omega) (by omega) (by simp)
      rw [if_neg (by simp), List.drop_zero, List.nil_append, wrap_up i (by omega)] at this
      exact this.trans hk
theorem ref_last (x0 : List S30) (h0 : x0.length ≤ 300) : ∃ k, tidemillref15_Last.f k x0 = some (lastS x0) := by
  unfold tidemillref15_Last.f
  refine l0_ok x0 h0 x0.length 0 [] (by omega) (by omega) ⟨List.Pairwise.nil, by simp, fun c => ⟨fun h => by simp at h, fun ⟨h1, _, h3⟩ => ?_⟩⟩
  rw [List.drop_zero, h1] at h3; cases h3
theorem pure_ (l : List S30) (hw : wfS l) : ∃ k, tidemilllaw15_ChgLasts.f k l = some true := by
  have hwL := wf_take hw 300
  have hL := few_len l
  obtain ⟨k0, hk0⟩ := ref_last (l.take 300) hL
  refine ⟨k0 + 1000, ?_⟩
  have hk1 := at_rounds (tidemillref15_Last.mono (l.take 300)) (show k0 ≤ k0 + 1000 by omega) hk0
  have hll := lastS_len (l.take 300)
  unfold tidemilllaw15_ChgLasts.f
  rw [shown4 (by omega), Option.bind_some, few_f, Option.bind_some, if_pos rfl, last_f _ hwL (by omega), Option.bind_some, hk1, Option.bind_some, changes_f _ (by omega) _ (by omega), Option.bind_some]
theorem walk_ (A : Option Addr) (c : Nat) (l : List S30) (w : World) (hK : Kd.C k30 w A l.length l) (hc : l.length ≤ c) (hw : wfS l) :
    Calls Try.prog 3 #[.slice A l.length c] w fun e w' => e = .returned (.bool true) ∧ Below w.heap.size w w' := by
  obtain ⟨k, hk⟩ := pure_ l hw
  exact tidemilllaw15_ChgLasts.calls k A c l true w hK hc hk
end Go.Proofs.Ytfccepkpbnalmaa.PChgLasts

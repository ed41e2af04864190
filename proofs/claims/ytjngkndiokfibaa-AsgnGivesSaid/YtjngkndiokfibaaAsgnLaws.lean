import Derived.Test.YtjngkndiokfibaaAsgnM
/- What Assign's answers are, in plain Lean. -/
namespace Go.Proofs.Ytjngkndiokfibaa.AsgnM

theorem getD_set_self {α : Type} (l : List α) (i : Nat) (v z : α) (h : i < l.length) : (l.set i v).getD i z = v := by
  simp [List.getD_eq_getElem?_getD, List.getElem?_set_self h]
theorem getD_set_ne {α : Type} (l : List α) (i j : Nat) (v z : α) (h : i ≠ j) : (l.set i v).getD j z = l.getD j z := by
  simp [List.getD_eq_getElem?_getD, List.getElem?_set_ne h]
theorem getD_mem {α : Type} (l : List α) (i : Nat) (z : α) (h : i < l.length) : l.getD i z = l[i] := by
  simp [List.getD_eq_getElem?_getD, List.getElem?_eq_getElem h]

theorem count_set_free (o : List Int) (i : Nat) (v w : Int) (hi : i < o.length) (h0 : o.getD i 0 = -1) (hw : w ≠ -1) : (o.set i v).count w = o.count w + if v = w then 1 else 0 := by
  rw [List.count_set hi]
  have e : o[i] = -1 := by rw [← getD_mem o i 0 hi]; exact h0
  rw [e]
  have : ((-1 : Int) == w) = false := beq_eq_false_iff_ne.2 (Ne.symm hw)
  rw [this]
  by_cases hv : v = w <;> simp [hv]
theorem count_set_none (o : List Int) (i : Nat) (v : Int) (hi : i < o.length) (h0 : o.getD i 0 = -1) (hv : v ≠ -1) : (o.set i v).count (-1) + 1 = o.count (-1) := by
  rw [List.count_set hi]
  have e : o[i] = -1 := by rw [← getD_mem o i 0 hi]; exact h0
  have hp : 0 < o.count (-1) := List.count_pos_iff.2 (by rw [← e]; exact List.getElem_mem hi)
  rw [e]
  have : (v == (-1 : Int)) = false := beq_eq_false_iff_ne.2 hv
  simp [this]; omega
theorem sum_set : ∀ (l : List Int) (i : Nat) (d : Int), i < l.length → (l.set i (l.getD i 0 + d)).sum = l.sum + d
  | a :: l, 0, d, _ => by simp; omega
  | a :: l, i + 1, d, h => by
    have := sum_set l i d (by simpa using h)
    simp only [List.getD_cons_succ, List.set_cons_succ, List.sum_cons, this]; omega

theorem count_le_of : ∀ (a b : List Int) (v : Int), a.length = b.length → (∀ i, i < a.length → a.getD i 0 = v → b.getD i 0 = v) → a.count v ≤ b.count v
  | [], [], v, _, _ => by simp
  | x :: a, y :: b, v, hl, h => by
    have ih := count_le_of a b v (by simpa using hl) (fun i hi hv => by simpa using h (i + 1) (by simpa using hi) (by simpa using hv))
    have h0 := h 0 (by simp)
    simp only [List.getD_cons_zero] at h0
    simp only [List.count_cons, beq_iff_eq]
    by_cases e : x = v
    · rw [if_pos e, if_pos (h0 e)]; omega
    · rw [if_neg e]; omega

/-- What holds of the two rows all along. -/
structure Inv (alive : List Bool) (T : Nat) (s : List Int × List Int) : Prop where
  lo : s.1.length = T
  lh : s.2.length = alive.length
  has : ∀ w, w < alive.length → s.2.getD w 0 = (s.1.count (w : Int) : Nat)
  ok : ∀ i, i < T → s.1.getD i 0 = -1 ∨ (0 ≤ s.1.getD i 0 ∧ s.1.getD i 0 < alive.length ∧ alive.getD (s.1.getD i 0).toNat false = true)
  sum : s.2.sum + (s.1.count (-1) : Nat) = T
  dead : ∀ w, alive.getD w false = false → s.2.getD w 0 = 0
theorem Inv.start (alive : List Bool) (T : Nat) : Inv alive T (start T alive.length) := by
  refine ⟨by simp [AsgnM.start], by simp [AsgnM.start], fun w hw => ?_, fun i hi => ?_, ?_, fun w _ => ?_⟩
  · have : ((w : Int) == -1) = false := beq_eq_false_iff_ne.2 (by omega)
    have h2 : (List.replicate T (-1 : Int)).count (w : Int) = 0 := by
      rw [List.count_eq_zero]; intro hm; have := List.eq_of_mem_replicate hm; omega
    show (List.replicate alive.length (0 : Int)).getD w 0 = _
    rw [getD_mem _ _ _ (by simpa using hw)]
    simp [AsgnM.start, h2]
  · left
    show (List.replicate T (-1 : Int)).getD i 0 = _
    rw [getD_mem _ _ _ (by simpa using hi)]; simp
  · simp [AsgnM.start]
  · show (List.replicate alive.length (0 : Int)).getD w 0 = _
    simp [List.getD_eq_getElem?_getD, List.getElem?_replicate]; split <;> rfl
theorem Inv.give {alive : List Bool} {T : Nat} {s : List Int × List Int} (h : Inv alive T s) (i w : Nat) (hi : i < T) (h0 : s.1.getD i 0 = -1) (hw : w < alive.length) (ha : alive.getD w false = true) : Inv alive T (give i w s) := by
  have hil : i < s.1.length := by rw [h.lo]; exact hi
  refine ⟨by simp [AsgnM.give, h.lo], by simp [AsgnM.give, h.lh], fun v hv => ?_, fun j hj => ?_, ?_, fun v hv => ?_⟩
  · simp only [AsgnM.give]
    rw [count_set_free _ _ _ _ hil h0 (by omega)]
    by_cases e : w = v
    · subst e
      rw [getD_set_self _ _ _ _ (by rw [h.lh]; exact hw), h.has w hw]; simp
    · rw [getD_set_ne _ _ _ _ _ e, h.has v hv, if_neg (by omega)]; simp
  · simp only [AsgnM.give]
    by_cases e : i = j
    · subst e
      rw [getD_set_self _ _ _ _ hil]
      exact .inr ⟨by omega, by omega, by simpa using ha⟩
    · rw [getD_set_ne _ _ _ _ _ e]; exact h.ok j hj
  · have h1 := count_set_none s.1 i (w : Int) hil h0 (by omega)
    have h2 := sum_set s.2 w 1 (by rw [h.lh]; exact hw)
    have h3 := h.sum
    simp only [AsgnM.give]
    omega
  · simp only [AsgnM.give]
    have e : w ≠ v := by rintro rfl; rw [ha] at hv; cases hv
    rw [getD_set_ne _ _ _ _ _ e]; exact h.dead v hv
theorem ok1_some {alive : List Bool} {sh : Int} {has : List Int} {w : Int} (h : ok1 alive sh has w = true) : 0 ≤ w ∧ w < alive.length ∧ alive.getD w.toNat false = true ∧ has.getD w.toNat 0 < sh := by
  simp only [ok1, Bool.and_eq_true, decide_eq_true_eq] at h
  exact ⟨h.1, h.2.1, h.2.2.1, h.2.2.2⟩
theorem ok1_mk {alive : List Bool} {sh : Int} {has : List Int} {w : Int} (h0 : 0 ≤ w) (h1 : w < alive.length) (h2 : alive.getD w.toNat false = true) (h3 : has.getD w.toNat 0 < sh) : ok1 alive sh has w = true := by
  simp only [ok1, Bool.and_eq_true, decide_eq_true_eq]
  exact ⟨h0, h1, h2, h3⟩

/-- Phase one: nothing is said of the tasks behind; nobody has more than the share. -/
theorem ph1_inv (alive : List Bool) (sh : Int) (prev : List Int) (T : Nat) (hsh : 0 ≤ sh) : ∀ k, k ≤ T → Inv alive T (ph1 alive sh prev (start T alive.length) k) ∧ (∀ j, k ≤ j → j < T → (ph1 alive sh prev (start T alive.length) k).1.getD j 0 = -1) ∧ ∀ w, w < alive.length → (ph1 alive sh prev (start T alive.length) k).2.getD w 0 ≤ sh
  | 0, _ => by
    have h := Inv.start alive T
    refine ⟨h, fun j _ hj => ?_, fun w hw => ?_⟩
    · show (List.replicate T (-1 : Int)).getD j 0 = _
      rw [getD_mem _ _ _ (by simpa using hj)]; simp
    · show (List.replicate alive.length (0 : Int)).getD w 0 ≤ sh
      rw [getD_mem _ _ _ (by simpa using hw)]; simpa using hsh
  | k + 1, hk => by
    obtain ⟨h1, h2, h3⟩ := ph1_inv alive sh prev T hsh k (by omega)
    rw [ph1_succ]; unfold step1
    split
    · rename_i hok
      obtain ⟨g0, g1, g2, g3⟩ := ok1_some hok
      refine ⟨h1.give k _ (by omega) (h2 k (Nat.le_refl _) (by omega)) (by omega) g2, fun j hj hjT => ?_, fun w hw => ?_⟩
      · simp only [give]; rw [getD_set_ne _ _ _ _ _ (by omega)]; exact h2 j (by omega) hjT
      · simp only [give]
        by_cases e : (prev.getD k 0).toNat = w
        · subst e
          rw [getD_set_self _ _ _ _ (by rw [h1.lh]; exact hw)]; omega
        · rw [getD_set_ne _ _ _ _ _ e]; exact h3 w hw
    · exact ⟨h1, fun j hj hjT => h2 j (by omega) hjT, h3⟩

/-- Who is told has no more than any other one alive. -/
theorem best_min (alive : List Bool) (has : List Int) : ∀ k u, u < k → alive.getD u false = true → has.getD (best alive has k).toNat 0 ≤ has.getD u 0
  | k + 1, u, hu, ha => by
    rw [best_succ]
    have hr := best_range alive has k
    by_cases e : u = k
    · subst e
      unfold bstep
      split
      · simp
      · rename_i hn
        rw [ha] at hn
        simp only [Bool.true_and, Bool.or_eq_true, beq_iff_eq, decide_eq_true_eq, not_or] at hn
        omega
    · have ih := best_min alive has k u (by omega) ha
      unfold bstep
      split
      · rename_i hn
        simp only [Bool.and_eq_true, Bool.or_eq_true, beq_iff_eq, decide_eq_true_eq] at hn
        have hb : best alive has k ≠ -1 := best_some alive has k ⟨u, by omega, ha⟩
        have := hn.2.resolve_left hb
        simp only [Int.toNat_natCast]
        omega
      · exact ih

theorem sum_ge : ∀ (alive : List Bool) (has : List Int) (s : Int), has.length = alive.length → (∀ w, w < alive.length → alive.getD w false = true → s ≤ has.getD w 0) → (∀ w, alive.getD w false = false → 0 ≤ has.getD w 0) → s * (alive.count true : Nat) ≤ has.sum
  | [], [], s, _, _, _ => by simp
  | a :: alive, b :: has, s, hl, h1, h2 => by
    have ih := sum_ge alive has s (by simpa using hl) (fun w hw ha => by simpa using h1 (w + 1) (by simpa using hw) (by simpa using ha)) (fun w ha => by simpa using h2 (w + 1) (by simpa using ha))
    cases a with
    | true =>
      have := h1 0 (by simp) rfl
      simp only [List.getD_cons_zero] at this
      simp only [List.count_cons_self, List.sum_cons, Int.natCast_add, Int.mul_add]
      omega
    | false =>
      have := h2 0 rfl
      simp only [List.getD_cons_zero] at this
      simp only [List.count_cons, List.sum_cons, show (false == true) = false from rfl]
      simp only [Bool.false_eq_true, if_false, Nat.add_zero]
      omega
theorem share_enough (T L : Nat) (hL : 0 < L) : (T : Int) ≤ share T L * (L : Nat) := by
  unfold share
  have h := Nat.div_add_mod (T + L - 1) L
  have h2 := Nat.mod_lt (T + L - 1) hL
  have h3 : T ≤ (T + L - 1) / L * L := by rw [Nat.mul_comm]; omega
  exact_mod_cast h3
theorem share_nonneg (T L : Nat) : 0 ≤ share T L := Int.natCast_nonneg _

/-- Phase two: all tasks up to k have one who is alive; nobody has more than the share. -/
theorem ph2_inv (alive : List Bool) (T : Nat) (sh : Int) (hsh : (T : Int) ≤ sh * (living alive : Nat)) (hlive : living alive ≠ 0) {s : List Int × List Int} (hs : Inv alive T s) (hcap : ∀ w, w < alive.length → s.2.getD w 0 ≤ sh) :
    ∀ k, k ≤ T → Inv alive T (ph2 alive s k) ∧ (∀ j, j < k → (ph2 alive s k).1.getD j 0 ≠ -1) ∧ (∀ w, w < alive.length → (ph2 alive s k).2.getD w 0 ≤ sh) ∧ ∀ j, k ≤ j → (ph2 alive s k).1.getD j 0 = s.1.getD j 0
  | 0, _ => ⟨hs, fun j hj => by omega, hcap, fun _ _ => rfl⟩
  | k + 1, hk => by
    obtain ⟨h1, h2, h3, h4⟩ := ph2_inv alive T sh hsh hlive hs hcap k (by omega)
    rw [ph2_succ]; unfold step2
    obtain ⟨b0, b1, b2⟩ := best_ok (ph2 alive s k).2 hlive
    split
    · rename_i hf
      have hkl : k < (ph2 alive s k).1.length := by rw [h1.lo]; omega
      have hroom : (ph2 alive s k).2.getD (best alive (ph2 alive s k).2 alive.length).toNat 0 < sh := by
        refine Int.not_le.1 fun hge => ?_
        have h5 := sum_ge alive (ph2 alive s k).2 sh h1.lh (fun w hw ha => Int.le_trans hge (best_min alive _ alive.length w hw ha)) (fun w ha => by rw [h1.dead w ha]; exact Int.le_refl _)
        have h6 := h1.sum
        have h7 : 0 < (ph2 alive s k).1.count (-1) := List.count_pos_iff.2 (by rw [← hf, getD_mem _ _ _ hkl]; exact List.getElem_mem hkl)
        have h8 : sh * (alive.count true : Nat) = sh * (living alive : Nat) := rfl
        omega
      refine ⟨h1.give k _ (by omega) hf (by omega) b2, fun j hj => ?_, fun w hw => ?_, fun j hj => ?_⟩
      · simp only [give]
        by_cases e : k = j
        · subst e; rw [getD_set_self _ _ _ _ hkl]; omega
        · rw [getD_set_ne _ _ _ _ _ e]; exact h2 j (by omega)
      · simp only [give]
        by_cases e : (best alive (ph2 alive s k).2 alive.length).toNat = w
        · subst e; rw [getD_set_self _ _ _ _ (by rw [h1.lh]; exact hw)]; omega
        · rw [getD_set_ne _ _ _ _ _ e]; exact h3 w hw
      · simp only [give]
        rw [getD_set_ne _ _ _ _ _ (by omega)]; exact h4 j (by omega)
    · rename_i hf
      refine ⟨h1, fun j hj => ?_, h3, fun j hj => h4 j (by omega)⟩
      by_cases e : j = k
      · subst e; exact hf
      · exact h2 j (by omega)
/-- Where nothing is free, phase two turns nothing. -/
theorem ph2_full (alive : List Bool) (s : List Int × List Int) : ∀ k, (∀ j, j < k → s.1.getD j 0 ≠ -1) → ph2 alive s k = s
  | 0, _ => rfl
  | k + 1, h => by
    rw [ph2_succ, ph2_full alive s k (fun j hj => h j (by omega))]
    unfold step2
    rw [if_neg (h k (by omega))]

/-- What Assign tells, where somebody is alive. -/
structure Told (alive : List Bool) (T : Nat) (l : List Int) : Prop where
  len : l.length = T
  ok : ∀ i, i < T → 0 ≤ l.getD i 0 ∧ l.getD i 0 < alive.length ∧ alive.getD (l.getD i 0).toNat false = true
  cap : ∀ w, w < alive.length → ((l.count (w : Int) : Nat) : Int) ≤ share T (living alive)
theorem f_told (t : Int) (alive : List Bool) (prev : List Int) (h : living alive ≠ 0) : Told alive (clampT t) (f t alive prev) := by
  unfold f; rw [if_neg h]
  obtain ⟨h1, _, h3⟩ := ph1_inv alive (share (clampT t) (living alive)) prev (clampT t) (share_nonneg _ _) (min (clampT t) prev.length) (by omega)
  obtain ⟨g1, g2, g3, _⟩ := ph2_inv alive (clampT t) _ (share_enough (clampT t) (living alive) (Nat.pos_of_ne_zero h)) h h1 h3 (clampT t) (Nat.le_refl _)
  refine ⟨g1.lo, fun i hi => ?_, fun w hw => ?_⟩
  · exact (g1.ok i hi).resolve_left (g2 i hi)
  · rw [← g1.has w hw]; exact g3 w hw

/-! With nobody ahead: the tasks one by one. -/
def hs (alive : List Bool) : Nat → List Int
  | 0 => List.replicate alive.length 0
  | k + 1 => (hs alive k).set (best alive (hs alive k) alive.length).toNat ((hs alive k).getD (best alive (hs alive k) alive.length).toNat 0 + 1)
def asg (alive : List Bool) : Nat → List Int
  | 0 => []
  | k + 1 => asg alive k ++ [best alive (hs alive k) alive.length]
theorem asg_len (alive : List Bool) : ∀ k, (asg alive k).length = k
  | 0 => rfl
  | k + 1 => by simp [asg, asg_len alive k]
theorem ph2_free (alive : List Bool) (T : Nat) (h : living alive ≠ 0) : ∀ k, k ≤ T → ph2 alive (start T alive.length) k = (asg alive k ++ List.replicate (T - k) (-1), hs alive k)
  | 0, _ => by simp [ph2, start, asg, hs]
  | k + 1, hk => by
    rw [ph2_succ, ph2_free alive T h k (by omega)]
    obtain ⟨b0, _, _⟩ := best_ok (hs alive k) h
    have e : T - k = (T - (k + 1)) + 1 := by omega
    unfold step2
    rw [if_pos (by rw [List.getD_eq_getElem?_getD, List.getElem?_append_right (by rw [asg_len]; omega), asg_len, e]; simp)]
    simp only [give, hs, asg]
    rw [Int.toNat_of_nonneg b0]
    congr 1
    rw [List.set_append_right _ _ (by rw [asg_len]; omega), asg_len, Nat.sub_self, e, List.replicate_succ, List.set_cons_zero, List.append_assoc]
    rfl
theorem f_free (t : Int) (alive : List Bool) (h : living alive ≠ 0) : f t alive [] = asg alive (clampT t) := by
  unfold f
  rw [if_neg h]
  simp only [List.length_nil, Nat.min_zero]
  rw [show ph1 alive (share (clampT t) (living alive)) [] (start (clampT t) alive.length) 0 = start (clampT t) alive.length from rfl, ph2_free alive _ h _ (Nat.le_refl _)]
  simp
theorem asg_take (alive : List Bool) (k : Nat) : (asg alive (k + 1)).take k = asg alive k := by
  simp only [asg]
  rw [List.take_left' (asg_len alive k)]
theorem f_dead (t : Int) (alive : List Bool) (prev : List Int) (h : living alive = 0) : f t alive prev = List.replicate (clampT t) (-1) := by unfold f; rw [if_pos h]
theorem clampT_nat (n : Nat) (h : n ≤ 1000) : clampT (n : Int) = n := by unfold clampT; omega

/-- Nobody alive has two more than another one alive, if nobody had any ahead. -/
theorem hs_inv (alive : List Bool) (h : living alive ≠ 0) : ∀ k, (hs alive k).length = alive.length ∧ ∀ w u, w < alive.length → u < alive.length → alive.getD w false = true → alive.getD u false = true → (hs alive k).getD w 0 ≤ (hs alive k).getD u 0 + 1
  | 0 => by
    refine ⟨by simp [hs], fun w u hw hu _ _ => ?_⟩
    simp only [hs]
    rw [getD_mem _ _ _ (by simpa using hw), getD_mem _ _ _ (by simpa using hu)]
    simp
  | k + 1 => by
    obtain ⟨hl, hi⟩ := hs_inv alive h k
    obtain ⟨b0, b1, b2⟩ := best_ok (hs alive k) h
    refine ⟨by simp [hs, hl], fun w u hw hu ha hb => ?_⟩
    have hm := fun v (hv : v < alive.length) (hav : alive.getD v false = true) => best_min alive (hs alive k) alive.length v hv hav
    simp only [hs]
    generalize best alive (hs alive k) alive.length = b at *
    by_cases e1 : b.toNat = w
    · by_cases e2 : b.toNat = u
      · subst e1; rw [← e2]; omega
      · subst e1
        rw [getD_set_self _ _ _ _ (by omega), getD_set_ne _ _ _ _ _ e2]
        have := hm u hu hb; omega
    · rw [getD_set_ne _ _ _ _ _ e1]
      by_cases e2 : b.toNat = u
      · subst e2
        rw [getD_set_self _ _ _ _ (by omega)]
        have := hi w b.toNat hw hu ha hb; omega
      · rw [getD_set_ne _ _ _ _ _ e2]; exact hi w u hw hu ha hb
theorem asg_has (alive : List Bool) (h : living alive ≠ 0) (T : Nat) (w : Nat) (hw : w < alive.length) : (hs alive T).getD w 0 = ((asg alive T).count (w : Int) : Nat) := by
  obtain ⟨h1, _, h3⟩ := ph1_inv alive (share T (living alive)) [] T (share_nonneg _ _) 0 (Nat.zero_le _)
  have g := (ph2_inv alive T _ (share_enough T (living alive) (Nat.pos_of_ne_zero h)) h h1 h3 T (Nat.le_refl _)).1
  rw [show ph1 alive (share T (living alive)) [] (start T alive.length) 0 = start T alive.length from rfl, ph2_free alive T h T (Nat.le_refl _)] at g
  have := g.has w hw
  simpa using this
theorem free_near (alive : List Bool) (h : living alive ≠ 0) (T : Nat) (w u : Nat) (hw : w < alive.length) (hu : u < alive.length) (ha : alive.getD w false = true) (hb : alive.getD u false = true) : ((asg alive T).count (w : Int)) ≤ ((asg alive T).count (u : Int)) + 1 := by
  have := (hs_inv alive h T).2 w u hw hu ha hb
  rw [asg_has alive h T w hw, asg_has alive h T u hu] at this
  omega

/-! Given a row ahead that may stay: it stays. -/
theorem ph1_keeps (alive : List Bool) (sh : Int) (prev : List Int) (T : Nat) (hsh : 0 ≤ sh) (hl : prev.length = T)
    (K : Nat → Prop) [DecidablePred K] (hK : ∀ i, i < T → K i → 0 ≤ prev.getD i 0 ∧ prev.getD i 0 < alive.length ∧ alive.getD (prev.getD i 0).toNat false = true)
    (hN : ∀ i, i < T → ¬ K i → ¬ (0 ≤ prev.getD i 0 ∧ prev.getD i 0 < alive.length ∧ alive.getD (prev.getD i 0).toNat false = true))
    (hcap : ∀ w, w < alive.length → ((prev.count (w : Int) : Nat) : Int) ≤ sh) :
    ∀ k, k ≤ T → ∀ j, j < T → (ph1 alive sh prev (start T alive.length) k).1.getD j 0 = if j < k ∧ K j then prev.getD j 0 else -1
  | 0, _ => fun j hj => by
    rw [if_neg (by omega)]
    show (List.replicate T (-1 : Int)).getD j 0 = _
    rw [getD_mem _ _ _ (by simpa using hj)]; simp
  | k + 1, hk => fun j hj => by
    have ih := ph1_keeps alive sh prev T hsh hl K hK hN hcap k (by omega)
    obtain ⟨hi, hfree, _⟩ := ph1_inv alive sh prev T hsh k (by omega)
    rw [ph1_succ]
    unfold step1
    by_cases hKk : K k
    · obtain ⟨q0, q1, q2⟩ := hK k (by omega) hKk
      have hlt : (ph1 alive sh prev (start T alive.length) k).2.getD (prev.getD k 0).toNat 0 < sh := by
        have hw : (prev.getD k 0).toNat < alive.length := by omega
        rw [hi.has _ hw]
        have hc := hcap _ hw
        have e : (((prev.getD k 0).toNat : Nat) : Int) = prev.getD k 0 := Int.toNat_of_nonneg q0
        rw [e] at hc ⊢
        have hsub : (ph1 alive sh prev (start T alive.length) k).1.count (prev.getD k 0) < prev.count (prev.getD k 0) := by
          have hkl : k < prev.length := by omega
          have h1 : (prev.set k (-1)).count (prev.getD k 0) + 1 = prev.count (prev.getD k 0) := by
            rw [List.count_set hkl, getD_mem _ _ _ hkl]
            have hp : 0 < prev.count prev[k] := List.count_pos_iff.2 (List.getElem_mem hkl)
            have hne : ((-1 : Int) == prev[k]) = false := beq_eq_false_iff_ne.2 (by rw [← getD_mem _ _ 0 hkl]; omega)
            simp [hne]; try omega
          have h2 : (ph1 alive sh prev (start T alive.length) k).1.count (prev.getD k 0) ≤ (prev.set k (-1)).count (prev.getD k 0) := by
            have hlen : (ph1 alive sh prev (start T alive.length) k).1.length = (prev.set k (-1)).length := by rw [hi.lo, List.length_set, hl]
            refine count_le_of _ _ _ hlen (fun i hil hv => ?_)
            have hiT : i < T := by rw [hi.lo] at hil; exact hil
            have hval := ih i hiT
            by_cases hik : i < k ∧ K i
            · rw [if_pos hik] at hval
              rw [getD_set_ne _ _ _ _ _ (by omega), ← hval]; exact hv
            · rw [if_neg hik] at hval; rw [hval] at hv; omega
          omega
        omega
      rw [if_pos (ok1_mk q0 q1 q2 hlt)]
      simp only [give]
      by_cases e : k = j
      · subst e
        rw [getD_set_self _ _ _ _ (by rw [hi.lo]; omega), if_pos ⟨by omega, hKk⟩, Int.toNat_of_nonneg q0]
      · rw [getD_set_ne _ _ _ _ _ e, ih j hj]
        by_cases hjk : j < k
        · by_cases hKj : K j
          · rw [if_pos ⟨hjk, hKj⟩, if_pos ⟨by omega, hKj⟩]
          · rw [if_neg (fun h => hKj h.2), if_neg (fun h => hKj h.2)]
        · rw [if_neg (fun h => hjk h.1), if_neg (fun h => by omega)]
    · rw [if_neg (fun h => hN k (by omega) hKk ⟨(ok1_some h).1, (ok1_some h).2.1, (ok1_some h).2.2.1⟩), ih j hj]
      by_cases hjk : j < k
      · by_cases hKj : K j
        · rw [if_pos ⟨hjk, hKj⟩, if_pos ⟨by omega, hKj⟩]
        · rw [if_neg (fun h => hKj h.2), if_neg (fun h => hKj h.2)]
      · rw [if_neg (fun h => hjk h.1), if_neg (fun h => ?_)]
        have : j = k := by omega
        subst this; exact hKk h.2
end Go.Proofs.Ytjngkndiokfibaa.AsgnM

/- The plain law of AsgnKeeps. -/
import Derived.Test.YtjngkndiokfibaaPAsgnKeepsx1
import Derived.Test.YtjngkndiokfibaaAsgnLaws
import Derived.Test.YtjngkndiokfibaaOpen
namespace Go.Proofs.Ytjngkndiokfibaa.AsgnPureKeeps
open Go.RowKit Go.Proofs.Ytjngkndiokfibaa.PAsgnKeeps Go.Proofs.YtjngkndiokfibaaW.PrintWords Go.Proofs.YtjngkndiokfibaaW.PrintLast

theorem wrap_small {i : Int} (h0 : 0 ≤ i) (h : i ≤ 9223372036854775807) : wrap64 i = i := by unfold wrap64; omega
theorem same_self (l : List Int) (hl : l.length ≤ 100000) (d : Nat) : ∀ (k : Nat) (i : Int), 0 ≤ i → (l.length : Int) - i = d → d < k → tidemillref01_Same.l0 k l l i = some true := by
  induction d with
  | zero =>
    intro k i h0 hd hk
    obtain ⟨k, rfl⟩ : ∃ m, k = m + 1 := ⟨k - 1, by omega⟩
    simp only [tidemillref01_Same.l0]; rw [if_neg (by omega)]
  | succ d ih =>
    intro k i h0 hd hk
    obtain ⟨k, rfl⟩ : ∃ m, k = m + 1 := ⟨k - 1, by omega⟩
    simp only [tidemillref01_Same.l0, if_true]
    rw [if_pos (by omega), if_pos h0, if_pos (by omega), wrap_small (by omega) (by omega)]
    exact ih k (i + 1) (by omega) (by omega) (by omega)
theorem same_f (l : List Int) (hl : l.length ≤ 100000) (k : Nat) (hk : l.length < k) : tidemillref01_Same.f k l l = some true := by
  unfold tidemillref01_Same.f
  rw [if_pos rfl]
  exact same_self l hl l.length k 0 (by omega) (by omega) hk
theorem few_f (l : List Bool) : tidemilllaw22_few.f l = some (l.take 20) := by
  unfold tidemilllaw22_few.f
  by_cases h : (l.length : Int) > 20
  · rw [if_pos h, if_pos (by omega)]
  · rw [if_neg h, List.take_of_length_le (by omega)]
theorem asg_f (t : Int) (l : List Bool) (p : List Int) (h : l.length ≤ 1000000) : asgn_Assign.f t l p = some (AsgnM.f t l p) := by
  unfold asgn_Assign.f; rw [if_pos h]
theorem shown_f (k : Nat) (hk : 20 ≤ k) : tidemilllaw22_shown.f k = some true := at_rounds tidemilllaw22_shown.mono (k := 20) hk (by decide +kernel)

theorem rd_nat (l : List Int) (i : Nat) : rd l (i : Int) = l.getD i 0 := by simp [rd]
theorem ph2_stays (al : List Bool) (s : List Int × List Int) (i : Nat) : ∀ k, s.1.getD i 0 ≠ -1 → (AsgnM.ph2 al s k).1.getD i 0 = s.1.getD i 0
  | 0, _ => rfl
  | k + 1, h => by
    have ih := ph2_stays al s i k h
    rw [AsgnM.ph2_succ]; unfold AsgnM.step2
    split
    · rename_i hf
      simp only [AsgnM.give]
      rw [AsgnM.getD_set_ne _ _ _ _ _ (by rintro rfl; rw [ih] at hf; exact h hf)]
      exact ih
    · exact ih
theorem ext_getD (a b : List Int) (h : a.length = b.length) (hv : ∀ i, i < a.length → a.getD i 0 = b.getD i 0) : a = b := by
  apply List.ext_getElem h
  intro i h1 h2
  have := hv i h1
  rwa [AsgnM.getD_mem _ _ _ h1, AsgnM.getD_mem _ _ _ h2] at this
theorem again (n : Nat) (hn : n ≤ 1000) (al : List Bool) : AsgnM.f n al (AsgnM.f n al []) = AsgnM.f n al [] := by
  have e1 : AsgnM.clampT (n : Int) = n := AsgnM.clampT_nat n hn
  by_cases h : AsgnM.living al = 0
  · rw [AsgnM.f_dead _ _ _ h, AsgnM.f_dead _ _ _ h]
  · have ht := AsgnM.f_told n al [] h
    rw [e1] at ht
    generalize AsgnM.f n al [] = l at *
    have hk := AsgnM.ph1_keeps al (AsgnM.share n (AsgnM.living al)) l n (AsgnM.share_nonneg _ _) ht.len (fun _ => True) (fun i hi _ => ht.ok i hi) (fun i hi hc => absurd trivial hc) ht.cap n (Nat.le_refl _)
    have hi := (AsgnM.ph1_inv al (AsgnM.share n (AsgnM.living al)) l n (AsgnM.share_nonneg _ _) n (Nat.le_refl _)).1
    unfold AsgnM.f
    rw [if_neg h, e1, ht.len, Nat.min_self, AsgnM.ph2_full]
    · refine ext_getD _ _ (by rw [hi.lo, ht.len]) (fun i hil => ?_)
      rw [hi.lo] at hil
      rw [hk i hil, if_pos ⟨hil, trivial⟩]
    · intro j hj
      rw [hk j hj, if_pos ⟨hj, trivial⟩]
      have := ht.ok j hj; omega
theorem share_mono (n : Nat) {a b : Nat} (h : a ≤ b) (ha : 0 < a) : AsgnM.share n b ≤ AsgnM.share n a := by
  have hb : 0 < b := by omega
  unfold AsgnM.share
  have h1 : (n + b - 1) / b ≤ (n + a - 1) / a := by
    by_cases hn : n = 0
    · subst hn
      rw [Nat.div_eq_of_lt (by omega)]; exact Nat.zero_le _
    · have e1 : n + b - 1 = (n - 1) + b := by omega
      have e2 : n + a - 1 = (n - 1) + a := by omega
      rw [e1, e2, Nat.add_div_right _ hb, Nat.add_div_right _ ha]
      exact Nat.succ_le_succ (Nat.div_le_div_left h ha)
  exact_mod_cast h1
theorem count_less (al : List Bool) (d : Nat) : (al.set d false).count true ≤ al.count true := by
  by_cases hd : d < al.length
  · rw [List.count_set hd]; simp
  · rw [List.set_eq_of_length_le (by omega)]; exact Nat.le_refl _
theorem less_at (al : List Bool) (d w : Nat) (hw : w ≠ d) : (al.set d false).getD w false = al.getD w false := AsgnM.getD_set_ne _ _ _ _ _ (Ne.symm hw)
theorem less_self (al : List Bool) (d : Nat) (hd : d < al.length) : (al.set d false).getD d false = false := AsgnM.getD_set_self _ _ _ _ hd
/-- Where one dies: what is told of each task. -/
theorem one_less (n : Nat) (hn : n ≤ 1000) (al : List Bool) (d : Nat) (hd : d < al.length) (i : Nat) (hi : i < n) :
    ((AsgnM.f n al []).getD i 0 ≠ d → (AsgnM.f n (al.set d false) (AsgnM.f n al [])).getD i 0 = (AsgnM.f n al []).getD i 0) ∧ ((AsgnM.f n al []).getD i 0 = d → (AsgnM.f n (al.set d false) (AsgnM.f n al [])).getD i 0 ≠ d) := by
  have e1 : AsgnM.clampT (n : Int) = n := AsgnM.clampT_nat n hn
  have hcl := count_less al d
  have hls : (al.set d false).length = al.length := List.length_set
  by_cases h : AsgnM.living al = 0
  · have h' : AsgnM.living (al.set d false) = 0 := by unfold AsgnM.living at *; omega
    rw [AsgnM.f_dead _ _ _ h, AsgnM.f_dead _ _ _ h', e1, AsgnM.getD_mem _ _ _ (by simpa using hi)]
    simp
  · have ht := AsgnM.f_told n al [] h
    rw [e1] at ht
    generalize AsgnM.f n al [] = l at *
    obtain ⟨o0, o1, o2⟩ := ht.ok i hi
    by_cases h' : AsgnM.living (al.set d false) = 0
    · rw [AsgnM.f_dead _ _ _ h', e1, AsgnM.getD_mem (List.replicate n (-1)) i 0 (by simpa using hi)]
      refine ⟨fun hne => ?_, fun _ => by simp⟩
      exfalso
      have h1 : (al.set d false).getD (l.getD i 0).toNat false = true := by rw [less_at _ _ _ (by omega)]; exact o2
      have h2 : (l.getD i 0).toNat < (al.set d false).length := by omega
      have : 0 < (al.set d false).count true := List.count_pos_iff.2 (by rw [← h1, AsgnM.getD_mem _ _ _ h2]; exact List.getElem_mem h2)
      unfold AsgnM.living at h'; omega
    · have hsh : AsgnM.share n (AsgnM.living al) ≤ AsgnM.share n (AsgnM.living (al.set d false)) := share_mono n hcl (Nat.pos_of_ne_zero h')
      have hk := AsgnM.ph1_keeps (al.set d false) (AsgnM.share n (AsgnM.living (al.set d false))) l n (AsgnM.share_nonneg _ _) ht.len (fun j => l.getD j 0 ≠ d)
        (fun j hj hne => by
          obtain ⟨p0, p1, p2⟩ := ht.ok j hj
          exact ⟨p0, by rw [hls]; exact p1, by rw [less_at _ _ _ (by omega)]; exact p2⟩)
        (fun j hj hne hc => by
          have e : l.getD j 0 = d := Decidable.not_not.1 hne
          have := hc.2.2
          rw [e, Int.toNat_natCast, less_self _ _ hd] at this
          cases this)
        (fun w hw => Int.le_trans (ht.cap w (by omega)) hsh) n (Nat.le_refl _) i hi
      have hinv := AsgnM.ph1_inv (al.set d false) (AsgnM.share n (AsgnM.living (al.set d false))) l n (AsgnM.share_nonneg _ _) n (Nat.le_refl _)
      obtain ⟨q1, q2, _, _⟩ := AsgnM.ph2_inv (al.set d false) n _ (AsgnM.share_enough n (AsgnM.living (al.set d false)) (Nat.pos_of_ne_zero h')) h' hinv.1 hinv.2.2 n (Nat.le_refl _)
      have hkeep := ph2_stays (al.set d false) (AsgnM.ph1 (al.set d false) (AsgnM.share n (AsgnM.living (al.set d false))) l (AsgnM.start n (al.set d false).length) n) i
      unfold AsgnM.f
      rw [if_neg h', e1, ht.len, Nat.min_self]
      refine ⟨fun hne => ?_, fun _ => ?_⟩
      · rw [if_pos ⟨hi, hne⟩] at hk
        rw [hkeep n (by rw [hk]; omega), hk]
      · rcases q1.ok i hi with hm | ⟨m0, m1, m2⟩
        · exact absurd hm (q2 i hi)
        · intro hc
          rw [hc, Int.toNat_natCast, less_self _ _ hd] at m2
          cases m2
theorem loop (n : Nat) (hn : n ≤ 255) (al : List Bool) (d : Nat) (l m : List Int) (hl : l.length = n) (hm : m.length = n) (h : ∀ i, i < n → (l.getD i 0 ≠ d → m.getD i 0 = l.getD i 0) ∧ (l.getD i 0 = d → m.getD i 0 ≠ d)) (e : Nat) :
    ∀ (k i : Nat), i + e = n → e < k → tidemilllaw22_AsgnKeeps.l0 k al true l d m i = some true := by
  induction e with
  | zero =>
    intro k i he hk
    obtain ⟨k, rfl⟩ : ∃ m, k = m + 1 := ⟨k - 1, by omega⟩
    simp only [tidemilllaw22_AsgnKeeps.l0]; rw [if_neg (by omega)]
  | succ e ih =>
    intro k i he hk
    obtain ⟨k, rfl⟩ : ∃ m, k = m + 1 := ⟨k - 1, by omega⟩
    have hnext := ih k (i + 1) (by omega) (by omega)
    obtain ⟨h1, h2⟩ := h i (by omega)
    simp only [tidemilllaw22_AsgnKeeps.l0]
    rw [if_pos (by omega), if_pos (by omega), rd_nat, rd_nat, wrap_small (i := (i : Int) + 1) (by omega) (by omega)]
    by_cases c : l.getD i 0 = d
    · rw [if_pos c, if_pos (by omega), if_neg (h2 c)]; exact hnext
    · rw [if_neg c, if_pos (by omega), if_pos (h1 c)]; exact hnext
theorem law (a0 : Int) (l : List Bool) (a2 : Int) (h0 : 0 ≤ a0) (h1 : a0 ≤ 255) (g0 : 0 ≤ a2) (g1 : a2 ≤ 255) : ∃ k, tidemilllaw22_AsgnKeeps.f k a0 l a2 = some true := by
  obtain ⟨n, rfl⟩ := Int.eq_ofNat_of_zero_le h0
  obtain ⟨q, rfl⟩ := Int.eq_ofNat_of_zero_le g0
  have hal : (l.take 20).length ≤ 20 := List.length_take_le _ _
  refine ⟨400, ?_⟩
  unfold tidemilllaw22_AsgnKeeps.f
  have e1 : AsgnM.clampT (n : Int) = n := AsgnM.clampT_nat n (by omega)
  have hlen : ∀ a p, (AsgnM.f (n : Int) a p).length = n := fun a p => by rw [AsgnM.f_length, e1]
  rw [shown_f _ (by omega), few_f, wrap_small (i := (n : Int)) (by omega) (by omega)]
  rw [Option.bind_some, Option.bind_some]
  generalize l.take 20 = al at *
  rw [asg_f _ _ _ (by omega), Option.bind_some, asg_f _ _ _ (by omega), Option.bind_some, again n (by omega), same_f _ (by rw [hlen]; omega) _ (by rw [hlen]; omega), Option.bind_some]
  rw [if_pos rfl]
  obtain ⟨b, hb⟩ : ∃ b, b = ((al.length : Int) == 0) := ⟨_, rfl⟩
  rw [← hb]
  simp only [tidemilllaw22_AsgnKeeps.j0]
  cases b with
  | true =>
    rw [if_pos rfl, if_pos trivial, same_f _ (by rw [hlen]; omega) _ (by rw [hlen]; omega)]; rfl
  | false =>
    have hne : al.length ≠ 0 := by
      have := beq_eq_false_iff_ne.1 hb.symm; omega
    have hm : Int.tmod (wrap64 (q : Int)) (al.length : Int) = ((q % al.length : Nat) : Int) := by
      rw [wrap_small (by omega) (by omega), Int.tmod_eq_emod_of_nonneg (by omega)]; rfl
    have hlt : q % al.length < al.length := Nat.mod_lt _ (by omega)
    rw [if_neg (by simp), if_neg (by omega), Option.bind_some, hm]
    simp only [List.length_nil, List.nil_append, Nat.zero_add]
    rw [if_pos (by omega), Option.bind_some, if_pos (by omega), if_pos (by omega), Int.toNat_natCast, wrap_small (i := (n : Int)) (by omega) (by omega), asg_f _ _ _ (by simp; omega), Option.bind_some, hlen, hlen, if_pos rfl]
    have hfin := loop n (by omega) al (q % al.length) (AsgnM.f n al []) (AsgnM.f n (al.set (q % al.length) false) (AsgnM.f n al [])) (hlen _ _) (hlen _ _) (fun i hi => one_less n (by omega) al (q % al.length) hlt i hi) n 399 0 (by omega) (by omega)
    rw [show ((0 : Nat) : Int) = 0 from rfl] at hfin
    exact hfin

end Go.Proofs.Ytjngkndiokfibaa.AsgnPureKeeps

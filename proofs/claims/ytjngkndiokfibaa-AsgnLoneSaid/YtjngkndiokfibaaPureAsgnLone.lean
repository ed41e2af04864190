/- The plain law of AsgnLone. -/
import Derived.Test.YtjngkndiokfibaaPAsgnLonex2
import Derived.Test.YtjngkndiokfibaaAsgnLaws
import Derived.Test.YtjngkndiokfibaaOpen
namespace Go.Proofs.Ytjngkndiokfibaa.Pure
open Go.RowKit Go.Proofs.Ytjngkndiokfibaa.PAsgnLone Go.Proofs.YtjngkndiokfibaaW.PrintWords Go.Proofs.YtjngkndiokfibaaW.PrintLast

theorem wrap_small {i : Int} (h0 : 0 ≤ i) (h : i ≤ 9223372036854775807) : wrap64 i = i := by unfold wrap64; omega
theorem same_self (l : List Int) (hl : l.length ≤ 100000) (d : Nat) : ∀ (k : Nat) (i : Int), 0 ≤ i → (l.length : Int) - i = d → d < k → tidemillref01_Same.l0 k l l i = some true := by
  induction d with
  | zero =>
    intro k i h0 hd hk
    obtain ⟨k, rfl⟩ : ∃ m, k = m + 1 := ⟨k - 1, by omega⟩
    simp only [tidemillref01_Same.l0]; rw [if_neg (by omega)]
  | succ d ih =>
    intro k i h0 hd hk
    obtain ⟨k, rfl⟩ : ∃ m, k = m + 1 := ⟨k - 1, by omega⟩
    simp only [tidemillref01_Same.l0, if_true]
    rw [if_pos (by omega), if_pos h0, if_pos (by omega), wrap_small (by omega) (by omega)]
    exact ih k (i + 1) (by omega) (by omega) (by omega)
theorem same_f (l : List Int) (hl : l.length ≤ 100000) (k : Nat) (hk : l.length < k) : tidemillref01_Same.f k l l = some true := by
  unfold tidemillref01_Same.f
  rw [if_pos rfl]
  exact same_self l hl l.length k 0 (by omega) (by omega) hk
theorem asg_f (t : Int) (l : List Bool) (p : List Int) (h : l.length ≤ 1000000) : asgn_Assign.f t l p = some (AsgnM.f t l p) := by
  unfold asgn_Assign.f; rw [if_pos h]
theorem shown_f (k : Nat) (hk : 20 ≤ k) : tidemilllaw22_shown.f k = some true := at_rounds tidemilllaw22_shown.mono (k := 20) hk (by decide +kernel)

theorem rd_nat (l : List Int) (i : Nat) : rd l (i : Int) = l.getD i 0 := by simp [rd]
def one (K W i : Nat) : Int := ((i + W) % K : Nat)
def prevOf (K W n : Nat) : List Int := (List.range n).map (one K W)
theorem prev_succ (K W n : Nat) : prevOf K W (n + 1) = prevOf K W n ++ [one K W n] := by simp [prevOf, List.range_succ]
theorem prev_len (K W n : Nat) : (prevOf K W n).length = n := by simp [prevOf]
theorem prev_at (K W n i : Nat) (h : i < n) : (prevOf K W n).getD i 0 = one K W i := by
  rw [AsgnM.getD_mem _ _ _ (by rw [prev_len]; exact h)]; simp [prevOf]
theorem one_at (K W q m : Nat) (hm : m < K) (hW : W < K) : (K * q + m + W) % K = if m + W < K then m + W else m + W - K := by
  rw [Nat.add_assoc, Nat.mul_add_mod]
  by_cases h : m + W < K
  · rw [if_pos h, Nat.mod_eq_of_lt h]
  · rw [if_neg h, Nat.mod_eq_sub_mod (by omega), Nat.mod_eq_of_lt (by omega)]
def rr (K W v : Nat) : Nat := if W ≤ v then v - W else v + K - W
theorem count_prev (K W v : Nat) (hK : 0 < K) (hW : W < K) (hv : v < K) : ∀ n q m, n = K * q + m → m < K → (prevOf K W n).count (v : Int) = q + if rr K W v < m then 1 else 0
  | 0, q, m, h, hm => by
    have hm0 : m = 0 := by omega
    have hq0 : q = 0 := by
      rcases Nat.eq_zero_or_pos q with h0 | h0
      · exact h0
      · have : K * 1 ≤ K * q := Nat.mul_le_mul_left _ h0
        omega
    subst hm0; subst hq0; simp [prevOf]
  | n + 1, q, m, h, hm => by
    rw [prev_succ, List.count_append, List.count_singleton]
    have hr : rr K W v < K := by unfold rr; split <;> omega
    by_cases h0 : m = 0
    · subst h0
      obtain ⟨q', rfl⟩ : ∃ q', q = q' + 1 := by
        refine ⟨q - 1, ?_⟩
        rcases Nat.eq_zero_or_pos q with h1 | h1
        · subst h1; simp at h
        · omega
      rw [Nat.mul_succ] at h
      have hn : n = K * q' + (K - 1) := by omega
      rw [count_prev K W v hK hW hv n q' (K - 1) hn (by omega)]
      have ho : one K W n = ((if K - 1 + W < K then K - 1 + W else K - 1 + W - K : Nat) : Int) := by unfold one; rw [hn, one_at K W q' (K - 1) (by omega) hW]
      rw [ho]
      have hiff : (((if K - 1 + W < K then K - 1 + W else K - 1 + W - K : Nat) : Int) == (v : Int)) = decide (rr K W v = K - 1) := by
        rw [Bool.eq_iff_iff]; simp only [beq_iff_eq, decide_eq_true_eq]
        unfold rr; split <;> split <;> omega
      rw [hiff]
      by_cases e : rr K W v = K - 1
      · rw [e]; simp
      · rw [decide_eq_false e, if_pos (show rr K W v < K - 1 by omega)]; simp
    · obtain ⟨m', rfl⟩ : ∃ m', m = m' + 1 := ⟨m - 1, by omega⟩
      have hn : n = K * q + m' := by omega
      rw [count_prev K W v hK hW hv n q m' hn (by omega)]
      have ho : one K W n = ((if m' + W < K then m' + W else m' + W - K : Nat) : Int) := by unfold one; rw [hn, one_at K W q m' (by omega) hW]
      rw [ho]
      have hiff : (((if m' + W < K then m' + W else m' + W - K : Nat) : Int) == (v : Int)) = decide (rr K W v = m') := by
        rw [Bool.eq_iff_iff]; simp only [beq_iff_eq, decide_eq_true_eq]
        unfold rr; split <;> split <;> omega
      rw [hiff]
      by_cases e : rr K W v = m'
      · rw [e]; simp
      · rw [decide_eq_false e]
        by_cases e2 : rr K W v < m'
        · rw [if_pos e2, if_pos (show rr K W v < m' + 1 by omega)]; rfl
        · rw [if_neg e2, if_neg (show ¬ rr K W v < m' + 1 by omega)]; rfl
theorem living_all (K : Nat) : AsgnM.living (List.replicate K true) = K := by unfold AsgnM.living; rw [List.count_replicate_self]
theorem by_hand (n K W : Nat) (hn : n ≤ 1000) (hK : 0 < K) (hW : W < K) : AsgnM.f n (List.replicate K true) (prevOf K W n) = prevOf K W n := by
  have e1 : AsgnM.clampT (n : Int) = n := AsgnM.clampT_nat n hn
  have hlive : AsgnM.living (List.replicate K true) ≠ 0 := by rw [living_all]; omega
  have hval : ∀ i, i < n → 0 ≤ (prevOf K W n).getD i 0 ∧ (prevOf K W n).getD i 0 < ((List.replicate K true).length : Nat) ∧ (List.replicate K true).getD ((prevOf K W n).getD i 0).toNat false = true := fun i hi => by
    rw [prev_at K W n i hi]
    have : (i + W) % K < K := Nat.mod_lt _ hK
    have e : (one K W i).toNat = (i + W) % K := Int.toNat_natCast _
    refine ⟨Int.natCast_nonneg _, by unfold one; rw [List.length_replicate]; omega, ?_⟩
    rw [e, AsgnM.getD_mem _ _ _ (by rw [List.length_replicate]; exact this)]; simp
  have hcap : ∀ w, w < (List.replicate K true).length → (((prevOf K W n).count (w : Int) : Nat) : Int) ≤ AsgnM.share n (AsgnM.living (List.replicate K true)) := fun w hw => by
    rw [List.length_replicate] at hw
    rw [living_all, count_prev K W w hK hW hw n (n / K) (n % K) (Nat.div_add_mod n K).symm (Nat.mod_lt _ hK)]
    unfold AsgnM.share
    have h1 := Nat.div_add_mod n K
    have h2 := Nat.mod_lt n hK
    have h3 : n / K + (if rr K W w < n % K then 1 else 0) ≤ (n + K - 1) / K := by
      rw [Nat.le_div_iff_mul_le hK]
      by_cases e : rr K W w < n % K
      · rw [if_pos e, Nat.add_mul, Nat.mul_comm (n / K) K]; omega
      · rw [if_neg e, Nat.add_zero, Nat.mul_comm (n / K) K]; omega
    exact_mod_cast h3
  have hk := AsgnM.ph1_keeps (List.replicate K true) (AsgnM.share n (AsgnM.living (List.replicate K true))) (prevOf K W n) n (AsgnM.share_nonneg _ _) (prev_len K W n) (fun _ => True) (fun i hi _ => hval i hi) (fun i hi hc => absurd trivial hc) hcap n (Nat.le_refl _)
  have hi := (AsgnM.ph1_inv (List.replicate K true) (AsgnM.share n (AsgnM.living (List.replicate K true))) (prevOf K W n) n (AsgnM.share_nonneg _ _) n (Nat.le_refl _)).1
  unfold AsgnM.f
  rw [if_neg hlive, e1, prev_len, Nat.min_self, AsgnM.ph2_full]
  · apply List.ext_getElem (by rw [hi.lo, prev_len])
    intro i h1 h2
    have hil : i < n := by rw [hi.lo] at h1; exact h1
    have := hk i hil
    rw [if_pos ⟨hil, trivial⟩] at this
    rwa [AsgnM.getD_mem _ _ _ h1, AsgnM.getD_mem _ _ _ h2] at this
  · intro j hj
    rw [hk j hj, if_pos ⟨hj, trivial⟩]
    have := hval j hj; omega
theorem loop2 (n K W : Nat) (hn : n ≤ 255) (hK : 0 < K) (hK1 : K ≤ 16) (hW : W < K) (d : Nat) : ∀ (k i : Nat), i + d = n → d + 300 < k → tidemilllaw22_AsgnLone.l2 k n true K W (List.replicate K true) (prevOf K W i) i = some true := by
  induction d with
  | zero =>
    intro k i hd hk
    obtain ⟨k, rfl⟩ : ∃ m, k = m + 1 := ⟨k - 1, by omega⟩
    obtain rfl : i = n := by omega
    simp only [tidemilllaw22_AsgnLone.l2]
    rw [wrap_small (by omega) (by omega), if_neg (by omega), if_pos trivial, asg_f _ _ _ (by simp; omega), Option.bind_some, by_hand i K W (by omega) hK hW, same_f _ (by rw [prev_len]; omega) _ (by rw [prev_len]; omega)]
    rfl
  | succ d ih =>
    intro k i hd hk
    obtain ⟨k, rfl⟩ : ∃ m, k = m + 1 := ⟨k - 1, by omega⟩
    have hnext := ih k (i + 1) (by omega) (by omega)
    rw [prev_succ, show ((i + 1 : Nat) : Int) = (i : Int) + 1 from rfl] at hnext
    have hm : Int.tmod (wrap64 ((i : Int) + (W : Int))) (K : Int) = one K W i := by
      rw [wrap_small (by omega) (by omega), Int.tmod_eq_emod_of_nonneg (by omega)]; rfl
    simp only [tidemilllaw22_AsgnLone.l2]
    rw [wrap_small (i := (n : Int)) (by omega) (by omega), if_pos (by omega), if_neg (by omega), if_pos (by rw [prev_len]; omega), hm, wrap_small (i := (i : Int) + 1) (by omega) (by omega)]
    exact hnext
theorem all_true (K : Nat) (al : List Bool) (h : al.length = K) (hv : ∀ j, j < K → al.getD j false = true) : al = List.replicate K true := by
  apply List.ext_getElem (by simp [h])
  intro i h1 h2
  have := hv i (by omega)
  rw [AsgnM.getD_mem _ _ _ h1] at this
  simp [this]
theorem loop1 (n K W : Nat) (hn : n ≤ 255) (hK : 0 < K) (hK1 : K ≤ 16) (hW : W < K) (d : Nat) : ∀ (k i : Nat) (al : List Bool), al.length = K → (∀ j, j < i → al.getD j false = true) → i + d = K → d + 600 < k → tidemilllaw22_AsgnLone.l1 k n true K W al i = some true := by
  induction d with
  | zero =>
    intro k i al hal hv hd hk
    obtain ⟨k, rfl⟩ : ∃ m, k = m + 1 := ⟨k - 1, by omega⟩
    have hfin := loop2 n K W hn hK hK1 hW n k 0 (by omega) (by omega)
    simp only [tidemilllaw22_AsgnLone.l1]
    rw [if_neg (by omega), all_true K al hal (fun j hj => hv j (by omega))]
    exact hfin
  | succ d ih =>
    intro k i al hal hv hd hk
    obtain ⟨k, rfl⟩ : ∃ m, k = m + 1 := ⟨k - 1, by omega⟩
    have hnext := ih k (i + 1) (al.set i true) (by rw [List.length_set, hal]) (fun j hj => by
      by_cases e : i = j
      · subst e; exact AsgnM.getD_set_self _ _ _ _ (by omega)
      · rw [AsgnM.getD_set_ne _ _ _ _ _ e]; exact hv j (by omega)) (by omega) (by omega)
    rw [show ((i + 1 : Nat) : Int) = (i : Int) + 1 from rfl] at hnext
    simp only [tidemilllaw22_AsgnLone.l1]
    rw [if_pos (by omega), if_pos (by omega), if_pos (by omega), Int.toNat_natCast, wrap_small (by omega) (by omega)]
    exact hnext
theorem loop0 (n K W : Nat) (hn : n ≤ 255) (hK : 0 < K) (hK1 : K ≤ 16) (hW : W < K) (al : List Bool) (hal : al.length = K) (none all : List Int) (h1 : none.length = n) (h2 : all.length = n) (h3 : ∀ i, i < n → none.getD i 0 = -1) (h4 : ∀ i, i < n → all.getD i 0 = W) (d : Nat) :
    ∀ (k i : Nat), i + d = n → d + 700 < k → tidemilllaw22_AsgnLone.l0 k n true K W al none all i = some true := by
  induction d with
  | zero =>
    intro k i hd hk
    obtain ⟨k, rfl⟩ : ∃ m, k = m + 1 := ⟨k - 1, by omega⟩
    have hfin := loop1 n K W hn hK hK1 hW K k 0 al hal (fun j hj => absurd hj (by omega)) (by omega) (by omega)
    simp only [tidemilllaw22_AsgnLone.l0]
    rw [wrap_small (by omega) (by omega), if_neg (by omega)]
    exact hfin
  | succ d ih =>
    intro k i hd hk
    obtain ⟨k, rfl⟩ : ∃ m, k = m + 1 := ⟨k - 1, by omega⟩
    have hnext := ih k (i + 1) (by omega) (by omega)
    rw [show ((i + 1 : Nat) : Int) = (i : Int) + 1 from rfl] at hnext
    simp only [tidemilllaw22_AsgnLone.l0]
    rw [wrap_small (i := (n : Int)) (by omega) (by omega), if_pos (by omega), if_pos (by omega), if_pos (by omega), rd_nat, rd_nat, if_pos (h3 i (by omega)), if_pos (by omega), if_pos (h4 i (by omega)), wrap_small (i := (i : Int) + 1) (by omega) (by omega)]
    exact hnext
theorem lone_living (K W : Nat) (hW : W < K) : AsgnM.living ((List.replicate K false).set W true) ≠ 0 := by
  unfold AsgnM.living
  have : 0 < ((List.replicate K false).set W true).count true := List.count_pos_iff.2 (List.mem_iff_getElem.2 ⟨W, by simpa using hW, by simp⟩)
  omega
theorem lone_at (K W j : Nat) (h : ((List.replicate K false).set W true).getD j false = true) : j = W := by
  refine Decidable.byContradiction fun e => ?_
  rw [AsgnM.getD_set_ne _ _ _ _ _ (Ne.symm e)] at h
  simp [List.getD_eq_getElem?_getD, List.getElem?_replicate] at h
  split at h <;> cases h
theorem AsgnLone : tidemilllaw22_AsgnLone.Pure := by
  intro a0 a1 a2 p0 p1 p2
  have b0 : 0 ≤ a0 ∧ a0 ≤ 255 := Open.wf_u8 p0
  have b1 : 0 ≤ a1 ∧ a1 ≤ 255 := Open.wf_u8 p1
  have b2 : 0 ≤ a2 ∧ a2 ≤ 255 := Open.wf_u8 p2
  obtain ⟨n, rfl⟩ := Int.eq_ofNat_of_zero_le b0.1
  obtain ⟨m, rfl⟩ := Int.eq_ofNat_of_zero_le b1.1
  obtain ⟨q, rfl⟩ := Int.eq_ofNat_of_zero_le b2.1
  obtain ⟨K, hK⟩ : ∃ K, K = 1 + m % 16 := ⟨_, rfl⟩
  have hK0 : 0 < K := by omega
  have hK1 : K ≤ 16 := by omega
  obtain ⟨W, hWe⟩ : ∃ W, W = q % K := ⟨_, rfl⟩
  have hW : W < K := by rw [hWe]; exact Nat.mod_lt _ hK0
  have eK : wrap64 (1 + wrap64 (Int.tmod (m : Int) 16)) = (K : Int) := by
    rw [Int.tmod_eq_emod_of_nonneg (by omega), wrap_small (i := (m : Int) % 16) (by omega) (by omega), wrap_small (by omega) (by omega)]; omega
  have eW : Int.tmod (wrap64 (q : Int)) (K : Int) = (W : Int) := by
    rw [wrap_small (by omega) (by omega), Int.tmod_eq_emod_of_nonneg (by omega), hWe]; rfl
  have e1 : AsgnM.clampT (n : Int) = n := AsgnM.clampT_nat n (by omega)
  have hlen : ∀ a p, (AsgnM.f (n : Int) a p).length = n := fun a p => by rw [AsgnM.f_length, e1]
  have hdead : AsgnM.living (List.replicate K false) = 0 := by unfold AsgnM.living; rw [List.count_replicate]; rfl
  refine ⟨2000, ?_⟩
  unfold tidemilllaw22_AsgnLone.f
  rw [eK, eW, shown_f _ (by omega), Option.bind_some, if_neg (by omega), if_pos (by omega), Int.toNat_natCast, Int.toNat_natCast, if_pos (by omega), Option.bind_some, wrap_small (i := (n : Int)) (by omega) (by omega), asg_f _ _ _ (by simp; omega), Option.bind_some, if_pos (by omega), if_pos (by simp; omega), Option.bind_some, asg_f _ _ _ (by simp; omega), Option.bind_some, hlen, hlen, if_pos rfl]
  have hne : (((n : Int)) != (n : Int)) = false := by simp
  rw [hne]
  have ht := AsgnM.f_told (n : Int) ((List.replicate K false).set W true) [] (lone_living K W hW)
  rw [e1] at ht
  have hfin := loop0 n K W (by omega) hK0 hK1 hW ((List.replicate K false).set W true) (by simp) (AsgnM.f n (List.replicate K false) []) (AsgnM.f n ((List.replicate K false).set W true) []) (hlen _ _) (hlen _ _)
    (fun i hi => by rw [AsgnM.f_dead _ _ _ hdead, e1, AsgnM.getD_mem _ _ _ (by simpa using hi)]; simp)
    (fun i hi => by
      obtain ⟨o0, _, o2⟩ := ht.ok i hi
      have := lone_at K W _ o2; omega) n 1999 0 (by omega) (by omega)
  obtain ⟨k', hk'⟩ : ∃ k', k' = 1999 := ⟨_, rfl⟩
  rw [← hk'] at hfin
  rw [show (2000 : Nat) = k' + 1 from by omega]
  simp only [tidemilllaw22_AsgnLone.j0]
  rw [if_neg (by simp)]
  exact hfin

end Go.Proofs.Ytjngkndiokfibaa.Pure

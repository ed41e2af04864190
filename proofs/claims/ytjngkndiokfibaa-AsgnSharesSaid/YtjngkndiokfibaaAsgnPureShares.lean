/- The plain law of AsgnShares. -/
import Derived.Test.YtjngkndiokfibaaPAsgnSharesx
import Derived.Test.YtjngkndiokfibaaAsgnLaws
import Derived.Test.YtjngkndiokfibaaOpen
namespace Go.Proofs.Ytjngkndiokfibaa.AsgnPureShares
open Go.RowKit Go.Proofs.Ytjngkndiokfibaa.PAsgnShares Go.Proofs.YtjngkndiokfibaaW.PrintWords Go.Proofs.YtjngkndiokfibaaW.PrintLast

theorem wrap_small {i : Int} (h0 : 0 ≤ i) (h : i ≤ 9223372036854775807) : wrap64 i = i := by unfold wrap64; omega
theorem few_f (l : List Bool) : tidemilllaw22_few.f l = some (l.take 20) := by
  unfold tidemilllaw22_few.f
  by_cases h : (l.length : Int) > 20
  · rw [if_pos h, if_pos (by omega)]
  · rw [if_neg h, List.take_of_length_le (by omega)]
theorem asg_f (t : Int) (l : List Bool) (p : List Int) (h : l.length ≤ 1000000) : asgn_Assign.f t l p = some (AsgnM.f t l p) := by
  unfold asgn_Assign.f; rw [if_pos h]
theorem shown_f (k : Nat) (hk : 20 ≤ k) : tidemilllaw22_shown.f k = some true := at_rounds tidemilllaw22_shown.mono (k := 20) hk (by decide +kernel)
theorem count_loop (l : List Int) (a : Int) (hl : l.length ≤ 100000) (d : Nat) : ∀ (k i : Nat), i + d = l.length → d < k → tidemillref22_Count.l0 k l a (((l.take i).count a : Nat) : Int) i = some ((l.count a : Nat) : Int) := by
  induction d with
  | zero =>
    intro k i hd hk
    obtain ⟨k, rfl⟩ : ∃ m, k = m + 1 := ⟨k - 1, by omega⟩
    simp only [tidemillref22_Count.l0]; rw [if_neg (by omega), List.take_of_length_le (by omega)]
  | succ d ih =>
    intro k i hd hk
    obtain ⟨k, rfl⟩ : ∃ m, k = m + 1 := ⟨k - 1, by omega⟩
    have hi : i < l.length := by omega
    have hc : (l.take i).count a ≤ i := Nat.le_trans List.count_le_length (List.length_take_le _ _)
    have hs : (l.take (i + 1)).count a = (l.take i).count a + if l[i] = a then 1 else 0 := by
      rw [List.take_succ_eq_append_getElem hi, List.count_append, List.count_singleton]; simp
    have hr : rd l (i : Int) = l[i] := by simp [rd, List.getElem?_eq_getElem hi]
    have := ih k (i + 1) (by omega) (by omega)
    simp only [tidemillref22_Count.l0, hr]
    rw [if_pos (by omega), if_pos (by omega), wrap_small (i := (i : Int) + 1) (by omega) (by omega)]
    by_cases e : l[i] = a
    · rw [if_pos e, wrap_small (by omega) (by omega)]
      rw [hs, if_pos e] at this
      exact this
    · rw [if_neg e]
      rw [hs, if_neg e] at this
      exact this
theorem count_f (l : List Int) (a : Int) (hl : l.length ≤ 100000) (k : Nat) (hk : l.length < k) : tidemillref22_Count.f k l a = some ((l.count a : Nat) : Int) := count_loop l a hl l.length k 0 (by omega) hk
theorem living_loop (l : List Bool) (hl : l.length ≤ 100000) (d : Nat) : ∀ (k i : Nat), i + d = l.length → d < k → tidemillref22_Living.l0 k l (((l.take i).count true : Nat) : Int) i = some ((AsgnM.living l : Nat) : Int) := by
  induction d with
  | zero =>
    intro k i hd hk
    obtain ⟨k, rfl⟩ : ∃ m, k = m + 1 := ⟨k - 1, by omega⟩
    simp only [tidemillref22_Living.l0]; rw [if_neg (by omega), List.take_of_length_le (by omega)]; rfl
  | succ d ih =>
    intro k i hd hk
    obtain ⟨k, rfl⟩ : ∃ m, k = m + 1 := ⟨k - 1, by omega⟩
    have hi : i < l.length := by omega
    have hc : (l.take i).count true ≤ i := Nat.le_trans List.count_le_length (List.length_take_le _ _)
    have hs : (l.take (i + 1)).count true = (l.take i).count true + if l[i] = true then 1 else 0 := by
      rw [List.take_succ_eq_append_getElem hi, List.count_append, List.count_singleton]; simp
    have hr : rdOf false l (i : Int) = l[i] := by simp [rdOf, List.getElem?_eq_getElem hi]
    have := ih k (i + 1) (by omega) (by omega)
    simp only [tidemillref22_Living.l0, hr]
    rw [if_pos (by omega), if_pos (by omega), wrap_small (i := (i : Int) + 1) (by omega) (by omega)]
    by_cases e : l[i] = true
    · rw [if_pos e, wrap_small (by omega) (by omega)]
      rw [hs, if_pos e] at this
      exact this
    · rw [if_neg e]
      rw [hs, if_neg e] at this
      exact this
theorem living_f (l : List Bool) (hl : l.length ≤ 100000) (k : Nat) (hk : l.length < k) : tidemillref22_Living.f k l = some ((AsgnM.living l : Nat) : Int) := living_loop l hl l.length k 0 (by omega) hk
theorem share_loop (T L : Nat) (hT : T ≤ 1000) (hL : 0 < L) (hL1 : L ≤ 1000) (d : Nat) : ∀ (k i : Nat), i + d = (T + L - 1) / L → d < k → tidemillref22_Share.l0 k T L i = some (AsgnM.share T L) := by
  have h1 := Nat.div_add_mod (T + L - 1) L
  have h2 := Nat.mod_lt (T + L - 1) hL
  have hq : (T + L - 1) / L ≤ T + L - 1 := Nat.div_le_self _ _
  induction d with
  | zero =>
    intro k i hd hk
    obtain ⟨k, rfl⟩ : ∃ m, k = m + 1 := ⟨k - 1, by omega⟩
    obtain rfl : i = (T + L - 1) / L := by omega
    have h3 : T ≤ (T + L - 1) / L * L := by rw [Nat.mul_comm]; omega
    have h4 : (T + L - 1) / L * L ≤ T + L - 1 := Nat.div_mul_le_self _ _
    have h5 : (((T + L - 1) / L : Nat) : Int) * (L : Int) = (((T + L - 1) / L * L : Nat) : Int) := by rw [Int.natCast_mul]
    simp only [tidemillref22_Share.l0]
    rw [h5, wrap_small (by omega) (by omega), if_neg (by omega)]; rfl
  | succ d ih =>
    intro k i hd hk
    obtain ⟨k, rfl⟩ : ∃ m, k = m + 1 := ⟨k - 1, by omega⟩
    have h3 : i * L + L ≤ (T + L - 1) / L * L := by rw [← Nat.succ_mul]; exact Nat.mul_le_mul_right _ (by omega)
    have h4 : (T + L - 1) / L * L ≤ T + L - 1 := Nat.div_mul_le_self _ _
    have h5 : (i : Int) * (L : Int) = ((i * L : Nat) : Int) := by rw [Int.natCast_mul]
    simp only [tidemillref22_Share.l0]
    rw [h5, wrap_small (by omega) (by omega), if_pos (by omega), wrap_small (by omega) (by omega)]
    exact ih k (i + 1) (by omega) (by omega)
theorem share_f (T L : Nat) (hT : T ≤ 1000) (hL : 0 < L) (hL1 : L ≤ 1000) (k : Nat) (hk : T + L < k) : tidemillref22_Share.f k T L = some (AsgnM.share T L) := by
  have hq : (T + L - 1) / L ≤ T + L - 1 := Nat.div_le_self _ _
  exact share_loop T L hT hL hL1 ((T + L - 1) / L) k 0 (by omega) (by omega)

theorem wrapn (n : Nat) (h : n ≤ 100000) : wrap64 (n : Int) = n := wrap_small (by omega) (by omega)
theorem rd_nat (l : List Int) (i : Nat) : rd l (i : Int) = l.getD i 0 := by simp [rd]
theorem rdb_nat (l : List Bool) (i : Nat) : rdOf false l (i : Int) = l.getD i false := by simp [rdOf]
theorem inner (n : Nat) (hn : n ≤ 255) (al : List Bool) (hal : al.length ≤ 20) (L : Nat) (l fr : List Int) (hfr : fr.length = n) (w : Nat) (hw : w < al.length)
    (hnear : ∀ u, u < al.length → al.getD w false = true → al.getD u false = true → fr.count (w : Int) ≤ fr.count (u : Int) + 1) (K : Nat) (hK : 300 ≤ K) (hnx : ∀ k, K < k → tidemilllaw22_AsgnShares.l1 k n al true L l fr ((w : Int) + 1) = some true) (e : Nat) :
    ∀ (k u : Nat), u + e = al.length → e + K + 1 < k → tidemilllaw22_AsgnShares.l2 k n al true L l fr w u = some true := by
  have hlen : ∀ a : Int, fr.count a ≤ 255 := fun a => Nat.le_trans List.count_le_length (by omega)
  induction e with
  | zero =>
    intro k u he hk
    obtain ⟨k, rfl⟩ : ∃ m, k = m + 1 := ⟨k - 1, by omega⟩
    simp only [tidemilllaw22_AsgnShares.l2]
    rw [if_neg (by omega), wrap_small (by omega) (by omega)]
    exact hnx k (by omega)
  | succ e ihe =>
    intro k u he hk
    obtain ⟨k, rfl⟩ : ∃ m, k = m + 1 := ⟨k - 1, by omega⟩
    have hnext := ihe k (u + 1) (by omega) (by omega)
    simp only [tidemilllaw22_AsgnShares.l2]
    rw [if_pos (by omega), if_pos (by omega), if_pos (by omega), rdb_nat, rdb_nat, wrap_small (i := (u : Int) + 1) (by omega) (by omega)]
    by_cases hw : al.getD w false = true
    · rw [if_pos hw, if_pos (by omega)]
      by_cases hu : al.getD u false = true
      · rw [if_pos hu, count_f _ _ (by omega) _ (by omega), count_f _ _ (by omega) _ (by omega)]
        rw [Option.bind_some, Option.bind_some]
        have h1 := hnear u (by omega) hw hu
        have h2 := hlen u
        rw [wrap_small (by omega) (by omega), if_neg (by omega)]
        exact hnext
      · rw [if_neg hu]; exact hnext
    · rw [if_neg hw]; exact hnext
theorem pair_step (n : Nat) (hn : n ≤ 255) (al : List Bool) (L : Nat) (hL : 0 < L) (hL1 : L ≤ 20) (l fr : List Int) (hl : l.length = n) (w : Nat) (hw : w < al.length)
    (hc : ((l.count (w : Int) : Nat) : Int) ≤ AsgnM.share n L) (k : Nat) (hk : 300 < k) : tidemilllaw22_AsgnShares.l1 (k + 1 + 1) n al true L l fr w = tidemilllaw22_AsgnShares.l2 k n al true L l fr w 0 := by
  have hcd : decide (((l.count (w : Int) : Nat) : Int) > AsgnM.share n L) = false := decide_eq_false (by omega)
  have h1 : tidemilllaw22_AsgnShares.l1 (k + 1 + 1) n al true L l fr w = tidemilllaw22_AsgnShares.j2 (k + 1) n al true L l fr w (decide (((l.count (w : Int) : Nat) : Int) > AsgnM.share n L)) := by
    simp only [tidemilllaw22_AsgnShares.l1]
    rw [if_pos (by omega), if_pos (by omega), count_f _ _ (by omega) _ (by omega), wrapn _ (by omega), share_f n L (by omega) hL (by omega) _ (by omega)]
    rw [Option.bind_some, Option.bind_some]
  rw [h1, hcd]
  simp only [tidemilllaw22_AsgnShares.j2]
  rw [if_neg (by simp)]
theorem pairs (n : Nat) (hn : n ≤ 255) (al : List Bool) (hal : al.length ≤ 20) (L : Nat) (hL : 0 < L) (hL1 : L ≤ 20) (l fr : List Int) (hl : l.length = n) (hfr : fr.length = n)
    (hcap : ∀ w, w < al.length → ((l.count (w : Int) : Nat) : Int) ≤ AsgnM.share n L)
    (hnear : ∀ w u, w < al.length → u < al.length → al.getD w false = true → al.getD u false = true → fr.count (w : Int) ≤ fr.count (u : Int) + 1) (d : Nat) :
    ∀ (k w : Nat), w + d = al.length → d * 30 + 300 < k → tidemilllaw22_AsgnShares.l1 k n al true L l fr w = some true := by
  induction d with
  | zero =>
    intro k w hd hk
    obtain ⟨k, rfl⟩ : ∃ m, k = m + 1 := ⟨k - 1, by omega⟩
    simp only [tidemilllaw22_AsgnShares.l1]; rw [if_neg (by omega)]
  | succ d ih =>
    intro k w hd hk
    obtain ⟨k, rfl⟩ : ∃ m, k = m + 1 + 1 := ⟨k - 2, by omega⟩
    rw [pair_step n hn al L hL hL1 l fr hl w (by omega) (hcap w (by omega)) k (by omega)]
    obtain ⟨K, hK⟩ : ∃ K, K = d * 30 + 300 := ⟨_, rfl⟩
    have hfin := inner n hn al hal L l fr hfr w (by omega) (fun u hu => hnear w u (by omega) hu) K (by omega) (fun k' hk' => (by have h := ih k' (w + 1) (by omega) (by omega); rw [show ((w + 1 : Nat) : Int) = (w : Int) + 1 from rfl] at h; exact h)) al.length k 0 (by omega) (by omega)
    rw [show ((0 : Nat) : Int) = 0 from rfl] at hfin
    exact hfin
theorem pairs_dead (n : Nat) (al : List Bool) (hal : al.length ≤ 20) (hdead : AsgnM.living al = 0) (l fr : List Int) (d : Nat) :
    ∀ (k w : Nat), w + d = al.length → d * 30 + 300 < k → tidemilllaw22_AsgnShares.l1 k n al true 0 l fr w = some true := by
  have hno : ∀ w, w < al.length → ¬ al.getD w false = true := fun w hw ha => by
    have : 0 < al.count true := List.count_pos_iff.2 (by rw [← ha, AsgnM.getD_mem _ _ _ hw]; exact List.getElem_mem hw)
    unfold AsgnM.living at hdead; omega
  induction d with
  | zero =>
    intro k w hd hk
    obtain ⟨k, rfl⟩ : ∃ m, k = m + 1 := ⟨k - 1, by omega⟩
    simp only [tidemilllaw22_AsgnShares.l1]; rw [if_neg (by omega)]
  | succ d ih =>
    intro k w hd hk
    obtain ⟨k, rfl⟩ : ∃ m, k = (m + 1) + 1 := ⟨k - 2, by omega⟩
    have inner : ∀ (e k u : Nat), u + e = al.length → e + d * 30 + 301 < k → tidemilllaw22_AsgnShares.l2 k n al true 0 l fr w u = some true := by
      intro e
      induction e with
      | zero =>
        intro k u he hk
        obtain ⟨k, rfl⟩ : ∃ m, k = m + 1 := ⟨k - 1, by omega⟩
        simp only [tidemilllaw22_AsgnShares.l2]
        rw [if_neg (by omega), wrap_small (by omega) (by omega)]
        exact ih k (w + 1) (by omega) (by omega)
      | succ e ihe =>
        intro k u he hk
        obtain ⟨k, rfl⟩ : ∃ m, k = m + 1 := ⟨k - 1, by omega⟩
        have hnext := ihe k (u + 1) (by omega) (by omega)
        simp only [tidemilllaw22_AsgnShares.l2]
        rw [if_pos (by omega), if_pos (by omega), if_pos (by omega), rdb_nat, wrap_small (i := (u : Int) + 1) (by omega) (by omega), if_neg (hno w (by omega))]
        exact hnext
    simp only [tidemilllaw22_AsgnShares.l1]
    rw [if_pos (by omega), if_neg (by omega)]
    simp only [tidemilllaw22_AsgnShares.j2]
    rw [if_neg (by simp)]
    exact inner al.length k 0 (by omega) (by omega)
theorem each (n : Nat) (hn : n ≤ 255) (al : List Bool) (hal : al.length ≤ 20) (l : List Int) (hl : l.length = n) (L : Nat)
    (hok : L ≠ 0 → ∀ i, i < n → 0 ≤ l.getD i 0 ∧ l.getD i 0 < al.length ∧ al.getD (l.getD i 0).toNat false = true) (hno : L = 0 → ∀ i, i < n → l.getD i 0 = -1)
    (hrest : ∀ k, 1000 < k → tidemilllaw22_AsgnShares.l1 k n al true L l (AsgnM.f n al []) 0 = some true) (d : Nat) : ∀ (k i : Nat), i + d = n → d + 1010 < k → tidemilllaw22_AsgnShares.l0 k n al true L l i = some true := by
  induction d with
  | zero =>
    intro k i hd hk
    obtain ⟨k, rfl⟩ : ∃ m, k = m + 1 := ⟨k - 1, by omega⟩
    simp only [tidemilllaw22_AsgnShares.l0]
    rw [if_neg (by omega), wrapn _ (by omega), asg_f _ _ _ (by omega)]
    exact hrest k (by omega)
  | succ d ih =>
    intro k i hd hk
    obtain ⟨k, rfl⟩ : ∃ m, k = m + 1 := ⟨k - 1, by omega⟩
    have hnext := ih k (i + 1) (by omega) (by omega)
    simp only [tidemilllaw22_AsgnShares.l0]
    rw [if_pos (by omega), rd_nat, wrap_small (i := (i : Int) + 1) (by omega) (by omega)]
    by_cases hL : L = 0
    · rw [if_pos (by omega), if_pos (by omega), if_pos (hno hL i (by omega)), if_neg (by omega)]; exact hnext
    · obtain ⟨o0, o1, o2⟩ := hok hL i (by omega)
      have e : rdOf false al (l.getD i 0) = true := o2
      rw [if_neg (by omega), if_pos (by omega), if_pos (by omega), if_neg (by omega), if_neg (by omega), if_pos o0, if_pos o1, if_pos e]
      exact hnext
theorem law (a0 : Int) (l : List Bool) (prev : List Int) (h0 : 0 ≤ a0) (h1 : a0 ≤ 255) : ∃ k, tidemilllaw22_AsgnShares.f k a0 l prev = some true := by
  obtain ⟨n, rfl⟩ := Int.eq_ofNat_of_zero_le h0
  have hal : (l.take 20).length ≤ 20 := List.length_take_le _ _
  have hL20 : AsgnM.living (l.take 20) ≤ 20 := Nat.le_trans List.count_le_length hal
  refine ⟨3000, ?_⟩
  unfold tidemilllaw22_AsgnShares.f
  have e1 : AsgnM.clampT (n : Int) = n := AsgnM.clampT_nat n (by omega)
  rw [shown_f _ (by omega), few_f]
  simp only [Option.bind_some]
  generalize l.take 20 = al at *
  rw [living_f _ (by omega) _ (by omega), wrapn _ (by omega), asg_f _ _ _ (by omega)]
  simp only [Option.bind_some]
  rw [if_pos (by rw [AsgnM.f_length, e1])]
  have hlen : (AsgnM.f (n : Int) al prev).length = n := by rw [AsgnM.f_length, e1]
  have hlen2 : (AsgnM.f (n : Int) al []).length = n := by rw [AsgnM.f_length, e1]
  by_cases hL : AsgnM.living al = 0
  · refine each n (by omega) al hal _ hlen _ (fun h => absurd hL h) (fun _ i hi => ?_) (fun k hk => ?_) n _ 0 (by omega) (by omega)
    · rw [AsgnM.f_dead _ _ _ hL, e1, AsgnM.getD_mem _ _ _ (by simpa using hi)]; simp
    · rw [hL]; exact pairs_dead n al hal hL _ _ al.length k 0 (by omega) (by omega)
  · have ht := AsgnM.f_told n al prev hL
    rw [e1] at ht
    refine each n (by omega) al hal _ hlen _ (fun _ i hi => ht.ok i hi) (fun h => absurd h hL) (fun k hk => ?_) n _ 0 (by omega) (by omega)
    refine pairs n (by omega) al hal _ (Nat.pos_of_ne_zero hL) hL20 _ _ hlen hlen2 ht.cap (fun w u hw hu ha hb => ?_) al.length k 0 (by omega) (by omega)
    rw [AsgnM.f_free _ _ hL, e1]
    exact AsgnM.free_near al hL n w u hw hu ha hb

end Go.Proofs.Ytjngkndiokfibaa.AsgnPureShares

/- The plain law of AsgnGives. -/
import Derived.Test.YtjngkndiokfibaaPAsgnGivesx
import Derived.Test.YtjngkndiokfibaaAsgnLaws
import Derived.Test.YtjngkndiokfibaaOpen
namespace Go.Proofs.Ytjngkndiokfibaa.AsgnPureGives
open Go.RowKit Go.Proofs.Ytjngkndiokfibaa.PAsgnGives Go.Proofs.YtjngkndiokfibaaW.PrintWords Go.Proofs.YtjngkndiokfibaaW.PrintLast

theorem wrap_small {i : Int} (h0 : 0 ≤ i) (h : i ≤ 9223372036854775807) : wrap64 i = i := by unfold wrap64; omega
theorem same_self (l : List Int) (hl : l.length ≤ 100000) (d : Nat) : ∀ (k : Nat) (i : Int), 0 ≤ i → (l.length : Int) - i = d → d < k → tidemillref01_Same.l0 k l l i = some true := by
  induction d with
  | zero =>
    intro k i h0 hd hk
    obtain ⟨k, rfl⟩ : ∃ m, k = m + 1 := ⟨k - 1, by omega⟩
    simp only [tidemillref01_Same.l0]; rw [if_neg (by omega)]
  | succ d ih =>
    intro k i h0 hd hk
    obtain ⟨k, rfl⟩ : ∃ m, k = m + 1 := ⟨k - 1, by omega⟩
    simp only [tidemillref01_Same.l0, if_true]
    rw [if_pos (by omega), if_pos h0, if_pos (by omega), wrap_small (by omega) (by omega)]
    exact ih k (i + 1) (by omega) (by omega) (by omega)
theorem same_f (l : List Int) (hl : l.length ≤ 100000) (k : Nat) (hk : l.length < k) : tidemillref01_Same.f k l l = some true := by
  unfold tidemillref01_Same.f
  rw [if_pos rfl]
  exact same_self l hl l.length k 0 (by omega) (by omega) hk
theorem few_f (l : List Bool) : tidemilllaw22_few.f l = some (l.take 20) := by
  unfold tidemilllaw22_few.f
  by_cases h : (l.length : Int) > 20
  · rw [if_pos h, if_pos (by omega)]
  · rw [if_neg h, List.take_of_length_le (by omega)]
theorem asg_f (t : Int) (l : List Bool) (p : List Int) (h : l.length ≤ 1000000) : asgn_Assign.f t l p = some (AsgnM.f t l p) := by
  unfold asgn_Assign.f; rw [if_pos h]
theorem shown_f (k : Nat) (hk : 20 ≤ k) : tidemilllaw22_shown.f k = some true := at_rounds tidemilllaw22_shown.mono (k := 20) hk (by decide +kernel)
theorem count_loop (l : List Int) (a : Int) (hl : l.length ≤ 100000) (d : Nat) : ∀ (k i : Nat), i + d = l.length → d < k → tidemillref22_Count.l0 k l a (((l.take i).count a : Nat) : Int) i = some ((l.count a : Nat) : Int) := by
  induction d with
  | zero =>
    intro k i hd hk
    obtain ⟨k, rfl⟩ : ∃ m, k = m + 1 := ⟨k - 1, by omega⟩
    simp only [tidemillref22_Count.l0]; rw [if_neg (by omega), List.take_of_length_le (by omega)]
  | succ d ih =>
    intro k i hd hk
    obtain ⟨k, rfl⟩ : ∃ m, k = m + 1 := ⟨k - 1, by omega⟩
    have hi : i < l.length := by omega
    have hc : (l.take i).count a ≤ i := Nat.le_trans List.count_le_length (List.length_take_le _ _)
    have hs : (l.take (i + 1)).count a = (l.take i).count a + if l[i] = a then 1 else 0 := by
      rw [List.take_succ_eq_append_getElem hi, List.count_append, List.count_singleton]; simp
    have hr : rd l (i : Int) = l[i] := by simp [rd, List.getElem?_eq_getElem hi]
    have := ih k (i + 1) (by omega) (by omega)
    simp only [tidemillref22_Count.l0, hr]
    rw [if_pos (by omega), if_pos (by omega), wrap_small (i := (i : Int) + 1) (by omega) (by omega)]
    by_cases e : l[i] = a
    · rw [if_pos e, wrap_small (by omega) (by omega)]
      rw [hs, if_pos e] at this
      exact this
    · rw [if_neg e]
      rw [hs, if_neg e] at this
      exact this
theorem count_f (l : List Int) (a : Int) (hl : l.length ≤ 100000) (k : Nat) (hk : l.length < k) : tidemillref22_Count.f k l a = some ((l.count a : Nat) : Int) := count_loop l a hl l.length k 0 (by omega) hk
theorem living_loop (l : List Bool) (hl : l.length ≤ 100000) (d : Nat) : ∀ (k i : Nat), i + d = l.length → d < k → tidemillref22_Living.l0 k l (((l.take i).count true : Nat) : Int) i = some ((AsgnM.living l : Nat) : Int) := by
  induction d with
  | zero =>
    intro k i hd hk
    obtain ⟨k, rfl⟩ : ∃ m, k = m + 1 := ⟨k - 1, by omega⟩
    simp only [tidemillref22_Living.l0]; rw [if_neg (by omega), List.take_of_length_le (by omega)]; rfl
  | succ d ih =>
    intro k i hd hk
    obtain ⟨k, rfl⟩ : ∃ m, k = m + 1 := ⟨k - 1, by omega⟩
    have hi : i < l.length := by omega
    have hc : (l.take i).count true ≤ i := Nat.le_trans List.count_le_length (List.length_take_le _ _)
    have hs : (l.take (i + 1)).count true = (l.take i).count true + if l[i] = true then 1 else 0 := by
      rw [List.take_succ_eq_append_getElem hi, List.count_append, List.count_singleton]; simp
    have hr : rdOf false l (i : Int) = l[i] := by simp [rdOf, List.getElem?_eq_getElem hi]
    have := ih k (i + 1) (by omega) (by omega)
    simp only [tidemillref22_Living.l0, hr]
    rw [if_pos (by omega), if_pos (by omega), wrap_small (i := (i : Int) + 1) (by omega) (by omega)]
    by_cases e : l[i] = true
    · rw [if_pos e, wrap_small (by omega) (by omega)]
      rw [hs, if_pos e] at this
      exact this
    · rw [if_neg e]
      rw [hs, if_neg e] at this
      exact this
theorem living_f (l : List Bool) (hl : l.length ≤ 100000) (k : Nat) (hk : l.length < k) : tidemillref22_Living.f k l = some ((AsgnM.living l : Nat) : Int) := living_loop l hl l.length k 0 (by omega) hk
theorem share_loop (T L : Nat) (hT : T ≤ 1000) (hL : 0 < L) (hL1 : L ≤ 1000) (d : Nat) : ∀ (k i : Nat), i + d = (T + L - 1) / L → d < k → tidemillref22_Share.l0 k T L i = some (AsgnM.share T L) := by
  have h1 := Nat.div_add_mod (T + L - 1) L
  have h2 := Nat.mod_lt (T + L - 1) hL
  have hq : (T + L - 1) / L ≤ T + L - 1 := Nat.div_le_self _ _
  induction d with
  | zero =>
    intro k i hd hk
    obtain ⟨k, rfl⟩ : ∃ m, k = m + 1 := ⟨k - 1, by omega⟩
    obtain rfl : i = (T + L - 1) / L := by omega
    have h3 : T ≤ (T + L - 1) / L * L := by rw [Nat.mul_comm]; omega
    have h4 : (T + L - 1) / L * L ≤ T + L - 1 := Nat.div_mul_le_self _ _
    have h5 : (((T + L - 1) / L : Nat) : Int) * (L : Int) = (((T + L - 1) / L * L : Nat) : Int) := by rw [Int.natCast_mul]
    simp only [tidemillref22_Share.l0]
    rw [h5, wrap_small (by omega) (by omega), if_neg (by omega)]; rfl
  | succ d ih =>
    intro k i hd hk
    obtain ⟨k, rfl⟩ : ∃ m, k = m + 1 := ⟨k - 1, by omega⟩
    have h3 : i * L + L ≤ (T + L - 1) / L * L := by rw [← Nat.succ_mul]; exact Nat.mul_le_mul_right _ (by omega)
    have h4 : (T + L - 1) / L * L ≤ T + L - 1 := Nat.div_mul_le_self _ _
    have h5 : (i : Int) * (L : Int) = ((i * L : Nat) : Int) := by rw [Int.natCast_mul]
    simp only [tidemillref22_Share.l0]
    rw [h5, wrap_small (by omega) (by omega), if_pos (by omega), wrap_small (by omega) (by omega)]
    exact ih k (i + 1) (by omega) (by omega)
theorem share_f (T L : Nat) (hT : T ≤ 1000) (hL : 0 < L) (hL1 : L ≤ 1000) (k : Nat) (hk : T + L < k) : tidemillref22_Share.f k T L = some (AsgnM.share T L) := by
  have hq : (T + L - 1) / L ≤ T + L - 1 := Nat.div_le_self _ _
  exact share_loop T L hT hL hL1 ((T + L - 1) / L) k 0 (by omega) (by omega)

theorem rd_nat (l : List Int) (i : Nat) : rd l (i : Int) = l.getD i 0 := by simp [rd]
theorem rdb_nat (l : List Bool) (i : Nat) : rdOf false l (i : Int) = l.getD i false := by simp [rdOf]
theorem cast_succ (i : Nat) : ((i + 1 : Nat) : Int) = (i : Int) + 1 := rfl
section
variable {al : List Bool} {T : Nat}
/-- The inner loop finds who has least. -/
theorem least_loop (hT : T ≤ 300) (hal : al.length ≤ 20) {s : List Int × List Int} (h : AsgnM.Inv al T s) (i : Nat) (hi : i < T) (hf : s.1.getD i 0 = -1) (hlive : AsgnM.living al ≠ 0) (C : Nat) (hC : 400 ≤ C) (R : List Int)
    (hnext : ∀ k, C < k → tidemillref22_Assign.l2 k T al (s.1.set i (AsgnM.best al s.2 al.length)) ((i : Int) + 1) = some R) (e : Nat) :
    ∀ (k w : Nat), w + e = al.length → 2 * e + C + 2 < k → tidemillref22_Assign.l3 k T al s.1 i (AsgnM.best al s.2 w) w = some R := by
  induction e with
  | zero =>
    intro k w he hk
    obtain ⟨k, rfl⟩ : ∃ m, k = m + 1 := ⟨k - 1, by omega⟩
    obtain ⟨k, rfl⟩ : ∃ m, k = m + 1 := ⟨k - 1, by omega⟩
    obtain rfl : w = al.length := by omega
    obtain ⟨b0, b1, _⟩ := AsgnM.best_ok s.2 hlive
    have hlo := h.lo
    simp only [tidemillref22_Assign.l3, tidemillref22_Assign.j6]
    rw [if_neg (by omega), if_neg (by simp), if_pos (by omega), if_pos (by omega), if_pos (by omega), Int.toNat_natCast, wrap_small (by omega) (by omega)]
    exact hnext k (by omega)
  | succ e ih =>
    intro k w he hk
    obtain ⟨k, rfl⟩ : ∃ m, k = m + 1 := ⟨k - 1, by omega⟩
    obtain ⟨k, rfl⟩ : ∃ m, k = m + 1 := ⟨k - 1, by omega⟩
    have hlo := h.lo
    have hg := ih k (w + 1) (by omega) (by omega)
    rw [AsgnM.best_succ, cast_succ] at hg
    have hbr := AsgnM.best_range al s.2 w
    have hhw := h.has w (by omega)
    simp only [tidemillref22_Assign.l3, tidemillref22_Assign.j6]
    rw [if_pos (by omega), if_pos (by omega), if_pos (by omega), rd_nat, hf, if_pos (by decide), if_pos (by omega), if_pos (by omega), rdb_nat, wrap_small (i := (w : Int) + 1) (by omega) (by omega)]
    generalize AsgnM.best al s.2 w = b at *
    unfold AsgnM.bstep at hg
    by_cases ha : al.getD w false = true
    · rw [if_pos ha]
      rcases hbr with rfl | ⟨b0, b1, _⟩
      · rw [if_pos (by omega)]
        rw [if_pos (by rw [ha]; rfl)] at hg
        exact hg
      · rw [if_neg (by omega), count_f _ _ (by omega) _ (by omega), Option.bind_some, count_f _ _ (by omega) _ (by omega), Option.bind_some]
        have hhb := h.has b.toNat (by omega)
        rw [Int.toNat_of_nonneg b0] at hhb
        have hb1 : (b == -1) = false := beq_eq_false_iff_ne.2 (by omega)
        by_cases hc : ((s.1.count (w : Int) : Nat) : Int) < ((s.1.count b : Nat) : Int)
        · rw [if_pos hc]
          rw [if_pos (by rw [ha, hb1, hhw, hhb, decide_eq_true hc]; rfl)] at hg
          exact hg
        · rw [if_neg hc]
          rw [if_neg (by rw [ha, hb1, hhw, hhb, decide_eq_false hc]; simp)] at hg
          exact hg
    · rw [if_neg ha]
      rw [if_neg (by rw [Bool.eq_false_iff.2 ha]; simp)] at hg
      exact hg
/-- The outer loop is phase two. -/
theorem two_loop (hT : T ≤ 300) (hal : al.length ≤ 20) (hlive : AsgnM.living al ≠ 0) (sh : Int) (hsh : (T : Int) ≤ sh * (AsgnM.living al : Nat)) {s : List Int × List Int} (h : AsgnM.Inv al T s) (hcap : ∀ w, w < al.length → s.2.getD w 0 ≤ sh) (d : Nat) :
    ∀ (k i : Nat), i + d = T → d * 60 + 500 < k → tidemillref22_Assign.l2 k T al (AsgnM.ph2 al s i).1 i = some (AsgnM.ph2 al s T).1 := by
  induction d with
  | zero =>
    intro k i hd hk
    obtain ⟨k, rfl⟩ : ∃ m, k = m + 1 := ⟨k - 1, by omega⟩
    obtain rfl : i = T := by omega
    simp only [tidemillref22_Assign.l2]; rw [if_neg (by omega)]
  | succ d ih =>
    intro k i hd hk
    obtain ⟨k, rfl⟩ : ∃ m, k = m + 1 := ⟨k - 1, by omega⟩
    obtain ⟨hi, _, _, _⟩ := AsgnM.ph2_inv al T sh hsh hlive h hcap i (by omega)
    have hnext := fun k hk => ih k (i + 1) (by omega) hk
    have hlo := hi.lo
    simp only [AsgnM.ph2_succ, cast_succ] at hnext
    generalize AsgnM.ph2 al s i = s' at *
    have h1 : tidemillref22_Assign.l2 (k + 1) T al s'.1 i = tidemillref22_Assign.l3 k T al s'.1 i (-1) 0 := by
      simp only [tidemillref22_Assign.l2]; rw [if_pos (by omega)]
    rw [h1]
    by_cases hf : s'.1.getD i 0 = -1
    · obtain ⟨b0, _, _⟩ := AsgnM.best_ok s'.2 hlive
      obtain ⟨C, hC⟩ : ∃ C, C = d * 60 + 500 := ⟨_, rfl⟩
      refine least_loop hT hal hi i (by omega) hf hlive C (by omega) _ (fun k hk => ?_) al.length k 0 (by omega) (by omega)
      have := hnext k (by omega)
      unfold AsgnM.step2 at this
      rw [if_pos hf] at this
      simp only [AsgnM.give] at this
      rw [Int.toNat_of_nonneg b0] at this
      exact this
    · have hpos : 0 ≤ s'.1.getD i 0 := ((hi.ok i (by omega)).resolve_left hf).1
      obtain ⟨k, rfl⟩ : ∃ m, k = m + 1 := ⟨k - 1, by omega⟩
      obtain ⟨k, rfl⟩ : ∃ m, k = m + 1 := ⟨k - 1, by omega⟩
      have hn := hnext k (by omega)
      unfold AsgnM.step2 at hn
      rw [if_neg hf] at hn
      have h2 : tidemillref22_Assign.j6 (k + 1) T al s'.1 i (-1) 0 false = some (AsgnM.ph2 al s T).1 := by
        simp only [tidemillref22_Assign.j6]
        rw [if_neg (by simp), if_neg (by decide), wrap_small (by omega) (by omega)]
        exact hn
      simp only [tidemillref22_Assign.l3]
      by_cases hz : (0 : Int) < (al.length : Int)
      · rw [if_pos hz, if_pos (by omega), if_pos (by omega), rd_nat, decide_eq_false (by omega)]; exact h2
      · rw [if_neg hz]; exact h2
/-- The first loop is phase one. -/
theorem one_loop (hT : T ≤ 300) (_hal : al.length ≤ 20) (sh : Int) (hsh : 0 ≤ sh) (prev : List Int) (hp : prev.length ≤ 20000000000000) (M : Nat) (hM : M = min T prev.length) (C : Nat) (hC : 400 ≤ C) (R : List Int)
    (hnext : ∀ k, C < k → tidemillref22_Assign.l2 k T al (AsgnM.ph1 al sh prev (AsgnM.start T al.length) M).1 0 = some R) (d : Nat) :
    ∀ (k i : Nat), i + d = M → 2 * d + C + 3 < k → tidemillref22_Assign.l1 k T al prev (AsgnM.ph1 al sh prev (AsgnM.start T al.length) i).1 sh i = some R := by
  induction d with
  | zero =>
    intro k i hd hk
    obtain ⟨k, rfl⟩ : ∃ m, k = m + 1 := ⟨k - 1, by omega⟩
    obtain ⟨k, rfl⟩ : ∃ m, k = m + 1 := ⟨k - 1, by omega⟩
    obtain rfl : i = M := by omega
    have h2 : ∀ (x : Int), tidemillref22_Assign.j3 (k + 1) T al prev (AsgnM.ph1 al sh prev (AsgnM.start T al.length) i).1 sh x false = some R := fun x => by
      simp only [tidemillref22_Assign.j3]
      rw [if_neg (by simp)]
      exact hnext k (by omega)
    simp only [tidemillref22_Assign.l1]
    by_cases hz : (i : Int) < (T : Int)
    · rw [if_pos hz, decide_eq_false (by omega)]; exact h2 _
    · rw [if_neg hz]; exact h2 _
  | succ d ih =>
    intro k i hd hk
    obtain ⟨k, rfl⟩ : ∃ m, k = m + 1 := ⟨k - 1, by omega⟩
    obtain ⟨k, rfl⟩ : ∃ m, k = m + 1 := ⟨k - 1, by omega⟩
    have hn := ih k (i + 1) (by omega) (by omega)
    rw [AsgnM.ph1_succ, cast_succ] at hn
    obtain ⟨hi, _, _⟩ := AsgnM.ph1_inv al sh prev T hsh i (by omega)
    have hlo := hi.lo
    generalize AsgnM.ph1 al sh prev (AsgnM.start T al.length) i = s' at *
    unfold AsgnM.step1 at hn
    simp only [tidemillref22_Assign.l1]
    rw [if_pos (by omega), decide_eq_true (by omega)]
    simp only [tidemillref22_Assign.j3]
    rw [if_pos trivial, if_pos (by omega), if_pos (by omega), rd_nat, wrap_small (i := (i : Int) + 1) (by omega) (by omega)]
    generalize prev.getD i 0 = v at *
    by_cases q0 : 0 ≤ v
    · rw [if_pos (by omega)]
      by_cases q1 : v < (al.length : Int)
      · rw [if_pos q1, if_pos q0]
        have hr : rdOf false al v = al.getD v.toNat false := rfl
        rw [hr]
        by_cases q2 : al.getD v.toNat false = true
        · rw [if_pos q2, count_f _ _ (by omega) _ (by omega), Option.bind_some]
          have hh := hi.has v.toNat (by omega)
          rw [Int.toNat_of_nonneg q0] at hh
          by_cases q3 : ((s'.1.count v : Nat) : Int) < sh
          · rw [if_pos (AsgnM.ok1_mk q0 q1 q2 (by rw [hh]; exact q3))] at hn
            simp only [AsgnM.give] at hn
            rw [Int.toNat_of_nonneg q0] at hn
            rw [if_pos q3, if_pos (by omega), Int.toNat_natCast]
            exact hn
          · rw [if_neg (fun hc => q3 (by have := (AsgnM.ok1_some hc).2.2.2; rw [hh] at this; exact this))] at hn
            rw [if_neg q3]; exact hn
        · rw [if_neg (fun hc => q2 (AsgnM.ok1_some hc).2.2.1)] at hn
          rw [if_neg q2]; exact hn
      · rw [if_neg (fun hc => q1 (AsgnM.ok1_some hc).2.1)] at hn
        rw [if_neg q1]; exact hn
    · rw [if_neg (fun hc => q0 (AsgnM.ok1_some hc).1)] at hn
      rw [if_neg (by omega)]; exact hn
end
theorem fill_loop (T : Nat) (hT : T ≤ 300) (al : List Bool) (prev : List Int) (C : Nat) (R : Option (List Int)) (hnext : ∀ k, C < k → tidemillref22_Assign.l0 k T al prev (List.replicate T (-1)) T = R) (d : Nat) :
    ∀ (k i : Nat), i + d = T → d + C < k → tidemillref22_Assign.l0 k T al prev (List.replicate i (-1)) i = R := by
  induction d with
  | zero =>
    intro k i hd hk
    obtain rfl : i = T := by omega
    exact hnext k (by omega)
  | succ d ih =>
    intro k i hd hk
    obtain ⟨k, rfl⟩ : ∃ m, k = m + 1 := ⟨k - 1, by omega⟩
    have hn := ih k (i + 1) (by omega) (by omega)
    rw [cast_succ, List.replicate_succ'] at hn
    simp only [tidemillref22_Assign.l0]
    rw [if_pos (by omega), if_pos (by rw [List.length_replicate]; omega), wrap_small (by omega) (by omega)]
    exact hn
theorem ref_f (T : Nat) (hT : T ≤ 300) (al : List Bool) (hal : al.length ≤ 20) (prev : List Int) (hp : prev.length ≤ 20000000000000) (k : Nat) (hk : 30000 < k) : tidemillref22_Assign.f k T al prev = some (AsgnM.f T al prev) := by
  have e1 : AsgnM.clampT (T : Int) = T := AsgnM.clampT_nat T (by omega)
  have hL20 : AsgnM.living al ≤ 20 := Nat.le_trans List.count_le_length hal
  have h0 : ∀ k, 25000 < k → tidemillref22_Assign.l0 k T al prev (List.replicate T (-1)) T = some (AsgnM.f T al prev) := by
    intro k hk
    obtain ⟨k, rfl⟩ : ∃ m, k = m + 1 := ⟨k - 1, by omega⟩
    simp only [tidemillref22_Assign.l0]
    rw [if_neg (by omega), living_f _ (by omega) _ (by omega), Option.bind_some]
    by_cases hL : AsgnM.living al = 0
    · rw [if_pos (by omega), AsgnM.f_dead _ _ _ hL, e1]
    · rw [if_neg (by omega), share_f T _ (by omega) (Nat.pos_of_ne_zero hL) (by omega) _ (by omega), Option.bind_some]
      obtain ⟨M, hM⟩ : ∃ M, M = min T prev.length := ⟨_, rfl⟩
      have hf : AsgnM.f T al prev = (AsgnM.ph2 al (AsgnM.ph1 al (AsgnM.share T (AsgnM.living al)) prev (AsgnM.start T al.length) M) T).1 := by
        unfold AsgnM.f; rw [if_neg hL, e1, ← hM]
      rw [hf]
      obtain ⟨g1, _, g3⟩ := AsgnM.ph1_inv al (AsgnM.share T (AsgnM.living al)) prev T (AsgnM.share_nonneg _ _) M (by omega)
      obtain ⟨C, hC⟩ : ∃ C, C = 20000 := ⟨_, rfl⟩
      have h2 := one_loop hT hal (AsgnM.share T (AsgnM.living al)) (AsgnM.share_nonneg _ _) prev hp M hM C (by omega) _
        (fun k hk => two_loop hT hal hL _ (AsgnM.share_enough T (AsgnM.living al) (Nat.pos_of_ne_zero hL)) g1 g3 T k 0 (by omega) (by omega)) M k 0 (by omega) (by omega)
      exact h2
  unfold tidemillref22_Assign.f
  rw [if_neg (by omega)]
  obtain ⟨k, rfl⟩ : ∃ m, k = m + 1 := ⟨k - 1, by omega⟩
  obtain ⟨C, hC⟩ : ∃ C, C = 25000 := ⟨_, rfl⟩
  rw [← hC] at h0
  simp only [tidemillref22_Assign.j0]
  exact fill_loop T hT al prev C _ h0 T k 0 (by omega) (by omega)
theorem ref_low (t : Int) (ht : t < 0) (al : List Bool) (hal : al.length ≤ 20) (prev : List Int) (k : Nat) (hk : 30000 < k) : tidemillref22_Assign.f k t al prev = some [] := by
  unfold tidemillref22_Assign.f
  rw [if_neg (by omega)]
  obtain ⟨k, rfl⟩ : ∃ m, k = m + 1 := ⟨k - 1, by omega⟩
  obtain ⟨k, rfl⟩ : ∃ m, k = m + 1 := ⟨k - 1, by omega⟩
  obtain ⟨k, rfl⟩ : ∃ m, k = m + 1 := ⟨k - 1, by omega⟩
  obtain ⟨k, rfl⟩ : ∃ m, k = m + 1 := ⟨k - 1, by omega⟩
  obtain ⟨k, rfl⟩ : ∃ m, k = m + 1 := ⟨k - 1, by omega⟩
  simp only [tidemillref22_Assign.j0, tidemillref22_Assign.l0]
  rw [if_neg (by omega), living_f _ (by omega) _ (by omega), Option.bind_some]
  by_cases hL : AsgnM.living al = 0
  · rw [if_pos (by omega)]
  · rw [if_neg (by omega)]
    have hs : tidemillref22_Share.f (k + 1 + 1 + 1) t ((AsgnM.living al : Nat) : Int) = some 0 := by
      unfold tidemillref22_Share.f
      simp only [tidemillref22_Share.l0]
      rw [Int.zero_mul, wrap_small (by omega) (by omega), if_neg (by omega)]
    rw [hs, Option.bind_some]
    simp only [tidemillref22_Assign.l1]
    rw [if_neg (by omega)]
    simp only [tidemillref22_Assign.j3]
    rw [if_neg (by simp)]
    simp only [tidemillref22_Assign.l2]
    rw [if_neg (by omega)]
theorem law (a0 : Int) (l : List Bool) (prev : List Int) (h0 : -32768 ≤ a0) (h1 : a0 ≤ 32767) (hp : prev.length * 8 ≤ 140737488351232) : ∃ k, tidemilllaw22_AsgnGives.f k a0 l prev = some true := by
  have hal : (l.take 20).length ≤ 20 := List.length_take_le _ _
  have hw : wrap64 a0 = a0 := by unfold wrap64; omega
  have hb : -200 < Int.tmod a0 200 ∧ Int.tmod a0 200 < 200 := by
    constructor
    · have := Int.lt_tmod_of_pos a0 (show (0 : Int) < 200 by omega); omega
    · exact Int.tmod_lt_of_pos a0 (by omega)
  obtain ⟨K, hK⟩ : ∃ K, K = 30001 := ⟨_, rfl⟩
  refine ⟨K, ?_⟩
  unfold tidemilllaw22_AsgnGives.f
  rw [shown_f _ (by omega), Option.bind_some, few_f, Option.bind_some, if_pos rfl, hw]
  generalize l.take 20 = al at *
  generalize Int.tmod a0 200 = t at *
  rw [asg_f _ _ _ (by omega), Option.bind_some]
  by_cases ht : t < 0
  · have e : AsgnM.f t al prev = [] := by
      apply List.eq_nil_of_length_eq_zero
      rw [AsgnM.f_length]; unfold AsgnM.clampT; omega
    rw [ref_low t ht al hal prev K (by omega), Option.bind_some, e, same_f _ (by simp) _ (by simp; omega)]; rfl
  · obtain ⟨T, rfl⟩ := Int.eq_ofNat_of_zero_le (by omega : 0 ≤ t)
    have e1 : AsgnM.clampT (T : Int) = T := AsgnM.clampT_nat T (by omega)
    rw [ref_f T (by omega) al hal prev (by omega) K (by omega), Option.bind_some, same_f _ (by rw [AsgnM.f_length, e1]; omega) _ (by rw [AsgnM.f_length, e1]; omega)]; rfl

end Go.Proofs.Ytjngkndiokfibaa.AsgnPureGives

/- The plain law of AsgnRises. -/
import Derived.Test.YtjngkndiokfibaaPAsgnRisesx
import Derived.Test.YtjngkndiokfibaaAsgnLaws
import Derived.Test.YtjngkndiokfibaaOpen
namespace Go.Proofs.Ytjngkndiokfibaa.AsgnPureRises
open Go.RowKit Go.Proofs.Ytjngkndiokfibaa.PAsgnRises Go.Proofs.YtjngkndiokfibaaW.PrintWords Go.Proofs.YtjngkndiokfibaaW.PrintLast

theorem wrap_small {i : Int} (h0 : 0 ≤ i) (h : i ≤ 9223372036854775807) : wrap64 i = i := by unfold wrap64; omega
theorem same_self (l : List Int) (hl : l.length ≤ 100000) (d : Nat) : ∀ (k : Nat) (i : Int), 0 ≤ i → (l.length : Int) - i = d → d < k → tidemillref01_Same.l0 k l l i = some true := by
  induction d with
  | zero =>
    intro k i h0 hd hk
    obtain ⟨k, rfl⟩ : ∃ m, k = m + 1 := ⟨k - 1, by omega⟩
    simp only [tidemillref01_Same.l0]; rw [if_neg (by omega)]
  | succ d ih =>
    intro k i h0 hd hk
    obtain ⟨k, rfl⟩ : ∃ m, k = m + 1 := ⟨k - 1, by omega⟩
    simp only [tidemillref01_Same.l0, if_true]
    rw [if_pos (by omega), if_pos h0, if_pos (by omega), wrap_small (by omega) (by omega)]
    exact ih k (i + 1) (by omega) (by omega) (by omega)
theorem same_f (l : List Int) (hl : l.length ≤ 100000) (k : Nat) (hk : l.length < k) : tidemillref01_Same.f k l l = some true := by
  unfold tidemillref01_Same.f
  rw [if_pos rfl]
  exact same_self l hl l.length k 0 (by omega) (by omega) hk
theorem few_f (l : List Bool) : tidemilllaw22_few.f l = some (l.take 20) := by
  unfold tidemilllaw22_few.f
  by_cases h : (l.length : Int) > 20
  · rw [if_pos h, if_pos (by omega)]
  · rw [if_neg h, List.take_of_length_le (by omega)]
theorem asg_f (t : Int) (l : List Bool) (p : List Int) (h : l.length ≤ 1000000) : asgn_Assign.f t l p = some (AsgnM.f t l p) := by
  unfold asgn_Assign.f; rw [if_pos h]
theorem shown_f (k : Nat) (hk : 20 ≤ k) : tidemilllaw22_shown.f k = some true := at_rounds tidemilllaw22_shown.mono (k := 20) hk (by decide +kernel)

theorem law (a0 : Int) (l : List Bool) (h0 : 0 ≤ a0) (h1 : a0 ≤ 255) : ∃ k, tidemilllaw22_AsgnRises.f k a0 l = some true := by
  obtain ⟨n, rfl⟩ := Int.eq_ofNat_of_zero_le h0
  have hf : (l.take 20).length ≤ 1000000 := Nat.le_trans (List.length_take_le _ _) (by omega)
  refine ⟨2000, ?_⟩
  unfold tidemilllaw22_AsgnRises.f
  have e1 : AsgnM.clampT (n : Int) = n := AsgnM.clampT_nat n (by omega)
  have e2 : AsgnM.clampT ((n : Int) + 1) = n + 1 := AsgnM.clampT_nat (n + 1) (by omega)
  rw [shown_f _ (by omega), few_f, wrap_small (by omega) (by omega), wrap_small (by omega) (by omega)]
  simp only [Option.bind_some]
  rw [asg_f _ _ _ hf, asg_f _ _ _ hf]
  simp only [Option.bind_some, AsgnM.f_length, e1, e2, if_true]
  rw [if_pos (by omega), if_pos (by omega), if_pos (by omega)]
  have ht : (AsgnM.f ((n : Int) + 1) (l.take 20) []).take ((n : Int)).toNat = AsgnM.f (n : Int) (l.take 20) [] := by
    rw [Int.toNat_natCast]
    by_cases h : AsgnM.living (l.take 20) = 0
    · rw [AsgnM.f_dead _ _ _ h, AsgnM.f_dead _ _ _ h, e1, e2, List.take_replicate, show min n (n + 1) = n from by omega]
    · rw [AsgnM.f_free _ _ h, AsgnM.f_free _ _ h, e1, e2, AsgnM.asg_take]
  rw [ht, same_f _ (by rw [AsgnM.f_length, e1]; omega) _ (by rw [AsgnM.f_length, e1]; omega)]
  rfl

end Go.Proofs.Ytjngkndiokfibaa.AsgnPureRises

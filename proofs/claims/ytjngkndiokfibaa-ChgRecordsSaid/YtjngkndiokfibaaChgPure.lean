import Derived.Test.YtjngkndiokfibaaPChgRecordsx3
import Derived.Test.YtjngkndiokfibaaPChgRecordsx4
import Derived.Test.YtjngkndiokfibaaQChgRecordsx6
/- The plain law of ChgRecords: over numbers and lists alone. -/
namespace Go.Proofs.Ytjngkndiokfibaa.ChgPure
open Go.RowKit Go.Proofs.YtjngkndiokfibaaW.PrintWords Go.Proofs.Ytjngkndiokfibaa.PChgRecords

theorem wrap_small {i : Int} (h0 : 0 ≤ i) (h : i ≤ 9223372036854775807) : wrap64 i = i := by unfold wrap64; omega

theorem recs_same (l : List S57) (hl : l.length ≤ 9223372036854775800) (d : Nat) : ∀ (k : Nat) (i : Int), 0 ≤ i → (l.length : Int) - i = d → d < k → tidemillref11_Recs.l0 k l l i = some true := by
  induction d with
  | zero =>
    intro k i h0 hd hk
    obtain ⟨k, rfl⟩ : ∃ m, k = m + 1 := ⟨k - 1, by omega⟩
    simp only [tidemillref11_Recs.l0]; rw [if_neg (by omega)]
  | succ d ih =>
    intro k i h0 hd hk
    obtain ⟨k, rfl⟩ : ∃ m, k = m + 1 := ⟨k - 1, by omega⟩
    simp only [tidemillref11_Recs.l0]
    rw [if_pos (by omega), if_pos h0, if_pos (by omega), if_neg (by simp), wrap_small (by omega) (by omega)]
    exact ih k (i + 1) (by omega) (by omega) (by omega)
theorem recs_f (l : List S57) (hl : l.length ≤ 9223372036854775800) (k : Nat) (hk : l.length < k) : tidemillref11_Recs.f k l l = some true := by
  unfold tidemillref11_Recs.f
  rw [if_pos rfl]
  exact recs_same l hl l.length k 0 (by omega) (by omega) hk

theorem changes_same (l : List S23) (hl : l.length ≤ 9223372036854775800) (d : Nat) : ∀ (k : Nat) (i : Int), 0 ≤ i → (l.length : Int) - i = d → d < k → tidemillref12_Changes.l0 k l l i = some true := by
  induction d with
  | zero =>
    intro k i h0 hd hk
    obtain ⟨k, rfl⟩ : ∃ m, k = m + 1 := ⟨k - 1, by omega⟩
    simp only [tidemillref12_Changes.l0]; rw [if_neg (by omega)]
  | succ d ih =>
    intro k i h0 hd hk
    obtain ⟨k, rfl⟩ : ∃ m, k = m + 1 := ⟨k - 1, by omega⟩
    simp only [tidemillref12_Changes.l0]
    rw [if_pos (by omega), if_pos h0, if_pos (by omega), if_neg (by simp), wrap_small (by omega) (by omega)]
    exact ih k (i + 1) (by omega) (by omega) (by omega)
theorem changes_f (l : List S23) (hl : l.length ≤ 9223372036854775800) (k : Nat) (hk : l.length < k) : tidemillref12_Changes.f k l l = some true := by
  unfold tidemillref12_Changes.f
  rw [if_pos rfl]
  exact changes_same l hl l.length k 0 (by omega) (by omega) hk

theorem bools_same (l : List Bool) (hl : l.length ≤ 9223372036854775800) (d : Nat) : ∀ (k : Nat) (i : Int), 0 ≤ i → (l.length : Int) - i = d → d < k → tidemilllaw15_bools.l0 k l l i = some true := by
  induction d with
  | zero =>
    intro k i h0 hd hk
    obtain ⟨k, rfl⟩ : ∃ m, k = m + 1 := ⟨k - 1, by omega⟩
    simp only [tidemilllaw15_bools.l0]; rw [if_neg (by omega)]
  | succ d ih =>
    intro k i h0 hd hk
    obtain ⟨k, rfl⟩ : ∃ m, k = m + 1 := ⟨k - 1, by omega⟩
    simp only [tidemilllaw15_bools.l0]
    rw [if_pos (by omega), if_pos h0, if_pos (by omega), if_neg (by simp), wrap_small (by omega) (by omega)]
    exact ih k (i + 1) (by omega) (by omega) (by omega)
theorem bools_f (l : List Bool) (hl : l.length ≤ 9223372036854775800) (k : Nat) (hk : l.length < k) : tidemilllaw15_bools.f k l l = some true := by
  unfold tidemilllaw15_bools.f
  rw [if_pos rfl]
  exact bools_same l hl l.length k 0 (by omega) (by omega) hk

/-- One loop of each, side by side. -/
theorem loops (l1 : List S57) (l2 : List Bool) (hl : l2.length = l1.length) (hs : l1.length * 24 ≤ 140737488351232) (d : Nat) :
    ∀ (k : Nat) (acc : List S23) (i : Int), i = 2 * acc.length → (l1.length : Int) - i = 2 * d → d < k →
      ∃ r : List S23 × Int, chg_Changes.l0 k l1 l2 acc i = some r ∧ tidemillref15_Changes.l0 k l1 l2 acc i = some r ∧ 2 * r.1.length ≤ l1.length := by
  induction d with
  | zero =>
    intro k acc i hi hd hk
    obtain ⟨k, rfl⟩ : ∃ m, k = m + 1 := ⟨k - 1, by omega⟩
    refine ⟨(acc, 0), ?_, ?_, by simp only []; omega⟩
    · simp only [chg_Changes.l0]; rw [if_neg (by omega)]
    · simp only [tidemillref15_Changes.l0]; rw [if_neg (by omega)]
  | succ d ih =>
    intro k acc i hi hd hk
    obtain ⟨k, rfl⟩ : ∃ m, k = m + 1 := ⟨k - 1, by omega⟩
    have w1 : wrap64 (i + 1) = i + 1 := wrap_small (by omega) (by omega)
    have w2 : wrap64 (i + 2) = i + 2 := wrap_small (by omega) (by omega)
    have g1 : i < (l1.length : Int) := by omega
    have g2 : 0 ≤ i := by omega
    have g3 : 0 ≤ i + 1 := by omega
    have g4 : i + 1 < (l1.length : Int) := by omega
    have g5 : i < (l2.length : Int) := by omega
    have g6 : i + 1 < (l2.length : Int) := by omega
    have g7 : acc.length < 3518437208883 := by omega
    have e1 : chg_Changes.l0 (k + 1) l1 l2 acc i = if rdOf false l2 i = true then some (([] : List S23), 5) else (if (!(((rd_T57 l1 (i + 1)).f0) == ((rd_T57 l1 i).f0)) || (!(((rd_T57 l1 (i + 1)).f2) == 0))) = true then (some (([] : List (S23)), 5)) else chg_Changes.l0 k l1 l2 (acc ++ [(⟨(rd_T57 l1 i).f0, (rd_T57 l1 i).f2, (rd_T57 l1 i).f1, (rd_T57 l1 (i + 1)).f1, rdOf false l2 (i + 1)⟩ : S23)]) (i + 2)) := by
      simp only [chg_Changes.l0, w1, w2, g1, g2, g3, g4, g5, g6, g7, if_true]
    have e2 : tidemillref15_Changes.l0 (k + 1) l1 l2 acc i = if rdOf false l2 i = true then some (([] : List S23), 5) else (if ((rd_T57 l1 i).f0) = ((rd_T57 l1 (i + 1)).f0) then (if ((rd_T57 l1 (i + 1)).f2) = 0 then tidemillref15_Changes.l0 k l1 l2 (acc ++ [(⟨(rd_T57 l1 i).f0, (rd_T57 l1 i).f2, (rd_T57 l1 i).f1, (rd_T57 l1 (i + 1)).f1, rdOf false l2 (i + 1)⟩ : S23)]) (i + 2) else (some (([] : List (S23)), 5))) else (some (([] : List (S23)), 5))) := by
      simp only [tidemillref15_Changes.l0, w1, w2, g1, g2, g3, g4, g5, g6, g7, if_true]
    rw [e1, e2]
    by_cases c1 : rdOf false l2 i = true
    · rw [if_pos c1, if_pos c1]; exact ⟨_, rfl, rfl, by simp⟩
    rw [if_neg c1, if_neg c1]
    by_cases c2 : (rd_T57 l1 i).f0 = (rd_T57 l1 (i + 1)).f0
    · by_cases c3 : (rd_T57 l1 (i + 1)).f2 = 0
      · rw [if_pos c2, if_pos c3, if_neg (by simp [c2, c3])]
        exact ih k _ (i + 2) (by rw [List.length_append]; simp; omega) (by omega) (by omega)
      · rw [if_pos c2, if_neg c3, if_pos (by simp [c3])]; exact ⟨_, rfl, rfl, by simp⟩
    · rw [if_neg c2, if_pos (by simp [Ne.symm c2])]; exact ⟨_, rfl, rfl, by simp⟩

theorem both (l1 : List S57) (l2 : List Bool) (hs : l1.length * 24 ≤ 140737488351232) (k : Nat) (hk : l1.length + 2 < k) :
    ∃ r : List S23 × Int, chg_Changes.f k l1 l2 = some r ∧ tidemillref15_Changes.f k l1 l2 = some r ∧ 2 * r.1.length ≤ l1.length := by
  obtain ⟨k, rfl⟩ : ∃ m, k = m + 1 := ⟨k - 1, by omega⟩
  unfold chg_Changes.f tidemillref15_Changes.f
  by_cases c : (l1.length : Int) = (l2.length : Int)
  · rw [if_pos c, if_pos c]
    simp only [chg_Changes.j0, tidemillref15_Changes.j0]
    by_cases p : (l1.length : Int) % 2 = 0
    · rw [if_neg (by simp [p]), if_neg (by simp [p])]
      exact loops l1 l2 (by omega) hs (l1.length / 2) k [] 0 (by simp) (by omega) (by omega)
    · rw [if_pos (by simp [p]), if_pos (by simp; omega)]; exact ⟨_, rfl, rfl, by simp⟩
  · rw [if_neg c, if_neg c]
    simp only [chg_Changes.j0, tidemillref15_Changes.j0, if_true]
    exact ⟨_, rfl, rfl, by simp⟩

theorem shown4 : tidemilllaw15_shown.f 4 = some true := by decide +kernel

theorem law (a b c d : Int) (e : Bool) (l1 : List S57) (l2 : List Bool) (hs : l1.length * 24 ≤ 140737488351232) : ∃ k, tidemilllaw15_ChgRecords.f k a b c d e l1 l2 = some true := by
  refine ⟨l1.length + 8, ?_⟩
  obtain ⟨r, h1, h2, h3⟩ := both l1 l2 hs (l1.length + 8) (by omega)
  have h0 : tidemilllaw15_shown.f (l1.length + 8) = some true := at_rounds tidemilllaw15_shown.mono (by omega) shown4
  unfold tidemilllaw15_ChgRecords.f chg_Records.f tidemillref15_Records.f
  rw [h0, h1, h2]
  simp only [Option.bind_some, List.length_nil, List.nil_append, List.length_singleton, show (0 : Nat) < 5864062014805 from by omega, show (1 : Nat) < 5864062014805 from by omega, if_true]
  rw [show ([⟨a, c, b⟩] ++ [⟨a, d, 0⟩] : List S57) = [⟨a, c, b⟩, ⟨a, d, 0⟩] from rfl, recs_f _ (by simp) _ (by simp)]
  simp only [Option.bind_some, if_true]
  rw [bools_f _ (by simp) _ (by simp)]
  simp only [Option.bind_some, if_true]
  rw [changes_f _ (by omega) _ (by omega)]
  simp
end Go.Proofs.Ytjngkndiokfibaa.ChgPure

import Derived.Test.YteihfipojnfnfaaPCrcTornx2
import Derived.Test.YteihfipojnfnfaaCrcLaws
/- The plain law of CrcTorn. -/
namespace Go.Proofs.Yteihfipojnfnfaa.PCrcTorn
open Go.RowKit Go.Proofs.Yteihfipojnfnfaa.Crc Go.Proofs.Yteihfipojnfnfaa.Pack Go.Proofs.YteihfipojnfnfaaW.PrintWords
theorem frame_eq (k : Nat) (b : List Int) (hb : ∀ x ∈ b, 0 ≤ x ∧ x ≤ 255) (hl : b.length ≤ 4096) : crc_Frame.f (k + 2) b = some (frameF b, 0) := by
  have hw : IntKind.u64.wrap (b.length : Int) = b.length := by rw [IntKind.wrap_u64]; omega
  have hu : pack_Uint.f (k + 2) [] (b.length : Int) = some (uintB b.length) := by
    unfold pack_Uint.f
    simp only [Option.bind_some]
    rw [if_pos (by simp), pack_Uint.l0]
    by_cases h : b.length < 128
    · rw [if_neg (by omega), if_pos (by simp)]
      unfold uintB
      rw [if_pos h]
      have e : (b.length : Int) % 256 = b.length := by omega
      rw [e]; rfl
    · rw [if_pos (by omega), if_pos (by simp), pack_Uint.l0, if_neg (by omega), if_pos (by simp), or128 _]
      unfold uintB
      rw [if_neg h]
      have e : (b.length : Int) / 128 % 256 = (b.length : Int) / 128 := by omega
      rw [e]; rfl
  have hp : pack_Bytes.f (k + 2) [] b = some (uintB b.length ++ b) := by
    unfold pack_Bytes.f
    rw [hw, hu]
    simp only [Option.bind_some]
    rw [if_pos (by rw [uintB_len]; split <;> omega)]
  have hs : crc_Sum.f b = some (sumOf b) := by
    unfold crc_Sum.f
    rw [if_pos ⟨bytesB_iff.2 hb, by omega⟩]
  have hf : crc_four.f (sumOf b) = some (fourL (sumOf b)) := by
    unfold crc_four.f fourL
    obtain ⟨h0, h1⟩ := sumOf_rng b
    have e : sumOf b / 16777216 % 256 = sumOf b / 16777216 := by omega
    rw [e]
  unfold crc_Frame.f
  rw [if_neg (by omega), hp, Option.bind_some, hs, Option.bind_some, hf, Option.bind_some, if_pos (by rw [List.length_append, uintB_len, fourL_len]; split <;> omega)]
  rfl
theorem frame_no (k : Nat) (b : List Int) (hl : 4096 < b.length) : crc_Frame.f k b = some ([], 2) := by
  unfold crc_Frame.f
  rw [if_pos (by omega)]
theorem framesF_append (a b : List (List Int)) : framesF (a ++ b) = framesF a ++ framesF b := List.flatMap_append
theorem framesF_cons (b : List Int) (r : List (List Int)) : framesF (b :: r) = frameF b ++ framesF r := List.flatMap_cons
theorem framesF_take (x0 : List (List Int)) (i : Nat) (h : i < x0.length) : framesF (x0.take (i + 1)) = framesF (x0.take i) ++ frameF (x0[i]) := by
  rw [List.take_succ_eq_append_getElem h, framesF_append, framesF_cons]; simp [framesF]
theorem framesF_split (l : List (List Int)) (w : Nat) : framesF l = framesF (l.take w) ++ framesF (l.drop w) := by
  rw [← framesF_append, List.take_append_drop]
theorem framesF_bound (l : List (List Int)) (hb : ∀ b ∈ l, b.length ≤ 4096) : (framesF l).length ≤ 4102 * l.length := by
  induction l with
  | nil => simp [framesF]
  | cons b r ih =>
    have e : framesF (b :: r) = frameF b ++ framesF r := by simp [framesF]
    have h1 := frameF_len b
    have h2 := uintB_len b.length
    have h3 := hb b (by simp)
    have h4 := ih (fun x hx => hb x (by simp [hx]))
    rw [e, List.length_append, List.length_cons]
    split at h2 <;> omega
theorem framesF_bytes (l : List (List Int)) (hb : ∀ b ∈ l, b.length ≤ 4096 ∧ ∀ x ∈ b, 0 ≤ x ∧ x ≤ 255) : ∀ x ∈ framesF l, 0 ≤ x ∧ x ≤ 255 := by
  intro x hx
  unfold framesF at hx
  obtain ⟨b, hbm, hxb⟩ := List.mem_flatMap.1 hx
  exact frameF_bytes b (hb b hbm).2 (hb b hbm).1 x hxb
/-- A row of frames that is cut at p: just those that are whole. -/
theorem scan_cut (l : List (List Int)) (p w : Nat) (hb : ∀ b ∈ l, b.length ≤ 4096) (hw : w ≤ l.length) (h1 : (framesF (l.take w)).length ≤ p) (h2 : w = l.length ∧ p ≤ (framesF l).length ∨ p < (framesF (l.take (w + 1))).length) :
    scanF ((framesF l).take p) = (l.take w, (framesF (l.take w)).length) := by
  have hs : (framesF l).take p = framesF (l.take w) ++ (framesF (l.drop w)).take (p - (framesF (l.take w)).length) := by
    conv => lhs; rw [framesF_split l w]
    rw [List.take_append, List.take_of_length_le h1]
  rw [hs]
  refine scanF_frames (l.take w) _ (fun b hbm => hb b (List.mem_of_mem_take hbm)) ?_
  by_cases e : w = l.length
  · left
    subst e
    rw [List.drop_length]; simp [framesF]
  · right
    have hlt : w < l.length := by omega
    have h2' : p < (framesF (l.take (w + 1))).length := by
      rcases h2 with h2 | h2
      · exact absurd h2.1 e
      · exact h2
    rw [framesF_take l w hlt, List.length_append] at h2'
    have hd : framesF (l.drop w) = frameF (l[w]) ++ framesF (l.drop (w + 1)) := by
      rw [List.drop_eq_getElem_cons hlt, framesF_cons]
    rw [hd, List.take_append_of_le_length (by omega)]
    refine openF_cut (l[w]) _ ((frameF (l[w])).drop (p - (framesF (l.take w)).length)) (hb _ (List.getElem_mem hlt)) (List.take_append_drop _ _).symm ?_
    rw [List.length_drop]; omega
def endsX (x0 : List (List Int)) (i : Nat) : List Int := (List.range i).map fun j => ((framesF (x0.take (j + 1))).length : Int)
theorem endsX_len (x0 : List (List Int)) (i : Nat) : (endsX x0 i).length = i := by simp [endsX]
theorem rd_ends (x0 : List (List Int)) (i j : Nat) (h : j < i) : rd (endsX x0 i) (j : Int) = ((framesF (x0.take (j + 1))).length : Int) := by
  unfold rd endsX
  rw [Int.toNat_natCast, List.getD_eq_getElem?_getD, List.getElem?_map, List.getElem?_range h]; rfl
theorem lists_same (l k : List (List Int)) (h : l = k) : tidemillref02_Lists.f l k = some true := by
  subst h
  unfold tidemillref02_Lists.f sameB
  rw [decide_eq_true rfl]
theorem wrap_up (j : Nat) (h : j ≤ 30) : wrap64 ((j : Int) + 1) = ((j + 1 : Nat) : Int) := by
  rw [IntWalk.wrap64_in _ ⟨by omega, by omega⟩]; omega
theorem wrap_down (j : Nat) (h : j ≤ 30) (h0 : 0 < j) : wrap64 ((j : Int) - 1) = ((j - 1 : Nat) : Int) := by
  rw [IntWalk.wrap64_in _ ⟨by omega, by omega⟩]; omega
theorem count (x0 : List (List Int)) (m p : Nat) (hm : m ≤ x0.length) (hm30 : m ≤ 30) (hp : p ≤ (framesF (x0.take m)).length) (hb : ∀ b ∈ x0.take m, b.length ≤ 4096) (S : List (List Int) × Nat) (hS : S = scanF ((framesF (x0.take m)).take p)) :
    ∀ (d j k : Nat), m - j = d → j ≤ m → d < k → (j = 0 ∨ (framesF (x0.take j)).length ≤ p) → tidemilllaw02_CrcTorn.l1 k x0 true (endsX x0 m) (p : Int) S.1 (S.2 : Int) (j : Int) = some true := by
  have fin : ∀ j : Nat, j ≤ m → (framesF (x0.take j)).length ≤ p → (j = m ∨ p < (framesF (x0.take (j + 1))).length) → S = (x0.take j, (framesF (x0.take j)).length) := by
    intro j hj h1 h2
    have hl : (x0.take m).length = m := by rw [List.length_take]; omega
    have ht : (x0.take m).take j = x0.take j := by rw [List.take_take, Nat.min_eq_left hj]
    rw [hS, scan_cut (x0.take m) p j hb (by omega) (by rw [ht]; exact h1) ?_, ht]
    by_cases e : j = m
    · exact .inl ⟨by omega, hp⟩
    · right
      rw [List.take_take, Nat.min_eq_left (by omega)]
      rcases h2 with h2 | h2
      · exact absurd h2 e
      · exact h2
  have z0 : (framesF (x0.take 0)).length = 0 := by simp [framesF]
  intro d
  induction d with
  | zero =>
    intro j k hd hj hk h0
    obtain ⟨k, rfl⟩ : ∃ i, k = i + 1 := ⟨k - 1, by omega⟩
    obtain rfl : j = m := by omega
    have h1 : (framesF (x0.take j)).length ≤ p := by
      rcases h0 with rfl | h0
      · rw [z0]; omega
      · exact h0
    have hf := fin j (Nat.le_refl _) h1 (.inl rfl)
    rw [tidemilllaw02_CrcTorn.l1, endsX_len, if_neg (by omega)]
    by_cases hz : j = 0
    · subst hz
      rw [if_neg (by simp), if_pos rfl, hf, if_pos (by simp [framesF]), if_pos (by simp), if_pos (by simp)]
      rw [lists_same _ _ (by simp)]; rfl
    · rw [if_pos (by omega), wrap_down j hm30 (by omega), if_pos (by omega), if_pos (by omega), if_pos rfl, rd_ends x0 j (j - 1) (by omega), hf, if_pos (by simp only; rw [Nat.sub_add_cancel (by omega)]), if_pos (by omega), if_pos (by omega)]
      rw [lists_same _ _ (by simp)]; rfl
  | succ d ih =>
    intro j k hd hj hk h0
    obtain ⟨k, rfl⟩ : ∃ i, k = i + 1 := ⟨k - 1, by omega⟩
    have hlt : j < m := by omega
    rw [tidemilllaw02_CrcTorn.l1, endsX_len, if_pos (by omega), if_pos (by omega), rd_ends x0 m j hlt]
    by_cases hle : (framesF (x0.take (j + 1))).length ≤ p
    · rw [if_pos (by omega), wrap_up j (by omega)]
      exact ih (j + 1) k (by omega) (by omega) (by omega) (.inr hle)
    · rw [if_neg (by omega)]
      have h1 : (framesF (x0.take j)).length ≤ p := by
        rcases h0 with rfl | h0
        · rw [z0]; omega
        · exact h0
      have hf := fin j hj h1 (.inr (by omega))
      by_cases hz : j = 0
      · subst hz
        rw [if_neg (by simp), if_pos rfl, hf, if_pos (by simp [framesF]), if_pos (by simp)]
        rw [lists_same _ _ (by simp)]; rfl
      · rw [if_pos (by omega), wrap_down j (by omega) (by omega), if_pos (by omega), if_pos (by omega), if_pos rfl, rd_ends x0 m (j - 1) (by omega), hf, if_pos (by simp only; rw [Nat.sub_add_cancel (by omega)]), if_pos (by omega)]
        rw [lists_same _ _ (by simp)]; rfl
theorem loop (x0 : List (List Int)) (x1 : Int) (hx1 : 0 ≤ x1 ∧ x1 ≤ 65535) (hby : ∀ b ∈ x0, ∀ x ∈ b, 0 ≤ x ∧ x ≤ 255) :
    ∀ (d i k : Nat), min x0.length 30 - i = d → i ≤ min x0.length 30 → 2 * d + 100 ≤ k → (∀ b ∈ x0.take i, b.length ≤ 4096) → tidemilllaw02_CrcTorn.l0 k x0 x1 true (framesF (x0.take i)) (endsX x0 i) (i : Int) = some true := by
  intro d
  induction d with
  | zero =>
    intro i k hd hi hk hb
    obtain ⟨k, rfl⟩ : ∃ j, k = j + 1 + 1 := ⟨k - 2, by omega⟩
    have him : i = min x0.length 30 := by omega
    have hl : (x0.take i).length = i := by rw [List.length_take]; omega
    have hbd := framesF_bound (x0.take i) hb
    rw [hl] at hbd
    have h30 : i ≤ 30 := by omega
    have hj1 : tidemilllaw02_CrcTorn.l0 (k + 1 + 1) x0 x1 true (framesF (x0.take i)) (endsX x0 i) (i : Int) = tidemilllaw02_CrcTorn.j1 (k + 1) x0 x1 true (framesF (x0.take i)) (endsX x0 i) (i : Int) false := by
      rw [tidemilllaw02_CrcTorn.l0]
      by_cases e : (i : Int) < (x0.length : Int)
      · rw [if_pos e, decide_eq_false (by omega)]
      · rw [if_neg e]
    rw [hj1, tidemilllaw02_CrcTorn.j1, if_neg (by simp)]
    by_cases hz : (framesF (x0.take i)).length = 0
    · rw [if_pos (by omega), if_pos rfl]
      have h0 : i = 0 := by
        rcases Nat.eq_zero_or_pos i with h | h
        · exact h
        · obtain ⟨j, rfl⟩ : ∃ j, i = j + 1 := ⟨i - 1, by omega⟩
          rw [framesF_take x0 j (by omega), List.length_append] at hz
          have := frameF_len (x0[j]'(by omega))
          omega
      have hx : x0.length = 0 := by omega
      rw [hx]; rfl
    · rw [if_neg (by omega)]
      have hw : wrap64 ((((framesF (x0.take i)).length : Nat) : Int) + 1) = ((((framesF (x0.take i)).length + 1 : Nat)) : Int) := by
        rw [IntWalk.wrap64_in _ ⟨by omega, by omega⟩]; omega
      have hwx : wrap64 x1 = x1 := IntWalk.wrap64_in _ ⟨by omega, by omega⟩
      obtain ⟨c, rfl⟩ := Int.eq_ofNat_of_zero_le hx1.1
      have ht : Int.tmod (c : Int) ((((framesF (x0.take i)).length + 1 : Nat)) : Int) = ((c % ((framesF (x0.take i)).length + 1) : Nat) : Int) := by
        rw [Int.tmod_eq_emod_of_nonneg (by omega)]; rfl
      rw [hw, hwx, ht]
      have hp : c % ((framesF (x0.take i)).length + 1) ≤ (framesF (x0.take i)).length := by have := Nat.mod_lt c (show 0 < (framesF (x0.take i)).length + 1 by omega); omega
      generalize c % ((framesF (x0.take i)).length + 1) = p at hp ⊢
      rw [if_neg (by omega), if_pos (by omega), if_pos (by omega), Int.toNat_natCast]
      have hs : crc_Scan.f ((framesF (x0.take i)).take p) = some ((scanF ((framesF (x0.take i)).take p)).1, ((scanF ((framesF (x0.take i)).take p)).2 : Int)) := by
        unfold crc_Scan.f
        rw [if_pos ⟨bytesB_iff.2 fun x hx => framesF_bytes (x0.take i) (fun b hbm => ⟨hb b hbm, hby b (List.mem_of_mem_take hbm)⟩) x (List.mem_of_mem_take hx), by rw [List.length_take]; omega⟩]
      rw [hs, Option.bind_some]
      exact count x0 i p (by omega) h30 hp hb _ rfl i 0 k (by omega) (by omega) (by omega) (.inl rfl)
  | succ d ih =>
    intro i k hd hi hk hb
    obtain ⟨k, rfl⟩ : ∃ j, k = j + 2 + 1 + 1 := ⟨k - 4, by omega⟩
    have hlt : i < x0.length := by omega
    have hr : rd_L1 x0 (i : Int) = x0[i] := by
      unfold rd_L1
      rw [Int.toNat_natCast, List.getD_eq_getElem?_getD, List.getElem?_eq_getElem hlt]; rfl
    have hl : (x0.take i).length = i := by rw [List.length_take]; omega
    have hbd := framesF_bound (x0.take i) hb
    rw [hl] at hbd
    rw [tidemilllaw02_CrcTorn.l0, if_pos (by omega), decide_eq_true (by omega), tidemilllaw02_CrcTorn.j1, if_pos rfl, if_pos (by omega), if_pos (by omega), hr]
    by_cases hb4 : (x0[i]).length ≤ 4096
    · have hfl := frameF_len (x0[i])
      have hul := uintB_len (x0[i]).length
      rw [frame_eq k (x0[i]) (hby _ (List.getElem_mem hlt)) hb4, Option.bind_some, if_pos rfl, if_pos (by simp only; split at hul <;> omega), Option.bind_some, if_pos (by rw [endsX_len]; omega), wrap_up i (by omega)]
      have e1 : framesF (x0.take i) ++ frameF (x0[i]) = framesF (x0.take (i + 1)) := (framesF_take x0 i hlt).symm
      have e2 : endsX x0 i ++ [((framesF (x0.take (i + 1))).length : Int)] = endsX x0 (i + 1) := by
        unfold endsX
        rw [List.range_succ, List.map_append]; rfl
      simp only
      rw [e1, e2]
      refine ih (i + 1) (k + 2) (by omega) (by omega) (by omega) ?_
      intro b hbm
      rw [List.take_succ_eq_append_getElem hlt] at hbm
      rcases List.mem_append.1 hbm with h | h
      · exact hb b h
      · rw [List.mem_singleton.1 h]; exact hb4
    · rw [frame_no (k + 2) (x0[i]) (by omega), Option.bind_some, if_neg (by simp), if_pos rfl, decide_eq_true (by omega)]
theorem torn_pure (l0 : List (List Int)) (a1 : Int) (h1 : 0 ≤ a1 ∧ a1 ≤ 65535) (hby : ∀ b ∈ l0, ∀ x ∈ b, 0 ≤ x ∧ x ≤ 255) : tidemilllaw02_CrcTorn.f 1000 l0 a1 = some true := by
  unfold tidemilllaw02_CrcTorn.f tidemilllaw02_shown.f
  rw [Option.bind_some]
  exact loop l0 a1 h1 hby (min l0.length 30) 0 1000 (by omega) (by omega) (by omega) (by simp)
end Go.Proofs.Yteihfipojnfnfaa.PCrcTorn

import Derived.Test.YteihfipojnfnfaaPCrcRestx2
import Derived.Test.YteihfipojnfnfaaCrcLaws2
/- The plain law of CrcRest. -/
namespace Go.Proofs.Yteihfipojnfnfaa.PCrcRest
open Go.RowKit Go.Proofs.Yteihfipojnfnfaa.Crc Go.Proofs.Yteihfipojnfnfaa.Pack Go.Proofs.YteihfipojnfnfaaW.PrintWords
theorem frame_eq (k : Nat) (b : List Int) (hb : ∀ x ∈ b, 0 ≤ x ∧ x ≤ 255) (hl : b.length ≤ 4096) : crc_Frame.f (k + 2) b = some (frameF b, 0) := by
  have hw : IntKind.u64.wrap (b.length : Int) = b.length := by rw [IntKind.wrap_u64]; omega
  have hu : pack_Uint.f (k + 2) [] (b.length : Int) = some (uintB b.length) := by
    unfold pack_Uint.f
    simp only [Option.bind_some]
    rw [if_pos (by simp), pack_Uint.l0]
    by_cases h : b.length < 128
    · rw [if_neg (by omega), if_pos (by simp)]
      unfold uintB
      rw [if_pos h]
      have e : (b.length : Int) % 256 = b.length := by omega
      rw [e]; rfl
    · rw [if_pos (by omega), if_pos (by simp), pack_Uint.l0, if_neg (by omega), if_pos (by simp), or128 _]
      unfold uintB
      rw [if_neg h]
      have e : (b.length : Int) / 128 % 256 = (b.length : Int) / 128 := by omega
      rw [e]; rfl
  have hp : pack_Bytes.f (k + 2) [] b = some (uintB b.length ++ b) := by
    unfold pack_Bytes.f
    rw [hw, hu]
    simp only [Option.bind_some]
    rw [if_pos (by rw [uintB_len]; split <;> omega)]
  have hs : crc_Sum.f b = some (sumOf b) := by
    unfold crc_Sum.f
    rw [if_pos ⟨bytesB_iff.2 hb, by omega⟩]
  have hf : crc_four.f (sumOf b) = some (fourL (sumOf b)) := by
    unfold crc_four.f fourL
    obtain ⟨h0, h1⟩ := sumOf_rng b
    have e : sumOf b / 16777216 % 256 = sumOf b / 16777216 := by omega
    rw [e]
  unfold crc_Frame.f
  rw [if_neg (by omega), hp, Option.bind_some, hs, Option.bind_some, hf, Option.bind_some, if_pos (by rw [List.length_append, uintB_len, fourL_len]; split <;> omega)]
  rfl
theorem frame_no (k : Nat) (b : List Int) (hl : 4096 < b.length) : crc_Frame.f k b = some ([], 2) := by
  unfold crc_Frame.f
  rw [if_pos (by omega)]
def startsX (x0 : List (List Int)) (i : Nat) : List Int := (List.range i).map fun j => ((framesF (x0.take j)).length : Int)
theorem startsX_len (x0 : List (List Int)) (i : Nat) : (startsX x0 i).length = i := by simp [startsX]
theorem rd_starts (x0 : List (List Int)) (i j : Nat) (h : j < i) : rd (startsX x0 i) (j : Int) = ((framesF (x0.take j)).length : Int) := by
  unfold rd startsX
  rw [Int.toNat_natCast, List.getD_eq_getElem?_getD, List.getElem?_map, List.getElem?_range h]; rfl
theorem lists_same (l k : List (List Int)) (h : l = k) : tidemillref02_Lists.f l k = some true := by
  subst h
  unfold tidemillref02_Lists.f sameB
  rw [decide_eq_true rfl]
theorem wrap_up (j : Nat) (h : j ≤ 30) : wrap64 ((j : Int) + 1) = ((j + 1 : Nat) : Int) := by
  rw [IntWalk.wrap64_in _ ⟨by omega, by omega⟩]; omega
theorem wrap_down (j : Nat) (h : j ≤ 1000000) (h0 : 0 < j) : wrap64 ((j : Int) - 1) = ((j - 1 : Nat) : Int) := by
  rw [IntWalk.wrap64_in _ ⟨by omega, by omega⟩]; omega
theorem fin (x0 : List (List Int)) (c m k0 : Nat) (hc : c ≤ 65535) (hm : m ≤ x0.length) (hm20 : m ≤ 20) (hb : ∀ b ∈ x0.take m, b.length ≤ 4096 ∧ ∀ x ∈ b, 0 ≤ x ∧ x ≤ 255) :
    tidemilllaw02_CrcRest.j1 (k0 + 1) x0 (c : Int) true (framesF (x0.take m)) (startsX x0 m) (m : Int) false = some true := by
  rw [tidemilllaw02_CrcRest.j1, if_neg (by simp), startsX_len]
  by_cases hz : m = 0
  · subst hz; rw [if_pos (by simp)]
  · rw [if_neg (by omega)]
    have hl : (x0.take m).length = m := by rw [List.length_take]; omega
    have hbd := framesF_bound (x0.take m) (fun b hbm => (hb b hbm).1)
    rw [hl] at hbd
    have hwx : wrap64 (c : Int) = (c : Int) := IntWalk.wrap64_in _ ⟨by omega, by omega⟩
    have ht : Int.tmod (c : Int) (m : Int) = ((c % m : Nat) : Int) := by rw [Int.tmod_eq_emod_of_nonneg (by omega)]; rfl
    have hk : c % m < m := Nat.mod_lt c (by omega)
    rw [hwx, ht]
    generalize c % m = k at hk ⊢
    rw [wrap_up k (by omega)]
    obtain ⟨q0, q1, q2, q3⟩ := scan_spoilt (x0.take m) hb k (by omega) _ rfl
    have htk : (x0.take m).take k = x0.take k := by rw [List.take_take, Nat.min_eq_left (by omega)]
    have htk1 : (x0.take m).take (k + 1) = x0.take (k + 1) := by rw [List.take_take, Nat.min_eq_left (by omega)]
    rw [htk1] at q0 q1 q2 q3
    rw [htk] at q2
    have hs : ∀ e : Nat, e = (framesF (x0.take (k + 1))).length - 1 → crc_Scan.f ((framesF (x0.take m)).set e (bits .xor .u8 (rd (framesF (x0.take m)) (e : Int)) 1)) = some (x0.take k, (((framesF (x0.take k)).length : Nat) : Int)) := by
      rintro e rfl
      have e1 : rd (framesF (x0.take m)) (((framesF (x0.take (k + 1))).length - 1 : Nat) : Int) = (framesF (x0.take m)).getD ((framesF (x0.take (k + 1))).length - 1) 0 := by unfold rd; rw [Int.toNat_natCast]
      rw [e1]
      unfold crc_Scan.f
      rw [if_pos ⟨bytesB_iff.2 q3, by rw [List.length_set]; omega⟩, q2]
    by_cases hlast : k + 1 < m
    · rw [if_pos (by omega), if_pos (by omega), rd_starts x0 m (k + 1) hlast, wrap_down _ (by omega) q0, if_pos (by omega), if_pos (by omega), Int.toNat_natCast, hs _ rfl, Option.bind_some, if_pos rfl, if_pos (by omega), if_pos (by omega), rd_starts x0 m k (by omega), if_pos rfl, if_pos (by omega), Int.toNat_natCast, lists_same _ _ rfl]
      rfl
    · have hkm : k + 1 = m := by omega
      have hf : (framesF (x0.take m)).length = (framesF (x0.take (k + 1))).length := by rw [hkm]
      rw [if_neg (by omega), hf, wrap_down _ (by omega) q0, if_pos (by omega), if_pos (by omega), Int.toNat_natCast, hs _ rfl, Option.bind_some, if_pos rfl, if_pos (by omega), if_pos (by omega), rd_starts x0 m k (by omega), if_pos rfl, if_pos (by omega), Int.toNat_natCast, lists_same _ _ rfl]
      rfl
theorem loop (x0 : List (List Int)) (c : Nat) (hc : c ≤ 65535) (hby : ∀ b ∈ x0, ∀ x ∈ b, 0 ≤ x ∧ x ≤ 255) :
    ∀ (d i k : Nat), min x0.length 20 - i = d → i ≤ min x0.length 20 → 2 * d + 100 ≤ k → (∀ b ∈ x0.take i, b.length ≤ 4096) → tidemilllaw02_CrcRest.l0 k x0 (c : Int) true (framesF (x0.take i)) (startsX x0 i) (i : Int) = some true := by
  intro d
  induction d with
  | zero =>
    intro i k hd hi hk hb
    obtain ⟨k, rfl⟩ : ∃ j, k = j + 1 + 1 := ⟨k - 2, by omega⟩
    have hj1 : tidemilllaw02_CrcRest.l0 (k + 1 + 1) x0 (c : Int) true (framesF (x0.take i)) (startsX x0 i) (i : Int) = tidemilllaw02_CrcRest.j1 (k + 1) x0 (c : Int) true (framesF (x0.take i)) (startsX x0 i) (i : Int) false := by
      rw [tidemilllaw02_CrcRest.l0]
      by_cases e : (i : Int) < (x0.length : Int)
      · rw [if_pos e, decide_eq_false (by omega)]
      · rw [if_neg e]
    rw [hj1]
    exact fin x0 c i k hc (by omega) (by omega) fun b hbm => ⟨hb b hbm, hby b (List.mem_of_mem_take hbm)⟩
  | succ d ih =>
    intro i k hd hi hk hb
    obtain ⟨k, rfl⟩ : ∃ j, k = j + 2 + 1 + 1 := ⟨k - 4, by omega⟩
    have hlt : i < x0.length := by omega
    have hr : rd_L1 x0 (i : Int) = x0[i] := by
      unfold rd_L1
      rw [Int.toNat_natCast, List.getD_eq_getElem?_getD, List.getElem?_eq_getElem hlt]; rfl
    have hl : (x0.take i).length = i := by rw [List.length_take]; omega
    have hbd := framesF_bound (x0.take i) hb
    rw [hl] at hbd
    rw [tidemilllaw02_CrcRest.l0, if_pos (by omega), decide_eq_true (by omega), tidemilllaw02_CrcRest.j1, if_pos rfl, if_pos (by omega), if_pos (by omega), hr]
    by_cases hb4 : (x0[i]).length ≤ 4096
    · have hfl := frameF_len (x0[i])
      have hul := uintB_len (x0[i]).length
      rw [frame_eq k (x0[i]) (hby _ (List.getElem_mem hlt)) hb4, Option.bind_some, if_pos rfl, if_neg (by simp only; split at hul <;> omega), if_pos (by rw [startsX_len]; omega), if_pos (by simp only; split at hul <;> omega), wrap_up i (by omega)]
      have e1 : framesF (x0.take i) ++ frameF (x0[i]) = framesF (x0.take (i + 1)) := (framesF_take x0 i hlt).symm
      have e2 : startsX x0 i ++ [((framesF (x0.take i)).length : Int)] = startsX x0 (i + 1) := by
        unfold startsX
        rw [List.range_succ, List.map_append]; rfl
      simp only
      rw [e1, e2]
      refine ih (i + 1) (k + 2) (by omega) (by omega) (by omega) ?_
      intro b hbm
      rw [List.take_succ_eq_append_getElem hlt] at hbm
      rcases List.mem_append.1 hbm with h | h
      · exact hb b h
      · rw [List.mem_singleton.1 h]; exact hb4
    · rw [frame_no (k + 2) (x0[i]) (by omega), Option.bind_some, if_neg (by simp), if_pos rfl, decide_eq_true (by omega)]
theorem rest_pure (l0 : List (List Int)) (a1 : Int) (h1 : 0 ≤ a1 ∧ a1 ≤ 65535) (hby : ∀ b ∈ l0, ∀ x ∈ b, 0 ≤ x ∧ x ≤ 255) : tidemilllaw02_CrcRest.f 1000 l0 a1 = some true := by
  obtain ⟨c, rfl⟩ := Int.eq_ofNat_of_zero_le h1.1
  unfold tidemilllaw02_CrcRest.f tidemilllaw02_shown.f
  rw [Option.bind_some]
  exact loop l0 c (by omega) hby (min l0.length 20) 0 1000 (by omega) (by omega) (by omega) (by simp)
end Go.Proofs.Yteihfipojnfnfaa.PCrcRest

import Derived.Test.YteihfipojnfnfaaSumsWalk
import Derived.Test.YteihfipojnfnfaaCrcBurst
/- The plain law of CrcSums: the program's sums, frames and scans are the document's. -/
namespace Go.Proofs.Yteihfipojnfnfaa.PCrcSums
open Go.RowKit Go.Proofs.Yteihfipojnfnfaa.Crc Go.Proofs.Yteihfipojnfnfaa.Pack Go.Proofs.YteihfipojnfnfaaW.PrintWords
theorem frame_eq (k : Nat) (b : List Int) (hb : ∀ x ∈ b, 0 ≤ x ∧ x ≤ 255) (hl : b.length ≤ 4096) : crc_Frame.f (k + 2) b = some (frameF b, 0) := by
  have hw : IntKind.u64.wrap (b.length : Int) = b.length := by rw [IntKind.wrap_u64]; omega
  have hu : pack_Uint.f (k + 2) [] (b.length : Int) = some (uintB b.length) := by
    unfold pack_Uint.f
    simp only [Option.bind_some]
    rw [if_pos (by simp), pack_Uint.l0]
    by_cases h : b.length < 128
    · rw [if_neg (by omega), if_pos (by simp)]
      unfold uintB
      rw [if_pos h]
      have e : (b.length : Int) % 256 = b.length := by omega
      rw [e]; rfl
    · rw [if_pos (by omega), if_pos (by simp), pack_Uint.l0, if_neg (by omega), if_pos (by simp), or128 _]
      unfold uintB
      rw [if_neg h]
      have e : (b.length : Int) / 128 % 256 = (b.length : Int) / 128 := by omega
      rw [e]; rfl
  have hp : pack_Bytes.f (k + 2) [] b = some (uintB b.length ++ b) := by
    unfold pack_Bytes.f
    rw [hw, hu]
    simp only [Option.bind_some]
    rw [if_pos (by rw [uintB_len]; split <;> omega)]
  have hs : crc_Sum.f b = some (sumOf b) := by
    unfold crc_Sum.f
    rw [if_pos ⟨bytesB_iff.2 hb, by omega⟩]
  have hf : crc_four.f (sumOf b) = some (fourL (sumOf b)) := by
    unfold crc_four.f fourL
    obtain ⟨h0, h1⟩ := sumOf_rng b
    have e : sumOf b / 16777216 % 256 = sumOf b / 16777216 := by omega
    rw [e]
  unfold crc_Frame.f
  rw [if_neg (by omega), hp, Option.bind_some, hs, Option.bind_some, hf, Option.bind_some, if_pos (by rw [List.length_append, uintB_len, fourL_len]; split <;> omega)]
  rfl
theorem frame_no (k : Nat) (b : List Int) (hl : 4096 < b.length) : crc_Frame.f k b = some ([], 2) := by
  unfold crc_Frame.f
  rw [if_pos (by omega)]
/-! sums -/
theorem bst_pair (u c : Nat) : bst (u ^^^ c) = (if u % 2 = c % 2 then u / 2 else (u / 2) ^^^ 2197175160) ^^^ (c / 2) := by
  unfold bst
  rw [Nat.shiftRight_xor_distrib, Nat.testBit_xor, Nat.testBit_zero, Nat.testBit_zero, Nat.shiftRight_eq_div_pow, Nat.shiftRight_eq_div_pow, Nat.pow_one]
  rcases Nat.mod_two_eq_zero_or_one u with hu | hu <;> rcases Nat.mod_two_eq_zero_or_one c with hc | hc <;> simp [hu, hc, Nat.xor_assoc, Nat.xor_comm (c / 2)]
theorem sum_round (l : List Int) (i : Int) : ∀ (d j k u c : Nat), j + d = 8 → d < k → u < 2 ^ 32 → c < 2 ^ d →
    tidemillref02_Sum.l1 k l u i c j = tidemillref02_Sum.l0 (k - d - 1) l (itb d (u ^^^ c) : Nat) (wrap64 (i + 1))
  | 0, j, k, u, c, hj, hk, hu, hc => by
    obtain ⟨k, rfl⟩ : ∃ m, k = m + 1 := ⟨k - 1, by omega⟩
    obtain rfl : c = 0 := by omega
    rw [tidemillref02_Sum.l1, if_neg (by omega), Nat.xor_zero]
    simp [itb]
  | d + 1, j, k, u, c, hj, hk, hu, hc => by
    obtain ⟨k, rfl⟩ : ∃ m, k = m + 1 := ⟨k - 1, by omega⟩
    have hpow : 2 ^ (d + 1) ≤ 2 ^ 8 := Nat.pow_le_pow_right (by omega) (by omega)
    have hc2 : c / 2 < 2 ^ d := by rw [Nat.pow_succ] at hc; omega
    have hw : wrap64 ((j : Int) + 1) = ((j + 1 : Nat) : Int) := by unfold wrap64; omega
    have e1 : Int.tdiv (u : Int) 2 % 4294967296 = ((u / 2 : Nat) : Int) := by
      rw [Int.tdiv_eq_ediv_of_nonneg (by omega)]; omega
    have e2 : Int.tdiv (c : Int) 2 % 256 = ((c / 2 : Nat) : Int) := by
      rw [Int.tdiv_eq_ediv_of_nonneg (by omega)]; omega
    have e3 : Int.tmod (u : Int) 2 = ((u % 2 : Nat) : Int) := by rw [Int.tmod_eq_emod_of_nonneg (by omega)]; omega
    have e4 : Int.tmod (c : Int) 2 % 4294967296 = ((c % 2 : Nat) : Int) := by rw [Int.tmod_eq_emod_of_nonneg (by omega)]; omega
    have e5 : itb (d + 1) (u ^^^ c) = itb d (bst (u ^^^ c)) := itb_add d 1 _
    have hd : k + 1 - (d + 1) - 1 = k - d - 1 := by omega
    rw [tidemillref02_Sum.l1, if_pos (by omega), e1, e2, e3, e4, hw, e5, bst_pair, hd]
    by_cases h : u % 2 = c % 2
    · rw [if_pos (by rw [h]), if_pos h]
      exact sum_round l i d (j + 1) k (u / 2) (c / 2) (by omega) (by omega) (by omega) hc2
    · rw [if_neg (by omega), if_neg h, show (2197175160 : Int) = ((2197175160 : Nat) : Int) from rfl, u32_xor_nat _ _ (by omega) (by decide)]
      exact sum_round l i d (j + 1) k ((u / 2) ^^^ 2197175160) (c / 2) (by omega) (by omega) (Nat.xor_lt_two_pow (by omega) (by decide)) hc2
theorem sum_loop (l : List Int) (hl : l.length ≤ 1048576) (hb : ∀ x ∈ l, 0 ≤ x ∧ x ≤ 255) : ∀ (d i k : Nat), i + d = l.length → 10 * d < k →
    tidemillref02_Sum.l0 k l (sumS (l.take i)) i = some ((4294967295 - sumS l) % 4294967296)
  | 0, i, k, hi, hk => by
    obtain ⟨k, rfl⟩ : ∃ m, k = m + 1 := ⟨k - 1, by omega⟩
    rw [tidemillref02_Sum.l0, if_neg (by omega), List.take_of_length_le (by omega)]
  | d + 1, i, k, hi, hk => by
    obtain ⟨k, rfl⟩ : ∃ m, k = m + 1 := ⟨k - 1, by omega⟩
    have hil : i < l.length := by omega
    obtain ⟨h1, h2⟩ := sumS_nat (l.take i) (fun x hx => hb x (List.mem_of_mem_take hx))
    obtain ⟨c0, c1⟩ := hb l[i] (List.getElem_mem hil)
    obtain ⟨c, hc⟩ := Int.eq_ofNat_of_zero_le c0
    have hr : rd l (i : Int) = (c : Int) := by unfold rd; rw [Int.toNat_natCast, List.getD_eq_getElem?_getD, List.getElem?_eq_getElem hil]; exact hc
    have hw : wrap64 ((i : Int) + 1) = ((i + 1 : Nat) : Int) := by unfold wrap64; omega
    rw [tidemillref02_Sum.l0, if_pos (by omega), if_pos (by omega), hr]
    obtain ⟨u, hu⟩ : ∃ u, itb (8 * (l.take i).length) (4294967295 ^^^ LE (l.take i)) = u := ⟨_, rfl⟩
    rw [hu] at h1 h2
    rw [h1, show (0 : Int) = ((0 : Nat) : Int) from rfl, sum_round l i 8 0 k u c (by omega) (by omega) h2 (by omega), hw]
    have hs : sumS (l.take (i + 1)) = (itb 8 (u ^^^ c) : Nat) := by
      rw [List.take_succ_eq_append_getElem hil, sumS_snoc, h1, hc]
      exact sumN_nat u c h2 (by omega)
    rw [← hs]
    exact sum_loop l hl hb d (i + 1) _ (by omega) (by omega)
theorem all_ones (x : Nat) (h : x < 2 ^ 32) : 4294967295 ^^^ x = 4294967295 - x := by
  have h1 := congrArg BitVec.toNat (BitVec.xor_allOnes (x := BitVec.ofNat 32 x))
  rw [BitVec.toNat_xor, BitVec.toNat_not, BitVec.toNat_allOnes, BitVec.toNat_ofNat, Nat.mod_eq_of_lt h] at h1
  rw [Nat.xor_comm]
  exact h1
theorem sum_eq (k : Nat) (l : List Int) (hl : l.length ≤ 1048576) (hb : ∀ x ∈ l, 0 ≤ x ∧ x ≤ 255) (hk : 10 * l.length < k) : tidemillref02_Sum.f k l = some (sumOf l) := by
  have h := sum_loop l hl hb l.length 0 k (by omega) hk
  rw [List.take_zero] at h
  unfold tidemillref02_Sum.f
  rw [show (4294967295 : Int) = sumS [] from rfl, show (0 : Int) = ((0 : Nat) : Int) from rfl, h]
  obtain ⟨h1, h2⟩ := sumS_nat l hb
  unfold sumOf
  rw [h1, show IntKind.u32.max = ((4294967295 : Nat) : Int) from by decide, u32_xor_nat _ _ (by decide) h2, all_ones _ h2]
  congr 1
  omega
end Go.Proofs.Yteihfipojnfnfaa.PCrcSums

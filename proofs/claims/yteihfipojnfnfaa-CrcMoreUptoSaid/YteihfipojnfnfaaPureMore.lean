import Derived.Test.YteihfipojnfnfaaPCrcMorex1
import Derived.Test.YteihfipojnfnfaaCrcLaws
/- The plain law of CrcMore. -/
namespace Go.Proofs.Yteihfipojnfnfaa.PCrcMore
open Go.RowKit Go.Proofs.Yteihfipojnfnfaa.Crc Go.Proofs.Yteihfipojnfnfaa.Pack Go.Proofs.YteihfipojnfnfaaW.PrintWords
theorem frame_eq (k : Nat) (b : List Int) (hb : ∀ x ∈ b, 0 ≤ x ∧ x ≤ 255) (hl : b.length ≤ 4096) : crc_Frame.f (k + 2) b = some (frameF b, 0) := by
  have hw : IntKind.u64.wrap (b.length : Int) = b.length := by rw [IntKind.wrap_u64]; omega
  have hu : pack_Uint.f (k + 2) [] (b.length : Int) = some (uintB b.length) := by
    unfold pack_Uint.f
    simp only [Option.bind_some]
    rw [if_pos (by simp), pack_Uint.l0]
    by_cases h : b.length < 128
    · rw [if_neg (by omega), if_pos (by simp)]
      unfold uintB
      rw [if_pos h]
      have e : (b.length : Int) % 256 = b.length := by omega
      rw [e]; rfl
    · rw [if_pos (by omega), if_pos (by simp), pack_Uint.l0, if_neg (by omega), if_pos (by simp), or128 _]
      unfold uintB
      rw [if_neg h]
      have e : (b.length : Int) / 128 % 256 = (b.length : Int) / 128 := by omega
      rw [e]; rfl
  have hp : pack_Bytes.f (k + 2) [] b = some (uintB b.length ++ b) := by
    unfold pack_Bytes.f
    rw [hw, hu]
    simp only [Option.bind_some]
    rw [if_pos (by rw [uintB_len]; split <;> omega)]
  have hs : crc_Sum.f b = some (sumOf b) := by
    unfold crc_Sum.f
    rw [if_pos ⟨bytesB_iff.2 hb, by omega⟩]
  have hf : crc_four.f (sumOf b) = some (fourL (sumOf b)) := by
    unfold crc_four.f fourL
    obtain ⟨h0, h1⟩ := sumOf_rng b
    have e : sumOf b / 16777216 % 256 = sumOf b / 16777216 := by omega
    rw [e]
  unfold crc_Frame.f
  rw [if_neg (by omega), hp, Option.bind_some, hs, Option.bind_some, hf, Option.bind_some, if_pos (by rw [List.length_append, uintB_len, fourL_len]; split <;> omega)]
  rfl
theorem frame_no (k : Nat) (b : List Int) (hl : 4096 < b.length) : crc_Frame.f k b = some ([], 2) := by
  unfold crc_Frame.f
  rw [if_pos (by omega)]
theorem more_pure (l0 l1 : List Int) (h0 : ∀ x ∈ l0, 0 ≤ x ∧ x ≤ 255) (h1 : ∀ x ∈ l1, 0 ≤ x ∧ x ≤ 255) (b0 : l0.length ≤ 1048576) (b1 : l1.length ≤ 1048576) : tidemilllaw02_CrcMore.f l0 l1 = some true := by
  obtain ⟨m1, m2, m3⟩ := scanF_more l0 l1
  obtain ⟨t, ht⟩ := m1
  have s0 : crc_Scan.f l0 = some ((scanF l0).1, ((scanF l0).2 : Int)) := by
    unfold crc_Scan.f
    rw [if_pos ⟨bytesB_iff.2 h0, by omega⟩]
  have s1 : crc_Scan.f (l0 ++ l1) = some ((scanF (l0 ++ l1)).1, ((scanF (l0 ++ l1)).2 : Int)) := by
    unfold crc_Scan.f
    rw [if_pos ⟨bytesB_iff.2 fun x hx => (List.mem_append.1 hx).elim (h0 x) (h1 x), by rw [List.length_append]; omega⟩]
  unfold tidemilllaw02_CrcMore.f tidemilllaw02_shown.f
  rw [Option.bind_some, s0, Option.bind_some, Option.bind_some, if_pos (by simp; omega), Option.bind_some, List.nil_append, if_pos (by omega), s1, Option.bind_some]
  rw [if_neg (by simp only; omega), if_neg (by rw [← ht]; simp; omega), if_neg (by simp only; omega), if_pos rfl, if_pos (by simp only; omega), if_pos (by rw [← ht]; simp; omega)]
  unfold tidemillref02_Lists.f
  rw [Option.bind_some, Int.toNat_natCast, ← ht]
  simp only
  rw [List.take_left]
  congr 1
  unfold sameB
  exact decide_eq_true rfl
end Go.Proofs.Yteihfipojnfnfaa.PCrcMore

import Derived.Test.YteihfipojnfnfaaPCrcBackx1
import Derived.Test.YteihfipojnfnfaaCrcLaws
/- The plain law of CrcBack. -/
namespace Go.Proofs.Yteihfipojnfnfaa.PCrcBack
open Go.RowKit Go.Proofs.Yteihfipojnfnfaa.Crc Go.Proofs.Yteihfipojnfnfaa.Pack Go.Proofs.YteihfipojnfnfaaW.PrintWords
theorem frame_eq (k : Nat) (b : List Int) (hb : ∀ x ∈ b, 0 ≤ x ∧ x ≤ 255) (hl : b.length ≤ 4096) : crc_Frame.f (k + 2) b = some (frameF b, 0) := by
  have hw : IntKind.u64.wrap (b.length : Int) = b.length := by rw [IntKind.wrap_u64]; omega
  have hu : pack_Uint.f (k + 2) [] (b.length : Int) = some (uintB b.length) := by
    unfold pack_Uint.f
    simp only [Option.bind_some]
    rw [if_pos (by simp), pack_Uint.l0]
    by_cases h : b.length < 128
    · rw [if_neg (by omega), if_pos (by simp)]
      unfold uintB
      rw [if_pos h]
      have e : (b.length : Int) % 256 = b.length := by omega
      rw [e]; rfl
    · rw [if_pos (by omega), if_pos (by simp), pack_Uint.l0, if_neg (by omega), if_pos (by simp), or128 _]
      unfold uintB
      rw [if_neg h]
      have e : (b.length : Int) / 128 % 256 = (b.length : Int) / 128 := by omega
      rw [e]; rfl
  have hp : pack_Bytes.f (k + 2) [] b = some (uintB b.length ++ b) := by
    unfold pack_Bytes.f
    rw [hw, hu]
    simp only [Option.bind_some]
    rw [if_pos (by rw [uintB_len]; split <;> omega)]
  have hs : crc_Sum.f b = some (sumOf b) := by
    unfold crc_Sum.f
    rw [if_pos ⟨bytesB_iff.2 hb, by omega⟩]
  have hf : crc_four.f (sumOf b) = some (fourL (sumOf b)) := by
    unfold crc_four.f fourL
    obtain ⟨h0, h1⟩ := sumOf_rng b
    have e : sumOf b / 16777216 % 256 = sumOf b / 16777216 := by omega
    rw [e]
  unfold crc_Frame.f
  rw [if_neg (by omega), hp, Option.bind_some, hs, Option.bind_some, hf, Option.bind_some, if_pos (by rw [List.length_append, uintB_len, fourL_len]; split <;> omega)]
  rfl
theorem frame_no (k : Nat) (b : List Int) (hl : 4096 < b.length) : crc_Frame.f k b = some ([], 2) := by
  unfold crc_Frame.f
  rw [if_pos (by omega)]
theorem back_pure (l0 l1 : List Int) (h0 : ∀ x ∈ l0, 0 ≤ x ∧ x ≤ 255) (h1 : ∀ x ∈ l1, 0 ≤ x ∧ x ≤ 255) (b0 : l0.length ≤ 1048576) (b1 : l1.length ≤ 1048576) : tidemilllaw02_CrcBack.f 2 l0 l1 = some true := by
  unfold tidemilllaw02_CrcBack.f tidemilllaw02_shown.f
  rw [Option.bind_some]
  by_cases hl : l0.length ≤ 4096
  · have hfl := frameF_len l0
    have hul := uintB_len l0.length
    have hfl2 : (frameF l0).length ≤ 4102 := by rw [hfl, hul]; split <;> omega
    rw [frame_eq 0 l0 h0 hl, Option.bind_some, if_pos rfl]
    simp only [Option.bind_some, List.nil_append]
    rw [if_pos (by simp; omega), if_pos (by omega)]
    have ho : crc_Open.f (frameF l0 ++ l1) = some (openF (frameF l0 ++ l1)) := by
      unfold crc_Open.f
      rw [if_pos ⟨bytesB_iff.2 fun x hx => (List.mem_append.1 hx).elim (frameF_bytes l0 h0 hl x) (h1 x), by rw [List.length_append]; omega⟩]
    rw [ho, openF_frame l0 hl, Option.bind_some, if_pos rfl, if_pos rfl, if_pos rfl]
    simp only [if_true]
    congr 1
    have : wrap64 ((l0.length : Int) + 4) = (l0.length : Int) + 4 := IntWalk.wrap64_in _ ⟨by omega, by omega⟩
    rw [this]
    exact decide_eq_true (by rw [hfl, hul]; split <;> omega)
  · rw [frame_no 2 l0 (by omega), Option.bind_some, if_neg (by simp), if_pos rfl, if_pos (by omega)]
    rfl
end Go.Proofs.Yteihfipojnfnfaa.PCrcBack

import Derived.Test.YteihfipojnfnfaaPCrcTurnedx2
import Derived.Test.YteihfipojnfnfaaCrcLaws2
import Derived.Test.YteihfipojnfnfaaCrcBurst
/- The plain law of CrcTurned. -/
namespace Go.Proofs.Yteihfipojnfnfaa.PCrcTurned
open Go.RowKit Go.Proofs.Yteihfipojnfnfaa.Crc Go.Proofs.Yteihfipojnfnfaa.Pack Go.Proofs.YteihfipojnfnfaaW.PrintWords
theorem frame_eq (k : Nat) (b : List Int) (hb : ∀ x ∈ b, 0 ≤ x ∧ x ≤ 255) (hl : b.length ≤ 4096) : crc_Frame.f (k + 2) b = some (frameF b, 0) := by
  have hw : IntKind.u64.wrap (b.length : Int) = b.length := by rw [IntKind.wrap_u64]; omega
  have hu : pack_Uint.f (k + 2) [] (b.length : Int) = some (uintB b.length) := by
    unfold pack_Uint.f
    simp only [Option.bind_some]
    rw [if_pos (by simp), pack_Uint.l0]
    by_cases h : b.length < 128
    · rw [if_neg (by omega), if_pos (by simp)]
      unfold uintB
      rw [if_pos h]
      have e : (b.length : Int) % 256 = b.length := by omega
      rw [e]; rfl
    · rw [if_pos (by omega), if_pos (by simp), pack_Uint.l0, if_neg (by omega), if_pos (by simp), or128 _]
      unfold uintB
      rw [if_neg h]
      have e : (b.length : Int) / 128 % 256 = (b.length : Int) / 128 := by omega
      rw [e]; rfl
  have hp : pack_Bytes.f (k + 2) [] b = some (uintB b.length ++ b) := by
    unfold pack_Bytes.f
    rw [hw, hu]
    simp only [Option.bind_some]
    rw [if_pos (by rw [uintB_len]; split <;> omega)]
  have hs : crc_Sum.f b = some (sumOf b) := by
    unfold crc_Sum.f
    rw [if_pos ⟨bytesB_iff.2 hb, by omega⟩]
  have hf : crc_four.f (sumOf b) = some (fourL (sumOf b)) := by
    unfold crc_four.f fourL
    obtain ⟨h0, h1⟩ := sumOf_rng b
    have e : sumOf b / 16777216 % 256 = sumOf b / 16777216 := by omega
    rw [e]
  unfold crc_Frame.f
  rw [if_neg (by omega), hp, Option.bind_some, hs, Option.bind_some, hf, Option.bind_some, if_pos (by rw [List.length_append, uintB_len, fourL_len]; split <;> omega)]
  rfl
theorem frame_no (k : Nat) (b : List Int) (hl : 4096 < b.length) : crc_Frame.f k b = some ([], 2) := by
  unfold crc_Frame.f
  rw [if_pos (by omega)]
theorem shl_one (j : Nat) (h : j < 8) : shl .u8 1 (j : Int) = ((2 ^ j : Nat) : Int) := by
  have : ∀ j : Nat, j < 8 → shl .u8 1 (j : Int) = ((2 ^ j : Nat) : Int) := by decide +kernel
  exact this j h
/-- A frame whose body and sum are others, with the same head: told only if the sum stands. -/
theorem openF_other (n : Nat) (hn : n ≤ 4096) (Q : List Int) (hq : Q.length = n + 4) (h : Q.drop n ≠ fourL (sumOf (Q.take n))) : openF (uintB n ++ Q) = ([], 0, 5) := by
  have hu : uintR (uintB n ++ Q) = ((n : Int), 0, (uintB n).length) := uintR_uintB n hn _
  have e1 : (uintB n ++ Q).drop (uintB n).length = Q := List.drop_left
  have e2 : (uintB n ++ Q).drop ((uintB n).length + n) = Q.drop n := by rw [← List.drop_drop, e1]
  unfold openF
  rw [hu]
  simp only [Int.toNat_natCast]
  rw [e1, e2, List.take_of_length_le (l := Q.drop n) (by rw [List.length_drop]; omega), if_neg (by simp), if_neg (by omega), if_neg (by rw [List.length_append]; omega), if_pos h]
theorem done (b : List Int) (hb : ∀ x ∈ b, 0 ≤ x ∧ x ≤ 255) (hl : b.length ≤ 4096) (p D : Nat) (hD : D < 2 ^ 32) (hp : D ≠ 0 → p ≤ 8 * (b.length + 4)) (Q : List Int) (hq : Q.length = b.length + 4) (hQ : ∀ x ∈ Q, 0 ≤ x ∧ x ≤ 255)
    (he : LE Q = LE (b ++ fourL (sumOf b)) ^^^ 2 ^ p * D) : openF (uintB b.length ++ Q) = if D = 0 then (b, ((frameF b).length : Int), 0) else ([], 0, 5) := by
  obtain ⟨s0, s1⟩ := sumOf_rng b
  by_cases h : D = 0
  · rw [if_pos h]
    subst h
    have hQ2 : Q = b ++ fourL (sumOf b) := by
      refine LE_inj Q _ (by simp [hq, fourL_len]) hQ ?_ (by rw [he]; simp)
      intro x hx
      rcases List.mem_append.1 hx with h | h
      · exact hb x h
      · exact fourL_bytes _ s0 s1 x h
    have := openF_frame b hl []
    rw [List.append_nil] at this
    rw [hQ2, ← List.append_assoc]
    exact this
  · rw [if_neg h]
    refine openF_other b.length hl Q hq fun hd => h ?_
    refine burst b (Q.take b.length) hb (fun x hx => hQ x (List.mem_of_mem_take hx)) (by rw [List.length_take]; omega) D p hD (hp h) ?_
    rw [← hd, List.take_append_drop]; exact he
theorem o1 {i d : Nat} (h : 32 - i = d + 1) : 32 - (i + 1) = d := by omega
theorem o2 {i d : Nat} (h : 32 - i = d + 1) : i + 1 ≤ 32 := by omega
theorem o3 {k d : Nat} (h : d + 1 < k + 1) : d < k := by omega
theorem o4 {D i : Nat} (h : D < 2 ^ i) : D < 2 ^ (i + 1) := Nat.lt_of_lt_of_le h (Nat.pow_le_pow_right (by decide) (by omega))
def Low (D i : Nat) : Prop := D < 2 ^ i
theorem o5 {D i : Nat} (h : Low D i) : Low (D ^^^ 2 ^ i) (i + 1) ∧ D ^^^ 2 ^ i ≠ 0 := by
  unfold Low at h ⊢
  have e := add_xor i D 1 h
  rw [Nat.mul_one] at e
  rw [← e, Nat.pow_succ]
  have := Nat.two_pow_pos i
  exact ⟨by omega, by omega⟩
theorem o6 (p i : Nat) (hp : p ≤ 65535) (hi : i ≤ 32) : wrap64 (p : Int) = (p : Int) ∧ wrap64 ((p : Int) + (i : Int)) = ((p + i : Nat) : Int) ∧ Int.tdiv ((p + i : Nat) : Int) 8 = (((p + i) / 8 : Nat) : Int) ∧ wrap64 ((((p + i) / 8 : Nat)) : Int) = (((p + i) / 8 : Nat) : Int) ∧ Int.tmod ((p + i : Nat) : Int) 8 = (((p + i) % 8 : Nat) : Int) := by
  have h : ((p + i : Nat) : Int) = (p : Int) + (i : Int) := Int.natCast_add p i
  refine ⟨IntWalk.wrap64_in _ ⟨by omega, by omega⟩, ?_, ?_, IntWalk.wrap64_in _ ⟨by omega, by omega⟩, ?_⟩
  · rw [IntWalk.wrap64_in _ ⟨by omega, by omega⟩, h]
  · rw [Int.tdiv_eq_ediv_of_nonneg (by omega)]; exact (Int.natCast_ediv (p + i) 8).symm
  · rw [Int.tmod_eq_emod_of_nonneg (by omega)]; exact (Int.natCast_emod (p + i) 8).symm
theorem o7 (a m : Nat) (ha : a ≤ 2) (hm : m ≤ 10000) : wrap64 ((a : Int) + (m : Int)) = ((a + m : Nat) : Int) := by
  rw [IntWalk.wrap64_in _ ⟨by omega, by omega⟩, Int.natCast_add]
theorem o8 (i : Nat) (hi : i < 32) : wrap64 ((i : Int) + 1) = ((i + 1 : Nat) : Int) := by
  rw [IntWalk.wrap64_in _ ⟨by omega, by omega⟩, Int.natCast_add]; rfl
theorem o9 {i d : Nat} (h : 32 - i = d + 1) : i < 32 := by omega
def Apart (b Q : List Int) (p D : Nat) : Prop := LE Q = LE (b ++ fourL (sumOf b)) ^^^ 2 ^ p * D
set_option maxHeartbeats 8000000 in
theorem loop (b : List Int) (hb : ∀ x ∈ b, 0 ≤ x ∧ x ≤ 255) (hl : b.length ≤ 4096) (p : Nat) (hp : p ≤ 65535) (a2 : Int) :
    ∀ (d i k D : Nat) (Q : List Int), 32 - i = d → i ≤ 32 → d < k → Low D i → (D ≠ 0 → p ≤ 8 * (b.length + 4)) → Q.length = b.length + 4 → (∀ x ∈ Q, 0 ≤ x ∧ x ≤ 255) → Apart b Q p D →
    tidemilllaw02_CrcTurned.l0 k b (p : Int) a2 true (uintB b.length ++ Q) (((uintB b.length).length : Nat) : Int) (decide (D ≠ 0)) (i : Int) = some true := by
  have hul := uintB_len b.length
  have hul2 : (uintB b.length).length ≤ 2 := by rw [hul]; split <;> omega
  intro d
  induction d with
  | zero =>
    intro i k D Q hd hi hk hD hDp hq hQ he
    obtain ⟨k, rfl⟩ : ∃ j, k = j + 1 := ⟨k - 1, by omega⟩
    obtain rfl : i = 32 := by omega
    rw [tidemilllaw02_CrcTurned.l0, if_neg (by omega)]
    have ho : crc_Open.f (uintB b.length ++ Q) = some (openF (uintB b.length ++ Q)) := by
      unfold crc_Open.f
      have hby : ∀ x ∈ uintB b.length ++ Q, 0 ≤ x ∧ x ≤ 255 := by
        intro x hx
        rcases List.mem_append.1 hx with h | h
        · exact uintB_bytes _ hl x h
        · exact hQ x h
      rw [if_pos ⟨bytesB_iff.2 hby, by rw [List.length_append]; omega⟩]
    rw [ho, Option.bind_some, done b hb hl p D hD hDp Q hq hQ he]
    by_cases h : D = 0
    · rw [if_pos h, decide_eq_false (by simpa using h), if_neg (by simp), if_pos rfl, if_pos rfl, beq_self_eq_true]
    · rw [if_neg h, decide_eq_true h]; rfl
  | succ d ih =>
    intro i k D Q hd hi hk hD hDp hq hQ he
    obtain ⟨k, rfl⟩ : ∃ j, k = j + 1 := ⟨k - 1, by omega⟩
    have hstay := ih (i + 1) k D Q (o1 hd) (o2 hd) (o3 hk) (o4 hD) hDp hq hQ he
    rw [tidemilllaw02_CrcTurned.l0, if_pos (by omega), if_pos (by omega), o8 i (o9 hd)]
    have w5 := o7 (uintB b.length).length ((p + i) / 8) hul2 (by omega)
    obtain ⟨w1, w2, w3, w4, w6⟩ := o6 p i hp hi
    rw [w1, w2, w3, w4, w5, w6]
    clear w1 w2 w3 w4 w5 w6
    by_cases hbit : bits .and .u32 (shr .u32 a2 (i : Int)) 1 = 1
    · rw [if_pos hbit]
      by_cases hin : (p + i) / 8 < b.length + 4
      · have hl1 : (uintB b.length ++ Q).length = (uintB b.length).length + (b.length + 4) := by rw [List.length_append, hq]
        rw [if_pos (by rw [hl1]; omega), if_pos (by omega), if_pos (by omega)]
        have hset : ∀ v, (uintB b.length ++ Q).set (((((uintB b.length).length + (p + i) / 8 : Nat)) : Int).toNat) v = uintB b.length ++ Q.set ((p + i) / 8) v := by
          intro v
          rw [Int.toNat_natCast, List.set_append_right _ _ (by omega), Nat.add_sub_cancel_left]
        have hrd : rd (uintB b.length ++ Q) ((((uintB b.length).length + (p + i) / 8 : Nat)) : Int) = Q.getD ((p + i) / 8) 0 := by
          unfold rd
          rw [Int.toNat_natCast, List.getD_eq_getElem?_getD, List.getElem?_append_right (by omega), Nat.add_sub_cancel_left, List.getD_eq_getElem?_getD]
        have hm : Q.getD ((p + i) / 8) 0 ∈ Q := by
          rw [List.getD_eq_getElem?_getD, List.getElem?_eq_getElem (by omega)]; exact List.getElem_mem _
        obtain ⟨c0, c1⟩ := hQ _ hm
        have hpw : 2 ^ ((p + i) % 8) < 2 ^ 8 := Nat.pow_lt_pow_right (by omega) (Nat.mod_lt _ (by omega))
        have hx : bits .xor .u8 (Q.getD ((p + i) / 8) 0) (shl .u8 1 (((p + i) % 8 : Nat) : Int)) = (((Q.getD ((p + i) / 8) 0).toNat ^^^ 2 ^ ((p + i) % 8) : Nat) : Int) := by
          rw [shl_one _ (Nat.mod_lt _ (by omega)), u8_xor _ _ c0 (by omega) (Int.natCast_nonneg _) (Int.ofNat_lt.2 hpw), Int.toNat_natCast]
        have hx8 : (Q.getD ((p + i) / 8) 0).toNat ^^^ 2 ^ ((p + i) % 8) < 2 ^ 8 := Nat.xor_lt_two_pow (by omega) hpw
        rw [hrd, hset, hx]
        have hne := (o5 hD).2
        have := ih (i + 1) k (D ^^^ 2 ^ i) (Q.set ((p + i) / 8) (((Q.getD ((p + i) / 8) 0).toNat ^^^ 2 ^ ((p + i) % 8) : Nat) : Int)) (o1 hd) (o2 hd) (o3 hk)
          (o5 hD).1 (fun _ => by omega) (by rw [List.length_set, hq]) ?_ ?_
        · rw [decide_eq_true hne] at this
          exact this
        · intro x hx
          rcases List.mem_or_eq_of_mem_set hx with h | h
          · exact hQ x h
          · rw [h]; omega
        · unfold Apart at he ⊢
          rw [LE_set Q _ _ hQ (by omega) (by omega), he, mul_xor, Nat.xor_assoc, ← Nat.pow_add, ← Nat.pow_add, Nat.div_add_mod]
      · rw [if_neg (by rw [List.length_append, hq]; omega)]
        exact hstay
    · rw [if_neg hbit]
      exact hstay
theorem turned_pure (l0 : List Int) (a1 a2 : Int) (h1 : 0 ≤ a1 ∧ a1 ≤ 65535) (hb : ∀ x ∈ l0, 0 ≤ x ∧ x ≤ 255) : tidemilllaw02_CrcTurned.f 100 l0 a1 a2 = some true := by
  obtain ⟨p, rfl⟩ := Int.eq_ofNat_of_zero_le h1.1
  unfold tidemilllaw02_CrcTurned.f tidemilllaw02_shown.f
  rw [Option.bind_some]
  by_cases hl : l0.length ≤ 4096
  · have hfl := frameF_len l0
    have hul := uintB_len l0.length
    have hw : wrap64 ((l0.length : Int) + 4) = ((l0.length + 4 : Nat) : Int) := by rw [IntWalk.wrap64_in _ ⟨by omega, by omega⟩]; rfl
    have hul2 : 1 ≤ (uintB l0.length).length ∧ (uintB l0.length).length ≤ 2 := by rw [hul]; split <;> omega
    rw [frame_eq 98 l0 hb hl, Option.bind_some, if_pos rfl, hw, decide_eq_false (by simp only; omega), tidemilllaw02_CrcTurned.j0, if_neg (by simp)]
    have w1 : wrap64 (((frameF l0).length : Int) - (l0.length : Int)) = (((uintB l0.length).length + 4 : Nat) : Int) := by rw [IntWalk.wrap64_in _ ⟨by omega, by omega⟩]; omega
    have w2 : wrap64 ((((uintB l0.length).length + 4 : Nat) : Int) - 4) = (((uintB l0.length).length : Nat) : Int) := by rw [IntWalk.wrap64_in _ ⟨by omega, by omega⟩]; omega
    simp only
    rw [w1, w2]
    obtain ⟨s0, s1⟩ := sumOf_rng l0
    have := loop l0 hb hl p (by omega) a2 32 0 99 0 (l0 ++ fourL (sumOf l0)) (by omega) (by omega) (by omega) (by unfold Low; decide) (fun h => absurd rfl h) (by simp [fourL_len]) ?_ (by simp [Apart])
    · rw [decide_eq_false (by simp)] at this
      unfold frameF
      rw [List.append_assoc]
      exact this
    · intro x hx
      rcases List.mem_append.1 hx with h | h
      · exact hb x h
      · exact fourL_bytes _ s0 s1 x h
  · rw [frame_no 100 l0 (by omega), Option.bind_some, if_neg (by simp), tidemilllaw02_CrcTurned.j0, if_pos rfl, if_pos rfl, decide_eq_true (by omega)]
end Go.Proofs.Yteihfipojnfnfaa.PCrcTurned

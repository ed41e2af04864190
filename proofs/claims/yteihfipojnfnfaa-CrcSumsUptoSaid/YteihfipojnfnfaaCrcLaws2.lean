import Derived.Test.YteihfipojnfnfaaCrcLaws
/- More plain laws of frames: rows, and a spoilt frame. -/
namespace Go.Proofs.Yteihfipojnfnfaa.Crc
open Go.RowKit Go.Proofs.Yteihfipojnfnfaa.Pack
theorem framesF_append (a b : List (List Int)) : framesF (a ++ b) = framesF a ++ framesF b := List.flatMap_append
theorem framesF_cons (b : List Int) (r : List (List Int)) : framesF (b :: r) = frameF b ++ framesF r := List.flatMap_cons
theorem framesF_take (x0 : List (List Int)) (i : Nat) (h : i < x0.length) : framesF (x0.take (i + 1)) = framesF (x0.take i) ++ frameF (x0[i]) := by
  rw [List.take_succ_eq_append_getElem h, framesF_append, framesF_cons]; simp [framesF]
theorem framesF_split (l : List (List Int)) (w : Nat) : framesF l = framesF (l.take w) ++ framesF (l.drop w) := by
  rw [← framesF_append, List.take_append_drop]
theorem framesF_bound (l : List (List Int)) (hb : ∀ b ∈ l, b.length ≤ 4096) : (framesF l).length ≤ 4102 * l.length := by
  induction l with
  | nil => simp [framesF]
  | cons b r ih =>
    have e : framesF (b :: r) = frameF b ++ framesF r := by simp [framesF]
    have h1 := frameF_len b
    have h2 := uintB_len b.length
    have h3 := hb b (by simp)
    have h4 := ih (fun x hx => hb x (by simp [hx]))
    rw [e, List.length_append, List.length_cons]
    split at h2 <;> omega
theorem framesF_bytes (l : List (List Int)) (hb : ∀ b ∈ l, b.length ≤ 4096 ∧ ∀ x ∈ b, 0 ≤ x ∧ x ≤ 255) : ∀ x ∈ framesF l, 0 ≤ x ∧ x ≤ 255 := by
  intro x hx
  unfold framesF at hx
  obtain ⟨b, hbm, hxb⟩ := List.mem_flatMap.1 hx
  exact frameF_bytes b (hb b hbm).2 (hb b hbm).1 x hxb
/-- A frame but for its last byte. -/
def bodyF (b : List Int) : List Int := uintB b.length ++ b ++ [sumOf b % 256, sumOf b / 256 % 256, sumOf b / 65536 % 256]
theorem frameF_body (b : List Int) : frameF b = bodyF b ++ [sumOf b / 16777216] := by unfold frameF bodyF fourL; simp
theorem openF_spoilt (b : List Int) (hb : b.length ≤ 4096) (v : Int) (hv : v ≠ sumOf b / 16777216) (rest : List Int) : openF (bodyF b ++ [v] ++ rest) = ([], 0, 5) := by
  have e0 : bodyF b ++ [v] ++ rest = uintB b.length ++ (b ++ ([sumOf b % 256, sumOf b / 256 % 256, sumOf b / 65536 % 256, v] ++ rest)) := by unfold bodyF; simp
  have hu : uintR (bodyF b ++ [v] ++ rest) = ((b.length : Int), 0, (uintB b.length).length) := by rw [e0]; exact uintR_uintB b.length hb _
  have e1 : (bodyF b ++ [v] ++ rest).drop (uintB b.length).length = b ++ ([sumOf b % 256, sumOf b / 256 % 256, sumOf b / 65536 % 256, v] ++ rest) := by rw [e0]; exact List.drop_left
  have e2 : (bodyF b ++ [v] ++ rest).drop ((uintB b.length).length + b.length) = [sumOf b % 256, sumOf b / 256 % 256, sumOf b / 65536 % 256, v] ++ rest := by
    rw [← List.drop_drop, e1]; exact List.drop_left
  have hl : (bodyF b ++ [v] ++ rest).length = (uintB b.length).length + b.length + 4 + rest.length := by rw [e0]; simp; omega
  unfold openF
  rw [hu]
  simp only [Int.toNat_natCast]
  rw [e1, e2]
  have e3 : (b ++ ([sumOf b % 256, sumOf b / 256 % 256, sumOf b / 65536 % 256, v] ++ rest)).take b.length = b := List.take_left
  rw [e3, if_neg (by simp), if_neg (by omega), if_neg (by rw [hl]; omega), if_pos]
  intro h
  apply hv
  simp [fourL] at h
  exact h
theorem xor1_ne (x : Int) (h0 : 0 ≤ x) (h1 : x ≤ 255) : bits .xor .u8 x 1 ≠ x ∧ 0 ≤ bits .xor .u8 x 1 ∧ bits .xor .u8 x 1 ≤ 255 := by
  obtain ⟨n, rfl⟩ := Int.eq_ofNat_of_zero_le h0
  rw [u8_xor n 1 h0 (by omega) (by omega) (by omega), Int.toNat_natCast]
  have h : ∀ m : Nat, m < 256 → ((m ^^^ (1 : Int).toNat : Nat) : Int) ≠ (m : Int) ∧ (m ^^^ (1 : Int).toNat : Nat) ≤ 255 := by decide +kernel
  obtain ⟨h2, h3⟩ := h n (by omega)
  exact ⟨h2, by omega, by omega⟩
/-- The last byte of frame k turned: just the frames ahead of it are told. -/
theorem scan_spoilt (l : List (List Int)) (hb : ∀ b ∈ l, b.length ≤ 4096 ∧ ∀ x ∈ b, 0 ≤ x ∧ x ≤ 255) (k : Nat) (hk : k < l.length) (e : Nat) (he : e = (framesF (l.take (k + 1))).length - 1) :
    0 < (framesF (l.take (k + 1))).length ∧ e < (framesF l).length ∧ scanF ((framesF l).set e (bits .xor .u8 ((framesF l).getD e 0) 1)) = (l.take k, (framesF (l.take k)).length) ∧ ∀ x ∈ (framesF l).set e (bits .xor .u8 ((framesF l).getD e 0) 1), 0 ≤ x ∧ x ≤ 255 := by
  have hsp : framesF l = framesF (l.take k) ++ (bodyF (l[k]) ++ (sumOf (l[k]) / 16777216 :: framesF (l.drop (k + 1)))) := by
    rw [framesF_split l k, List.drop_eq_getElem_cons hk, framesF_cons, frameF_body]; simp
  have hlen : (framesF (l.take (k + 1))).length = (framesF (l.take k)).length + ((bodyF (l[k])).length + 1) := by
    rw [framesF_take l k hk, frameF_body]; simp
  have he' : e = (framesF (l.take k)).length + (bodyF (l[k])).length := by omega
  have hg : (framesF l).getD e 0 = sumOf (l[k]) / 16777216 := by
    rw [List.getD_eq_getElem?_getD, hsp, he', List.getElem?_append_right (by omega), List.getElem?_append_right (by omega)]
    have : (framesF (l.take k)).length + (bodyF (l[k])).length - (framesF (l.take k)).length - (bodyF (l[k])).length = 0 := by omega
    rw [this]; rfl
  obtain ⟨s0, s1⟩ := sumOf_rng (l[k])
  obtain ⟨x1, x2, x3⟩ := xor1_ne (sumOf (l[k]) / 16777216) (by omega) (by omega)
  rw [hg]
  have hset : ∀ v, (framesF l).set e v = framesF (l.take k) ++ (bodyF (l[k]) ++ [v] ++ framesF (l.drop (k + 1))) := by
    intro v
    rw [hsp, he', List.set_append_right _ _ (by omega)]
    congr 1
    rw [List.set_append_right _ _ (by omega)]
    have : (framesF (l.take k)).length + (bodyF (l[k])).length - (framesF (l.take k)).length - (bodyF (l[k])).length = 0 := by omega
    rw [this]
    simp
  refine ⟨by omega, by rw [hsp]; simp; omega, ?_, ?_⟩
  · rw [hset]
    refine scanF_frames (l.take k) _ (fun b hbm => (hb b (List.mem_of_mem_take hbm)).1) (.inr ?_)
    rw [openF_spoilt (l[k]) (hb _ (List.getElem_mem hk)).1 _ x1]
    simp
  · intro x hx
    rcases List.mem_or_eq_of_mem_set hx with h | h
    · exact framesF_bytes l hb x h
    · rw [h]; exact ⟨x2, x3⟩
end Go.Proofs.Yteihfipojnfnfaa.Crc

import Derived.Test.YtiinelmednbpmaaGreatMOpen
/- Plain: what a node answers; a quorum that is reached. -/
namespace Go.Proofs.YtiinelmednbpmaaGreat.Slog
open Go.Proofs.YtiinelmednbpmaaGreat.Slot Go.Proofs.YtiinelmednbpmaaGreat.Quor Go.Proofs.YtiinelmednbpmaaGreat.Crc
theorem writeR_spec (room : Int) (t : S3) (ep at_ : Int) (b : List Int) :
    ((writeR room t ep at_ b).1 ≠ 0 ∧ (writeR room t ep at_ b).2 = t) ∨
    ((writeR room t ep at_ b).1 = 0 ∧ InW ep at_ b ∧ t.1 ≤ ep ∧ ((Slot.look t.2.1 at_ = some (at_, ep, b) ∧ (writeR room t ep at_ b).2 = t) ∨ (Free t ep at_ ∧ (writeR room t ep at_ b).2 = wrote t ep at_ b))) := by
  unfold writeR
  by_cases h : at_ < 0 ∨ 4096 ≤ at_ ∨ ep < 0 ∨ 1048576 < ep ∨ 2048 < b.length
  · rw [if_pos h]; exact .inl ⟨by simp, rfl⟩
  · rw [if_neg h]
    have hi : InW ep at_ b := by unfold InW; omega
    have hi' := hi
    obtain ⟨h1, h2, h3, h4, h5⟩ := hi'
    by_cases h6 : ep < t.1
    · rw [if_pos h6]; exact .inl ⟨by simp, rfl⟩
    · rw [if_neg h6]
      have note : Free t ep at_ → ((noteR room t (writeP ep.toNat at_.toNat b)).1 ≠ 0 ∧ (noteR room t (writeP ep.toNat at_.toNat b)).2 = t) ∨ ((noteR room t (writeP ep.toNat at_.toNat b)).1 = 0 ∧ (noteR room t (writeP ep.toNat at_.toNat b)).2 = wrote t ep at_ b) := by
        intro hf
        unfold noteR
        by_cases h7 : ((frameF (writeP ep.toNat at_.toNat b)).length : Int) ≤ room - t.2.2.length
        · rw [if_pos h7]; exact .inr ⟨rfl, note_write t ep at_ b h3 h4 h1 h2 h5 (by omega) hf⟩
        · rw [if_neg h7]; exact .inl ⟨by simp, rfl⟩
      cases hl : Slot.look t.2.1 at_ with
      | none =>
        simp only
        rcases note (.inl hl) with h | h
        · exact .inl h
        · exact .inr ⟨h.1, hi, by omega, .inr ⟨.inl hl, h.2⟩⟩
      | some d =>
        simp only
        by_cases h7 : ep ≤ d.2.1
        · rw [if_pos h7]
          by_cases h8 : d.2.1 = ep ∧ d.2.2 = b
          · rw [if_pos h8]
            have hd := (look_mem hl).2
            refine .inr ⟨rfl, hi, by omega, .inl ⟨?_, rfl⟩⟩
            obtain ⟨d1, d2, d3⟩ := d
            simp only at hd h8
            obtain ⟨rfl, rfl⟩ := h8
            rw [hd]
          · rw [if_neg h8]; exact .inl ⟨by simp, rfl⟩
        · rw [if_neg h7]
          have hf : Free t ep at_ := .inr ⟨d, hl, by omega⟩
          rcases note hf with h | h
          · exact .inl h
          · exact .inr ⟨h.1, hi, by omega, .inr ⟨hf, h.2⟩⟩
theorem sealR_spec (room : Int) (t : S3) (ep : Int) :
    ((sealR room t ep).1 ≠ 0 ∧ (sealR room t ep).2 = t) ∨ ((sealR room t ep).1 = 0 ∧ 0 ≤ ep ∧ ep ≤ 1048576 ∧ t.1 < ep ∧ (sealR room t ep).2 = (ep, t.2.1, t.2.2 ++ frameF (sealP ep.toNat))) := by
  unfold sealR
  by_cases h : ep < 0 ∨ 1048576 < ep
  · rw [if_pos h]; exact .inl ⟨by simp, rfl⟩
  · rw [if_neg h]
    by_cases h2 : ep ≤ t.1
    · rw [if_pos h2]; exact .inl ⟨by simp, rfl⟩
    · rw [if_neg h2]
      unfold noteR
      by_cases h7 : ((frameF (sealP ep.toNat)).length : Int) ≤ room - t.2.2.length
      · rw [if_pos h7]; exact .inr ⟨rfl, by omega, by omega, by omega, note_seal t ep (by omega) (by omega) (by omega)⟩
      · rw [if_neg h7]; exact .inl ⟨by simp, rfl⟩
theorem wframe_len (ep at_ : Int) (b : List Int) (h2 : 0 ≤ at_) (h3 : at_ < 4096) (h4 : b.length ≤ 2048) : (frameF (writeP ep.toNat at_.toNat b)).length ≤ b.length + 14 := by
  have h1 := frame_len (writeP ep.toNat at_.toNat b)
  have h5 := writeP_len ep.toNat at_.toNat b (by omega) h4
  omega
theorem sframe_len (ep : Int) : (frameF (sealP ep.toNat)).length ≤ 10 := by
  have h1 := frame_len (sealP ep.toNat)
  have h5 := sealP_len ep.toNat
  omega
/-- A write that fits is answered OK. -/
theorem writeR_ok {room : Int} {t : S3} {ep at_ : Int} {b : List Int} (hi : InW ep at_ b) (h1 : t.1 ≤ ep) (hf : Free t ep at_) (hfit : (t.2.2.length : Int) + b.length + 14 ≤ room) : writeR room t ep at_ b = (0, wrote t ep at_ b) := by
  have hi' := hi
  obtain ⟨q1, q2, q3, q4, q5⟩ := hi'
  have hl := wframe_len ep at_ b q1 q2 q5
  unfold writeR
  rw [if_neg (by omega), if_neg (by omega)]
  have hn : noteR room t (writeP ep.toNat at_.toNat b) = (0, wrote t ep at_ b) := by
    unfold noteR
    rw [if_pos (by omega), note_write t ep at_ b q3 q4 q1 q2 q5 h1 hf]
  rcases hf with hl2 | ⟨d, hl2, hd⟩
  · rw [hl2]; exact hn
  · rw [hl2]; simp only; rw [if_neg (by omega)]; exact hn
theorem sealR_ok {room : Int} {t : S3} {ep : Int} (h0 : 0 ≤ ep) (h1 : ep ≤ 1048576) (h2 : t.1 < ep) (hfit : (t.2.2.length : Int) + 10 ≤ room) : sealR room t ep = (0, (ep, t.2.1, t.2.2 ++ frameF (sealP ep.toNat))) := by
  have hl := sframe_len ep
  unfold sealR noteR
  rw [if_neg (by omega), if_neg (by omega), if_pos (by omega), note_seal t ep h0 h1 h2]
def reachN (rs : List Bool) (n : Nat) : Nat := ((List.range n).filter fun i => rs.getD i false).length
/-- Where all that are reached answer OK, as many do as are reached. -/
theorem askN_all (f : S3 → Int × S3) (rs : List Bool) (st : List S3) (h : ∀ i t, st[i]? = some t → rs.getD i false = true → (f t).1 = 0) : ∀ k, k ≤ st.length → cnt f rs st k = reachN rs k
  | 0, _ => by rw [cnt_zero]; rfl
  | k + 1, hk => by
    have hx : st[k]? = some st[k] := List.getElem?_eq_getElem (by omega)
    rw [cnt_succ f rs st k _ hx, askN_all f rs st h k (by omega)]
    unfold reachN
    rw [List.range_succ, List.filter_append, List.length_append]
    congr 1
    unfold wellI
    rw [List.filter_cons, List.filter_nil]
    by_cases hr : rs.getD k false = true
    · rw [hr, h k _ hx hr]; rfl
    · have : rs.getD k false = false := by simpa using hr
      rw [this]; rfl
theorem quorum_iff (n c : Nat) (h : n % 2 = 1) : needN n ≤ c ↔ n < 2 * c := by unfold needN; omega
end Go.Proofs.YtiinelmednbpmaaGreat.Slog

import Derived.Test.YtdfpcldoakbehaaCrcScan
/- Plain laws of frames: what is framed is opened; more behind plays no part; what is cut isn't opened. -/
namespace Go.Proofs.Ytdfpcldoakbehaa.Crc
open Go.RowKit Go.Proofs.Ytdfpcldoakbehaa.Pack
/-- A number's bytes (up to 16383). -/
def uintB (n : Nat) : List Int := if n < 128 then [(n : Int)] else [(n : Int) % 128 + 128, (n : Int) / 128]
def frameF (b : List Int) : List Int := uintB b.length ++ b ++ fourL (sumOf b)
theorem fourL_len (a : Int) : (fourL a).length = 4 := rfl
theorem uintB_len (n : Nat) : (uintB n).length = if n < 128 then 1 else 2 := by unfold uintB; split <;> rfl
theorem frameF_len (b : List Int) : (frameF b).length = (uintB b.length).length + b.length + 4 := by simp [frameF, fourL_len]; omega
theorem uintR_uintB (n : Nat) (hn : n ≤ 4096) (rest : List Int) : uintR (uintB n ++ rest) = ((n : Int), 0, (uintB n).length) := by
  unfold uintR uintB
  split
  · rename_i h
    rw [uintGo]
    simp
    rw [if_neg (by omega)]
    congr 1
    omega
  · rename_i h
    rw [uintGo]
    simp
    rw [if_pos (by omega), uintGo]
    simp
    rw [if_neg (by omega), if_neg (by omega)]
    congr 1
    omega
theorem sumOf_rng (X : List Int) : 0 ≤ sumOf X ∧ sumOf X < 4294967296 := sumOf_range X
theorem openF_frame (b : List Int) (hb : b.length ≤ 4096) (rest : List Int) : openF (frameF b ++ rest) = (b, ((frameF b).length : Int), 0) := by
  have hu : uintR (frameF b ++ rest) = ((b.length : Int), 0, (uintB b.length).length) := by
    unfold frameF
    rw [List.append_assoc, List.append_assoc]
    exact uintR_uintB b.length hb _
  have hl := frameF_len b
  have e0 : frameF b ++ rest = uintB b.length ++ (b ++ (fourL (sumOf b) ++ rest)) := by unfold frameF; simp [List.append_assoc]
  have e1 : (frameF b ++ rest).drop (uintB b.length).length = b ++ (fourL (sumOf b) ++ rest) := by rw [e0]; exact List.drop_left
  have e2 : (frameF b ++ rest).drop ((uintB b.length).length + b.length) = fourL (sumOf b) ++ rest := by
    rw [← List.drop_drop, e1]; exact List.drop_left
  unfold openF
  rw [hu]
  simp only [Int.toNat_natCast]
  rw [e1, e2]
  have e3 : (b ++ (fourL (sumOf b) ++ rest)).take b.length = b := List.take_left
  have e4 : (fourL (sumOf b) ++ rest).take 4 = fourL (sumOf b) := by
    rw [show (4 : Nat) = (fourL (sumOf b)).length from rfl]; exact List.take_left
  rw [e3, e4, if_neg (by simp), if_neg (by omega), if_neg (by rw [List.length_append]; omega), if_neg (by simp)]
  rw [hl]
/-- What was read well is read so with more behind. -/
theorem uintGo_more : ∀ (k : Nat) (l m : List Int) (i : Nat) (x : Int), i ≤ l.length → (uintGo k l i x).2.1 = 0 → uintGo k (l ++ m) i x = uintGo k l i x
  | 0, l, m, i, x, _, h => by unfold uintGo at h; split at h <;> simp at h
  | k + 1, l, m, i, x, hi, h => by
    rw [uintGo] at h ⊢
    conv => rhs; rw [uintGo]
    by_cases e : i = l.length
    · rw [if_pos e] at h; simp at h
    · have hlt : i < l.length := by omega
      have hg : (l ++ m).getD i 0 = l.getD i 0 := by
        rw [List.getD_eq_getElem?_getD, List.getD_eq_getElem?_getD, List.getElem?_append_left hlt]
      rw [if_neg e] at h ⊢
      rw [if_neg (by rw [List.length_append]; omega), hg]
      split
      · rename_i h1
        rw [if_pos h1] at h
      · rename_i h1
        rw [if_neg h1] at h
        split
        · rename_i h2
          rw [if_pos h2] at h
          exact uintGo_more k l m (i + 1) _ (by omega) h
        · rfl
theorem openF_more (l m : List Int) (h : (openF l).2.2 = 0) : openF (l ++ m) = openF l := by
  have hu : (uintR l).2.1 = 0 := by
    unfold openF at h
    simp only at h
    by_cases e : (uintR l).2.1 ≠ 0
    · rw [if_pos e] at h; exact absurd h e
    · simpa using e
  have hm : uintR (l ++ m) = uintR l := uintGo_more 10 l m 0 0 (Nat.zero_le _) hu
  obtain ⟨sp1, sp2, _⟩ := uintR_spec l
  unfold openF at h ⊢
  simp only at h ⊢
  rw [hm]
  rw [if_neg (by simpa using hu)] at h ⊢
  conv => rhs; rw [if_neg (by simpa using hu)]
  by_cases h2 : 4096 < (uintR l).1
  · rw [if_pos h2] at h; simp at h
  · rw [if_neg h2] at h ⊢
    conv => rhs; rw [if_neg h2]
    by_cases h3 : ((l.length - (uintR l).2.2 : Nat) : Int) < (uintR l).1 + 4
    · rw [if_pos h3] at h; simp at h
    · rw [if_neg h3] at h
      conv => rhs; rw [if_neg h3]
      rw [if_neg (by rw [List.length_append]; omega)]
      obtain ⟨n, hn⟩ := Int.eq_ofNat_of_zero_le sp2
      rw [hn, Int.toNat_natCast]
      rw [hn] at h3
      have e1 : ((l ++ m).drop (uintR l).2.2).take n = (l.drop (uintR l).2.2).take n := by
        rw [List.drop_append_of_le_length (by omega), List.take_append_of_le_length (by rw [List.length_drop]; omega)]
      have e2 : ((l ++ m).drop ((uintR l).2.2 + n)).take 4 = (l.drop ((uintR l).2.2 + n)).take 4 := by
        rw [List.drop_append_of_le_length (by omega), List.take_append_of_le_length (by rw [List.length_drop]; omega)]
      rw [e1, e2]
/-- A frame that is cut isn't opened. -/
theorem openF_cut (b p q : List Int) (hb : b.length ≤ 4096) (h : frameF b = p ++ q) (hq : 0 < q.length) : (openF p).2.2 ≠ 0 := by
  intro h0
  have h1 := openF_more p q h0
  have h2 := openF_frame b hb []
  rw [List.append_nil, h, h1] at h2
  have h3 := (openF_ok p h0).2.1
  rw [h2] at h3
  simp only [List.length_append] at h3
  omega
/-! rows of frames -/
def framesF (l : List (List Int)) : List Int := l.flatMap frameF
theorem scan_frames : ∀ (l : List (List Int)) (k : Nat) (pre rest : List Int), (∀ b ∈ l, b.length ≤ 4096) → l.length < k →
    scanGo k (pre ++ framesF l ++ rest) pre.length = (l ++ (scanGo (k - l.length) (pre ++ framesF l ++ rest) (pre ++ framesF l).length).1, (scanGo (k - l.length) (pre ++ framesF l ++ rest) (pre ++ framesF l).length).2)
  | [], k, pre, rest, _, _ => by simp [framesF]
  | b :: r, k, pre, rest, hb, hk => by
    obtain ⟨k, rfl⟩ : ∃ j, k = j + 1 := ⟨k - 1, by simp at hk; omega⟩
    have hf : framesF (b :: r) = frameF b ++ framesF r := by simp [framesF]
    have hlen := frameF_len b
    have hd : (pre ++ framesF (b :: r) ++ rest).drop pre.length = frameF b ++ (framesF r ++ rest) := by
      rw [hf, List.append_assoc, List.drop_left, List.append_assoc]
    have ho : openF ((pre ++ framesF (b :: r) ++ rest).drop pre.length) = (b, ((frameF b).length : Int), 0) := by rw [hd]; exact openF_frame b (hb b (by simp)) _
    have hre : pre ++ framesF (b :: r) ++ rest = (pre ++ frameF b) ++ framesF r ++ rest := by rw [hf]; simp [List.append_assoc]
    have ih := scan_frames r k (pre ++ frameF b) rest (fun x hx => hb x (by simp [hx])) (by simp at hk; omega)
    rw [scanGo, if_pos (by rw [hf]; simp [hlen]; omega), ho]
    simp only [ne_eq, not_true, if_false, Int.toNat_natCast]
    have e1 : pre.length + (frameF b).length = (pre ++ frameF b).length := by simp
    rw [e1, hre, ih]
    have e2 : k + 1 - (b :: r).length = k - r.length := by simp
    rw [e2]
    have e3 : (pre ++ framesF (b :: r)).length = (pre ++ frameF b ++ framesF r).length := by rw [hf]; simp
    rw [e3]
    simp
/-- Whole frames, and behind them what isn't opened: just the frames are told. -/
theorem scanF_frames (l : List (List Int)) (rest : List Int) (hb : ∀ b ∈ l, b.length ≤ 4096) (hr : rest = [] ∨ (openF rest).2.2 ≠ 0) : scanF (framesF l ++ rest) = (l, (framesF l).length) := by
  have hlen : ∀ r : List (List Int), r.length ≤ (framesF r).length := by
    intro r
    induction r with
    | nil => simp
    | cons b r ih =>
      have : framesF (b :: r) = frameF b ++ framesF r := by simp [framesF]
      rw [this]
      have := frameF_len b
      simp; omega
  have h := scan_frames l ((framesF l ++ rest).length + 1) [] rest hb (by have := hlen l; simp; omega)
  rw [List.nil_append] at h
  unfold scanF
  simp only [List.length_nil] at h
  rw [h]
  obtain ⟨j, hj⟩ : ∃ j, (framesF l ++ rest).length + 1 - l.length = j + 1 := ⟨(framesF l ++ rest).length - l.length, by have := hlen l; simp; omega⟩
  rw [hj, scanGo]
  rcases hr with rfl | hr
  · simp
  · have hd : (framesF l ++ rest).drop (framesF l).length = rest := List.drop_left
    rw [hd, if_pos hr]
    by_cases e : (framesF l).length < (framesF l ++ rest).length
    · rw [if_pos e]; simp
    · rw [if_neg e]; simp
/-- What is scanned with more behind begins with what is scanned. -/
theorem scanGo_more : ∀ (k j : Nat) (l m : List Int) (p : Nat), p ≤ l.length → l.length < k + p → (l ++ m).length < j + p → (scanGo k l p).1 <+: (scanGo j (l ++ m) p).1 ∧ (scanGo k l p).2 ≤ (scanGo j (l ++ m) p).2 ∧ (scanGo k l p).2 ≤ l.length ∧ p ≤ (scanGo j (l ++ m) p).2
  | 0, j, l, m, p, hp, hk, _ => by omega
  | k + 1, j, l, m, p, hp, hk, hj => by
    obtain ⟨j, rfl⟩ : ∃ i, j = i + 1 := ⟨j - 1, by have := hj; rw [List.length_append] at this; omega⟩
    have mono : ∀ (i : Nat) (L : List Int) (q : Nat), q ≤ (scanGo i L q).2 := by
      intro i
      induction i with
      | zero => intro L q; simp [scanGo]
      | succ i ih =>
        intro L q
        rw [scanGo]
        split
        · split
          · exact Nat.le_refl _
          · exact Nat.le_trans (Nat.le_add_right _ _) (ih L _)
        · exact Nat.le_refl _
    rw [scanGo]
    by_cases hlt : p < l.length
    · rw [if_pos hlt]
      by_cases he : (openF (l.drop p)).2.2 ≠ 0
      · rw [if_pos he]
        exact ⟨List.nil_prefix, mono _ _ _, by simpa using hp, mono _ _ _⟩
      · rw [if_neg he]
        have h0 : (openF (l.drop p)).2.2 = 0 := by simpa using he
        have hm : openF ((l ++ m).drop p) = openF (l.drop p) := by
          rw [List.drop_append_of_le_length hp]; exact openF_more _ _ h0
        obtain ⟨q1, q2, _⟩ := openF_ok _ h0
        rw [List.length_drop] at q2
        have hp' : p + (openF (l.drop p)).2.1.toNat ≤ l.length := by omega
        obtain ⟨ih1, ih2, ih3, ih4⟩ := scanGo_more k j l m (p + (openF (l.drop p)).2.1.toNat) hp' (by omega) (by omega)
        conv => arg 1; rhs; rw [scanGo]
        rw [scanGo]
        rw [if_pos (by rw [List.length_append]; omega), hm, if_neg he]
        exact ⟨List.cons_prefix_cons.2 ⟨rfl, ih1⟩, ih2, ih3, by simp only; omega⟩
    · rw [if_neg hlt]
      exact ⟨List.nil_prefix, mono _ _ _, by simpa using hp, mono _ _ _⟩
theorem scanF_more (l m : List Int) : (scanF l).1 <+: (scanF (l ++ m)).1 ∧ (scanF l).2 ≤ (scanF (l ++ m)).2 ∧ (scanF l).2 ≤ l.length := by
  obtain ⟨h1, h2, h3, _⟩ := scanGo_more (l.length + 1) ((l ++ m).length + 1) l m 0 (Nat.zero_le _) (by omega) (by omega)
  exact ⟨h1, h2, h3⟩
theorem uintB_bytes (n : Nat) (hn : n ≤ 4096) : ∀ x ∈ uintB n, 0 ≤ x ∧ x ≤ 255 := by
  unfold uintB
  intro x hx
  split at hx <;> simp at hx <;> omega
theorem fourL_bytes (a : Int) (h0 : 0 ≤ a) (h1 : a < 4294967296) : ∀ x ∈ fourL a, 0 ≤ x ∧ x ≤ 255 := by
  unfold fourL
  intro x hx
  simp at hx
  omega
theorem frameF_bytes (b : List Int) (hb : ∀ x ∈ b, 0 ≤ x ∧ x ≤ 255) (hl : b.length ≤ 4096) : ∀ x ∈ frameF b, 0 ≤ x ∧ x ≤ 255 := by
  intro x hx
  unfold frameF at hx
  rcases List.mem_append.1 hx with hx | hx
  · rcases List.mem_append.1 hx with hx | hx
    · exact uintB_bytes _ hl x hx
    · exact hb x hx
  · exact fourL_bytes _ (sumOf_rng b).1 (sumOf_rng b).2 x hx
theorem or128 (n : Nat) : bits .or .u8 ((n : Int) % 256) 128 = (n : Int) % 128 + 128 := by
  have e : ((n : Int) % 256) = ((n % 256 : Nat) : Int) := by omega
  rw [e, u8_or ((n % 256 : Nat) : Int) 128 (by omega) (by omega) (by omega) (by omega), Int.toNat_natCast]
  have h2 : ∀ m : Nat, m < 256 → ((m ||| (128 : Int).toNat : Nat) : Int) = (m : Int) % 128 + 128 := by decide +kernel
  rw [h2 _ (by omega)]; omega
end Go.Proofs.Ytdfpcldoakbehaa.Crc

import Derived.Test.YteihfipojnfnfaaPureSums2
/- The plain law of CrcSums, the third part: what is opened, and what is scanned. -/
namespace Go.Proofs.Yteihfipojnfnfaa.PCrcSums
open Go.RowKit Go.Proofs.Yteihfipojnfnfaa.Crc Go.Proofs.Yteihfipojnfnfaa.Pack Go.Proofs.YteihfipojnfnfaaW.PrintWords
theorem uintGo_big : ∀ (f : Nat) (l : List Int) (i : Nat) (x n : Int) (u : Nat), (∀ y ∈ l, 0 ≤ y ∧ y ≤ 255) → 0 < i → 0 ≤ x → i ≤ l.length → uintGo f l i x = (n, 0, u) → 2 ^ (7 * i) ≤ n
  | 0, l, i, x, n, u, hb, hi, hx, hil, h => by rw [uintGo] at h; split at h <;> simp at h
  | f + 1, l, i, x, n, u, hb, hi, hx, hil, h => by
    rw [uintGo] at h
    by_cases h1 : i = l.length
    · rw [if_pos h1] at h; simp at h
    · rw [if_neg h1] at h
      have hl : i < l.length := by omega
      have hg : l.getD i 0 = l[i] := by rw [List.getD_eq_getElem?_getD, List.getElem?_eq_getElem hl]; rfl
      obtain ⟨c0, c1⟩ := hb l[i] (List.getElem_mem hl)
      rw [hg] at h
      have hp : (0 : Int) < 2 ^ (7 * i) := Int.pow_pos (by omega)
      split at h
      · simp at h
      · split at h
        · have h2 := uintGo_big f l (i + 1) _ n u hb (by omega) (by
            have : (0 : Int) ≤ l[i] % 128 * 2 ^ (7 * i) := Int.mul_nonneg (by omega) (by omega)
            omega) (by omega) h
          have e : (2 : Int) ^ (7 * (i + 1)) = 2 ^ (7 * i) * 128 := by rw [show 7 * (i + 1) = 7 * i + 7 by omega, Int.pow_add]; rfl
          omega
        · split at h
          · simp at h
          · rename_i h3 h4
            injection h with h5 h6
            have h7 : 1 ≤ l[i] % 128 := by
              have : l[i] ≠ 0 := fun e => h4 ⟨e, hi⟩
              omega
            have h8 : 1 * 2 ^ (7 * i) ≤ l[i] % 128 * 2 ^ (7 * i) := Int.mul_le_mul_of_nonneg_right h7 (by omega)
            omega
/-- A number up to 4096 has just its own bytes. -/
theorem canon (l : List Int) (hb : ∀ x ∈ l, 0 ≤ x ∧ x ≤ 255) (n : Int) (u : Nat) (h : uintR l = (n, 0, u)) (hn : n ≤ 4096) : l.take u = uintB n.toNat ∧ u = (uintB n.toNat).length := by
  unfold uintR at h
  match l, hb, h with
  | [], _, h => rw [uintGo] at h; simp at h
  | a :: r, hb, h =>
    obtain ⟨a0, a1⟩ := hb a (by simp)
    rw [uintGo] at h
    simp only [List.length_cons, List.getD_cons_zero] at h
    rw [if_neg (by omega), if_neg (by omega)] at h
    by_cases ha : 128 ≤ a
    · rw [if_pos ha] at h
      match r, hb, h with
      | [], _, h => rw [uintGo] at h; simp at h
      | b :: r, hb, h =>
        obtain ⟨b0, b1⟩ := hb b (by simp)
        rw [uintGo] at h
        simp only [List.length_cons, List.getD_cons_succ, List.getD_cons_zero] at h
        rw [if_neg (by omega), if_neg (by omega)] at h
        by_cases hb2 : 128 ≤ b
        · rw [if_pos hb2] at h
          have hbig := uintGo_big 8 (a :: b :: r) 2 _ n u hb (by omega) (by simp; omega) (by simp) h
          have : (2 : Int) ^ (7 * 2) = 16384 := by decide
          omega
        · rw [if_neg hb2] at h
          split at h
          · simp at h
          · rename_i h4
            simp only [Prod.mk.injEq] at h
            obtain ⟨h5, _, rfl⟩ := h
            have hbz : b ≠ 0 := fun e => h4 ⟨e, by omega⟩
            have e1 : (2 : Int) ^ (7 * 0) = 1 := by decide
            have e2 : (2 : Int) ^ (7 * (0 + 1)) = 128 := by decide
            rw [e1, e2] at h5
            have hnn : ¬ n.toNat < 128 := by omega
            unfold uintB
            rw [if_neg hnn]
            have q1 : ((n.toNat : Nat) : Int) % 128 + 128 = a := by omega
            have q2 : ((n.toNat : Nat) : Int) / 128 = b := by omega
            rw [q1, q2]
            exact ⟨rfl, rfl⟩
    · rw [if_neg ha] at h
      rw [if_neg (by omega)] at h
      simp only [Prod.mk.injEq] at h
      obtain ⟨h5, _, rfl⟩ := h
      have e1 : (2 : Int) ^ (7 * 0) = 1 := by decide
      rw [e1] at h5
      have hnn : n.toNat < 128 := by omega
      unfold uintB
      rw [if_pos hnn]
      have q1 : ((n.toNat : Nat) : Int) = a := by omega
      rw [q1]
      exact ⟨rfl, rfl⟩
theorem str_inj {a b : List Int} (ha : ∀ x ∈ a, 0 ≤ x ∧ x ≤ 255) (hb : ∀ x ∈ b, 0 ≤ x ∧ x ≤ 255) (h : (strOfNums a).toList = (strOfNums b).toList) : a = b := by
  rw [ByteArray.toList_eq, ByteArray.toList_eq, strOfNums_data, strOfNums_data] at h
  have key : ∀ (l : List Int), (∀ x ∈ l, 0 ≤ x ∧ x ≤ 255) → (l.map fun n => UInt8.ofNat n.toNat).map (fun c => (c.toNat : Int)) = l := by
    intro l hl
    rw [List.map_map]
    conv => rhs; rw [← List.map_id l]
    refine List.map_congr_left fun x hx => ?_
    obtain ⟨h0, h1⟩ := hl x hx
    simp only [Function.comp, id, UInt8.toNat_ofNat']
    omega
  rw [← key a ha, ← key b hb, h]
theorem open_eq (k : Nat) (l : List Int) (hb : ∀ x ∈ l, 0 ≤ x ∧ x ≤ 255) (hk : 40962 < k) : tidemillref02_Open.f k l = some (openF l) := by
  obtain ⟨sp1, sp2, sp3⟩ := uintR_spec l
  have hcan := canon l hb
  unfold tidemillref02_Open.f openF
  rw [read_eq k l hb (by omega), Option.bind_some]
  obtain ⟨⟨n, er, u⟩, hu⟩ : ∃ r, uintR l = r := ⟨_, rfl⟩
  rw [hu] at sp1 sp2 sp3 hcan ⊢
  by_cases h1 : er = 0
  · subst h1
    have hrr : refR l (n, 0, u) = (n, l.drop u, 0) := if_pos rfl
    rw [hrr]
    simp only at sp1 sp2 sp3 hcan ⊢
    rw [if_pos trivial, if_neg (show ¬ ((0 : Int) ≠ 0) from fun h => h rfl)]
    by_cases h2 : 4096 < n
    · rw [if_pos (by omega), if_pos h2]
    · obtain ⟨m, rfl⟩ := Int.eq_ofNat_of_zero_le sp2
      have hw : wrap64 (m : Int) = m := by unfold wrap64; omega
      have hw4 : wrap64 ((m : Int) + 4) = (m : Int) + 4 := by unfold wrap64; omega
      obtain ⟨hc1, hc2⟩ := hcan (m : Int) u rfl (by omega)
      rw [Int.toNat_natCast] at hc1 hc2
      rw [if_neg (by omega), if_neg h2, hw, hw4, List.length_drop]
      by_cases h3 : ((l.length - u : Nat) : Int) < (m : Int) + 4
      · rw [if_pos h3, if_pos h3]
      · rw [if_neg h3, if_neg h3, if_pos (by omega), if_pos (by omega), Option.bind_some, Int.toNat_natCast]
        obtain ⟨x, hx⟩ : ∃ x, (l.drop u).take m = x := ⟨_, rfl⟩
        have hxl : x.length = m := by rw [← hx, List.length_take, List.length_drop]; omega
        have hxb : ∀ y ∈ x, 0 ≤ y ∧ y ≤ 255 := fun y hy => hb y (List.mem_of_mem_drop (List.mem_of_mem_take (hx ▸ hy)))
        have hfl := frameF_len x
        rw [hxl, ← hc2] at hfl
        rw [hx, frame_ref k x hxb (by omega) hk, Option.bind_some]
        simp only
        rw [if_pos (by omega), if_pos (by omega), Int.toNat_natCast, hfl]
        have htk : l.take (u + m + 4) = uintB m ++ x ++ (l.drop (u + m)).take 4 := by
          rw [List.take_add, List.take_add, hc1, hx]
        have hfx : frameF x = uintB m ++ x ++ fourL (sumOf x) := by unfold frameF; rw [hxl]
        obtain ⟨s0, s1⟩ := sumOf_rng x
        by_cases h4 : (l.drop (u + m)).take 4 = fourL (sumOf x)
        · have h5 : (strOfNums (frameF x)).toList = (strOfNums (l.take (u + m + 4))).toList := by rw [hfx, htk, h4]
          rw [if_pos h5, if_neg (fun e => e h4)]
        · have h5 : ¬ (strOfNums (frameF x)).toList = (strOfNums (l.take (u + m + 4))).toList := fun e => h4 ?_
          · rw [if_neg h5, if_pos h4]
          have e2 := str_inj (frameF_bytes x hxb (by omega)) (fun y hy => hb y (List.mem_of_mem_take hy)) e
          rw [hfx, htk] at e2
          exact (List.append_cancel_left e2).symm
  · have hrr : refR l (n, er, u) = (0, l, er) := if_neg h1
    rw [hrr]
    simp only
    rw [if_neg h1, if_pos h1]
theorem wrap_small (p m : Nat) (h : p + m ≤ 1048576) : wrap64 ((p : Int) + (m : Int)) = ((p + m : Nat) : Int) := by unfold wrap64; omega
theorem scan_go (l : List Int) (hb : ∀ x ∈ l, 0 ≤ x ∧ x ≤ 255) (hl : l.length ≤ 1048576) : ∀ (j k p : Nat) (acc : List (List Int)), l.length < j + p → 40962 + j < k → acc.length ≤ p → p ≤ l.length →
    tidemillref02_Scan.l0 k l acc p = some (acc ++ (scanGo j l p).1, ((scanGo j l p).2 : Int))
  | 0, k, p, acc, h1, _, _, h4 => by omega
  | j + 1, k, p, acc, h1, h2, h3, h4 => by
    obtain ⟨k, rfl⟩ : ∃ m, k = m + 1 := ⟨k - 1, by omega⟩
    rw [tidemillref02_Scan.l0, scanGo]
    by_cases h : p < l.length
    · have hok := openF_ok (l.drop p)
      rw [if_pos (by omega), if_pos (by omega), if_pos (by omega), Int.toNat_natCast, open_eq k (l.drop p) (fun x hx => hb x (List.mem_of_mem_drop hx)) (by omega), Option.bind_some, if_pos h]
      by_cases he : (openF (l.drop p)).2.2 = 0
      · obtain ⟨q1, q2, _⟩ := hok he
        rw [List.length_drop] at q2
        obtain ⟨m, hm⟩ := Int.eq_ofNat_of_zero_le (show 0 ≤ (openF (l.drop p)).2.1 by omega)
        have h5 : p + m ≤ l.length := by omega
        have h6 : 0 < m := by omega
        have hac : acc.length < 5864062014805 := by omega
        rw [if_pos he, if_pos hac, if_neg (fun e => e he), hm, wrap_small p m (by omega), Int.toNat_natCast]
        rw [scan_go l hb hl j k (p + m) _ (by omega) (by omega) (by rw [List.length_append, List.length_singleton]; omega) h5]
        simp [List.append_assoc]
      · rw [if_neg he, if_pos he]
        simp
    · rw [if_neg (by omega), if_neg h]
      simp
theorem scan_eq (k : Nat) (l : List Int) (hb : ∀ x ∈ l, 0 ≤ x ∧ x ≤ 255) (hl : l.length ≤ 1048576) (hk : 40964 + l.length < k) : tidemillref02_Scan.f k l = some ((scanF l).1, ((scanF l).2 : Int)) := by
  have := scan_go l hb hl (l.length + 1) k 0 [] (by omega) (by omega) (by simp) (by omega)
  rw [List.nil_append] at this
  exact this
/-- The law. -/
theorem sums_all (A : Option Addr) (c : Nat) (l : List Int) (w : World) (hC : Kd.C (Kd.int .u8) w A l.length l) (hc : l.length ≤ c) (hb : ∀ x ∈ l, 0 ≤ x ∧ x ≤ 255) (hl : l.length ≤ 1048576) :
    Calls Try.prog 5 #[.slice A l.length c] w fun e w' => e = .returned (.bool true) ∧ Below w.heap.size w w' := by
  obtain ⟨k, hk⟩ : ∃ k, k = 50000 + 10 * l.length := ⟨_, rfl⟩
  have h7 : crc_Sum.f l = some (sumOf l) := by unfold crc_Sum.f; rw [if_pos ⟨bytesB_iff.2 hb, by omega⟩]
  have h3 : crc_Open.f l = some (openF l) := by unfold crc_Open.f; rw [if_pos ⟨bytesB_iff.2 hb, by omega⟩]
  have h5 : crc_Scan.f l = some ((scanF l).1, ((scanF l).2 : Int)) := by unfold crc_Scan.f; rw [if_pos ⟨bytesB_iff.2 hb, by omega⟩]
  obtain ⟨k2, hk2⟩ : ∃ j, k = j + 2 := ⟨k - 2, by omega⟩
  have h12 : ∃ X ex, crc_Frame.f k l = some (X, ex) ∧ tidemillref02_Frame.f k l = some (X, ex) := by
    by_cases h : l.length ≤ 4096
    · exact ⟨_, _, by rw [hk2]; exact frame_eq k2 l hb h, frame_ref k l hb h (by omega)⟩
    · exact ⟨_, _, frame_no k l (by omega), frame_ref_no k l (by omega)⟩
  obtain ⟨X, ex, h1, h2⟩ := h12
  exact sums_walk k A c l w hC hc X ex (openF l).1 (openF l).2.1 (openF l).2.2 (scanF l).1 _ _ h1 h2 h3 (open_eq k l hb (by omega)) h5 (scan_eq k l hb hl (by omega)) h7 (sum_eq k l hl hb (by omega))
end Go.Proofs.Yteihfipojnfnfaa.PCrcSums

import Derived.Test.YteihfipojnfnfaaPureSums
/- The plain law of CrcSums, the second part: frames, what is opened, and what is scanned. -/
namespace Go.Proofs.Yteihfipojnfnfaa.PCrcSums
open Go.RowKit Go.Proofs.Yteihfipojnfnfaa.Crc Go.Proofs.Yteihfipojnfnfaa.Pack Go.Proofs.YteihfipojnfnfaaW.PrintWords
theorem frame_ref (k : Nat) (b : List Int) (hb : ∀ x ∈ b, 0 ≤ x ∧ x ≤ 255) (hl : b.length ≤ 4096) (hk : 40962 < k) : tidemillref02_Frame.f k b = some (frameF b, 0) := by
  obtain ⟨k, rfl⟩ : ∃ j, k = j + 2 := ⟨k - 2, by omega⟩
  have hw : IntKind.u64.wrap (b.length : Int) = b.length := by rw [IntKind.wrap_u64]; omega
  have hu : tidemillref01_Uint.f (k + 2) [] (b.length : Int) = some (uintB b.length) := by
    unfold tidemillref01_Uint.f
    simp only [Option.bind_some]
    rw [if_pos (by simp), tidemillref01_Uint.l0]
    by_cases h : b.length < 128
    · rw [if_neg (by omega), if_pos (by simp)]
      unfold uintB
      rw [if_pos h]
      have e : (b.length : Int) % 256 = b.length := by omega
      rw [e]; rfl
    · have e1 : IntKind.u64.wrap (Int.tdiv (b.length : Int) 128) = (b.length : Int) / 128 := by rw [Int.tdiv_eq_ediv_of_nonneg (by omega), IntKind.wrap_u64]; omega
      have e2 : IntKind.u64.wrap (128 + Int.tmod (b.length : Int) 128) % 256 = (b.length : Int) % 128 + 128 := by rw [Int.tmod_eq_emod_of_nonneg (by omega), IntKind.wrap_u64]; omega
      rw [if_pos (by omega), if_pos (by simp), e1, e2, tidemillref01_Uint.l0, if_neg (by omega), if_pos (by simp)]
      unfold uintB
      rw [if_neg h]
      have e : (b.length : Int) / 128 % 256 = (b.length : Int) / 128 := by omega
      rw [e]; rfl
  have hp : tidemillref01_Bytes.f (k + 2) [] b = some (uintB b.length ++ b) := by
    unfold tidemillref01_Bytes.f
    rw [hw, hu]
    simp only [Option.bind_some]
    rw [if_pos (by rw [uintB_len]; split <;> omega)]
  obtain ⟨s0, s1⟩ := sumOf_rng b
  have hf : ([Int.tmod (sumOf b) 256 % 256, Int.tdiv (sumOf b) 256 % 4294967296 % 256, Int.tdiv (sumOf b) 65536 % 4294967296 % 256, Int.tdiv (sumOf b) 16777216 % 4294967296 % 256] : List Int) = fourL (sumOf b) := by
    unfold fourL
    rw [Int.tmod_eq_emod_of_nonneg s0, Int.tdiv_eq_ediv_of_nonneg s0, Int.tdiv_eq_ediv_of_nonneg s0, Int.tdiv_eq_ediv_of_nonneg s0]
    have e1 : sumOf b % 256 % 256 = sumOf b % 256 := by omega
    have e2 : sumOf b / 256 % 4294967296 % 256 = sumOf b / 256 % 256 := by omega
    have e3 : sumOf b / 65536 % 4294967296 % 256 = sumOf b / 65536 % 256 := by omega
    have e4 : sumOf b / 16777216 % 4294967296 % 256 = sumOf b / 16777216 := by omega
    rw [e1, e2, e3, e4]
  unfold tidemillref02_Frame.f
  rw [if_neg (by omega), sum_eq _ b (by omega) hb (by omega), Option.bind_some, hp, Option.bind_some, hf]
  simp only [Option.bind_some]
  rw [if_pos (by rw [List.length_append, uintB_len, fourL_len]; split <;> omega)]
  rfl
theorem frame_ref_no (k : Nat) (b : List Int) (hl : 4096 < b.length) : tidemillref02_Frame.f k b = some ([], 2) := by
  unfold tidemillref02_Frame.f
  rw [if_pos (by omega)]
/-! numbers -/
/-- Bytes' number, the first one the least. -/
def hv : List Int → Int
  | [] => 0
  | c :: r => c % 128 + 128 * hv r
theorem hv_nonneg : ∀ (l : List Int), 0 ≤ hv l
  | [] => by simp [hv]
  | c :: r => by have := hv_nonneg r; simp only [hv]; omega
theorem hv_lt : ∀ (l : List Int), hv l < 128 ^ l.length
  | [] => by simp [hv]
  | c :: r => by
    have := hv_lt r
    rw [List.length_cons, Int.pow_succ]
    simp only [hv]
    omega
theorem hv_snoc : ∀ (l : List Int) (c : Int), hv (l ++ [c]) = hv l + c % 128 * 2 ^ (7 * l.length)
  | [], c => by simp [hv]
  | a :: r, c => by
    have e : (2 : Int) ^ (7 * (r.length + 1)) = 2 ^ (7 * r.length) * 128 := by
      rw [show 7 * (r.length + 1) = 7 * r.length + 7 by omega, Int.pow_add]; rfl
    rw [List.cons_append, hv, hv_snoc r c, hv, List.length_cons, e]
    generalize (2 : Int) ^ (7 * r.length) = P
    rw [Int.mul_add, ← Int.mul_assoc (c % 128) P 128, Int.mul_comm 128 (c % 128 * P)]
    omega
theorem hv_drop_le : ∀ (l : List Int) (m : Nat), hv (l.drop m) ≤ hv l
  | [], m => by simp
  | a :: r, 0 => by simp
  | a :: r, m + 1 => by
    have h1 := hv_drop_le r m
    have h2 := hv_nonneg r
    rw [List.drop_succ_cons]
    simp only [hv]
    omega
theorem rd_at (l : List Int) (i : Nat) (h : i < l.length) : rd l (i : Int) = l[i] := by
  unfold rd; rw [Int.toNat_natCast, List.getD_eq_getElem?_getD, List.getElem?_eq_getElem h]; rfl
theorem read_down (l : List Int) (q : Nat) (hq : q < l.length) (hq2 : q ≤ 9) (hb : ∀ x ∈ l, 0 ≤ x ∧ x ≤ 255) (hh : hv (l.take (q + 1)) < 18446744073709551616) : ∀ (m k : Nat), m ≤ q + 1 → m < k →
    tidemillref01_ReadUint.l1 k l q (hv ((l.take (q + 1)).drop m)) ((m : Int) - 1) = some (hv (l.take (q + 1)), l.drop (q + 1), 0)
  | 0, k, hm, hk => by
    obtain ⟨k, rfl⟩ : ∃ j, k = j + 1 := ⟨k - 1, by omega⟩
    have hw : wrap64 ((q : Int) + 1) = ((q + 1 : Nat) : Int) := by unfold wrap64; omega
    rw [tidemillref01_ReadUint.l1, if_neg (by omega), hw, if_pos (by omega), if_pos (by omega), Int.toNat_natCast, List.drop_zero]
  | m + 1, k, hm, hk => by
    obtain ⟨k, rfl⟩ : ∃ j, k = j + 1 := ⟨k - 1, by omega⟩
    have hml : m < l.length := by omega
    have hmt : m < (l.take (q + 1)).length := by rw [List.length_take]; omega
    have e0 : (((m + 1 : Nat) : Int) - 1) = (m : Int) := by omega
    obtain ⟨c0, c1⟩ := hb l[m] (List.getElem_mem hml)
    have e1 : hv ((l.take (q + 1)).drop m) = l[m] % 128 + 128 * hv ((l.take (q + 1)).drop (m + 1)) := by
      rw [List.drop_eq_getElem_cons hmt, hv, List.getElem_take]
    have h2 := hv_drop_le (l.take (q + 1)) m
    have h3 := hv_nonneg ((l.take (q + 1)).drop (m + 1))
    have e2 : IntKind.u64.wrap (IntKind.u64.wrap (hv ((l.take (q + 1)).drop (m + 1)) * 128) + IntKind.u64.wrap (Int.tmod (l[m]) 128)) = hv ((l.take (q + 1)).drop m) := by
      rw [Int.tmod_eq_emod_of_nonneg c0, e1]
      rw [e1] at h2
      simp only [IntKind.wrap_u64]
      omega
    have hw : wrap64 ((m : Int) - 1) = (m : Int) - 1 := by unfold wrap64; omega
    rw [e0, tidemillref01_ReadUint.l1, if_pos (by omega), if_pos (by omega), if_pos (by omega), rd_at l m hml, e2, hw]
    exact read_down l q hq hq2 hb hh m k (by omega) (by omega)
/-- What the document's reading answers. -/
def refR (l : List Int) (r : Int × Int × Nat) : Int × List Int × Int := if r.2.1 = 0 then (r.1, l.drop r.2.2, 0) else (0, l, r.2.1)
theorem hv_ten (l : List Int) (q : Nat) (hq : q < l.length) (hq2 : q ≤ 9) (h9 : q = 9 → l.getD q 0 % 128 ≤ 1) : hv (l.take (q + 1)) < 18446744073709551616 := by
  by_cases h : q = 9
  · subst h
    have h1 := hv_lt (l.take 9)
    have hl : (l.take 9).length = 9 := by rw [List.length_take]; omega
    rw [hl] at h1
    rw [List.take_succ_eq_append_getElem hq, hv_snoc, hl]
    have := h9 rfl
    rw [List.getD_eq_getElem?_getD, List.getElem?_eq_getElem hq] at this
    simp only [Option.getD_some] at this
    have e1 : (128 : Int) ^ 9 = 9223372036854775808 := by decide
    have e2 : (2 : Int) ^ (7 * 9) = 9223372036854775808 := by decide
    rw [e1] at h1
    rw [e2]
    omega
  · have h1 := hv_lt (l.take (q + 1))
    have h2 : (128 : Int) ^ (l.take (q + 1)).length ≤ 128 ^ 9 := by
      have h3 : (l.take (q + 1)).length ≤ 9 := by rw [List.length_take]; omega
      have h4 : (128 : Nat) ^ (l.take (q + 1)).length ≤ 128 ^ 9 := Nat.pow_le_pow_right (by omega) h3
      exact_mod_cast h4
    have e1 : (128 : Int) ^ 9 = 9223372036854775808 := by decide
    omega
theorem read_go (l : List Int) (hb : ∀ x ∈ l, 0 ≤ x ∧ x ≤ 255) : ∀ (f i k : Nat), f + i = 10 → i ≤ l.length → 40 < k + i →
    tidemillref01_ReadUint.l0 k l i = some (refR l (uintGo f l i (hv (l.take i))))
  | 0, i, k, hf, hi, hk => by
    obtain ⟨k, rfl⟩ : ∃ j, k = j + 2 := ⟨k - 2, by omega⟩
    obtain rfl : i = 10 := by omega
    have hu : uintGo 0 l 10 (hv (l.take 10)) = (0, 5, 0) := by rw [uintGo]; split <;> rfl
    rw [hu, tidemillref01_ReadUint.l0]
    have hj : tidemillref01_ReadUint.j1 (k + 1) l ((10 : Nat) : Int) = some (0, l, 5) := by rw [tidemillref01_ReadUint.j1, if_pos (by rfl)]
    by_cases h : ((10 : Nat) : Int) < (l.length : Int)
    · rw [if_pos h, if_neg (by omega), hj]; rfl
    · rw [if_neg h, hj]; rfl
  | f + 1, i, k, hf, hi, hk => by
    obtain ⟨k, rfl⟩ : ∃ j, k = j + 4 := ⟨k - 4, by omega⟩
    rw [uintGo]
    by_cases h1 : i = l.length
    · rw [if_pos h1, tidemillref01_ReadUint.l0, if_neg (by omega), tidemillref01_ReadUint.j1, if_neg (by omega), if_pos (by omega)]
      rfl
    · have hil : i < l.length := by omega
      have hg : l.getD i 0 = l[i] := by rw [List.getD_eq_getElem?_getD, List.getElem?_eq_getElem hil]; rfl
      obtain ⟨c0, c1⟩ := hb l[i] (List.getElem_mem hil)
      have hsn : hv (l.take i) + l[i] % 128 * 2 ^ (7 * i) = hv (l.take (i + 1)) := by
        have e : (l.take i).length = i := by rw [List.length_take]; omega
        rw [List.take_succ_eq_append_getElem hil, hv_snoc, e]
      have hw : wrap64 ((i : Int) + 1) = ((i + 1 : Nat) : Int) := by unfold wrap64; omega
      rw [if_neg h1, hg, hsn, tidemillref01_ReadUint.l0, if_pos (by omega), if_pos (by omega), if_pos (by omega), rd_at l i hil]
      by_cases h2 : 128 ≤ l[i]
      · rw [if_pos (by omega), hw, if_pos h2]
        by_cases h3 : i = 9 ∧ 1 < l[i] % 128
        · rw [if_pos h3]
          obtain ⟨rfl, _⟩ := h3
          rw [tidemillref01_ReadUint.l0]
          have hj : tidemillref01_ReadUint.j1 (k + 2) l ((9 + 1 : Nat) : Int) = some (0, l, 5) := by rw [tidemillref01_ReadUint.j1, if_pos (by rfl)]
          by_cases h : ((9 + 1 : Nat) : Int) < (l.length : Int)
          · rw [if_pos h, if_neg (by omega), hj]; rfl
          · rw [if_neg h, hj]; rfl
        · rw [if_neg h3]
          exact read_go l hb f (i + 1) (k + 3) (by omega) (by omega) (by omega)
      · rw [if_neg (by omega), if_neg h2]
        have hmod : l[i] % 128 = l[i] := by omega
        rw [hmod]
        have hj2 : ∀ (b : Bool), tidemillref01_ReadUint.j2 (k + 2) l i b = if b = true then some (0, l, 5) else tidemillref01_ReadUint.l1 (k + 1) l i 0 i := fun b => by rw [tidemillref01_ReadUint.j2]
        have hl1 : (i = 9 → l[i] ≤ 1) → tidemillref01_ReadUint.l1 (k + 1) l i 0 i = some (hv (l.take (i + 1)), l.drop (i + 1), 0) := fun h9 => by
          have hd := read_down l i hil (by omega) hb (hv_ten l i hil (by omega) (fun e => by rw [hg, hmod]; exact h9 e)) (i + 1) (k + 1) (by omega) (by omega)
          rw [List.drop_eq_nil_of_le (by rw [List.length_take]; omega), show (((i + 1 : Nat) : Int) - 1) = (i : Int) from by omega] at hd
          exact hd
        generalize hR : (if i = 9 ∧ 1 < l[i] then _ else _) = R
        rw [tidemillref01_ReadUint.j1, if_neg (by omega), if_neg (by omega)]
        by_cases h9 : i = 9
        · subst h9
          rw [if_pos (by rfl), if_pos (by omega), show (9 : Int) = ((9 : Nat) : Int) from rfl, rd_at l 9 hil]
          by_cases h3 : 1 < l[9]
          · rw [if_pos ⟨rfl, h3⟩] at hR
            rw [if_pos (by omega), hj2, if_pos rfl, ← hR]; rfl
          · rw [if_neg (fun h => h3 h.2)] at hR
            rw [if_neg (by omega), if_pos (by omega), if_pos (by omega), if_pos (by omega), hj2]
            by_cases h4 : l[9] = 0
            · rw [if_pos ⟨h4, by omega⟩] at hR
              rw [h4, if_pos (by rfl), ← hR]; rfl
            · have hbq : (l[9] == 0) = false := beq_eq_false_iff_ne.2 h4
              rw [if_neg (fun h => h4 h.1)] at hR
              rw [hbq, if_neg (by simp), hl1 (fun _ => by omega), ← hR]; rfl
        · rw [if_neg (fun h => h9 h.1)] at hR
          rw [if_neg (by omega)]
          by_cases h0 : i = 0
          · subst h0
            rw [if_neg (fun h => absurd h.2 (by omega))] at hR
            rw [if_neg (by omega), hj2, if_neg (by simp), hl1 (fun e => by omega), ← hR]; rfl
          · rw [if_pos (by omega), if_pos (by omega), if_pos (by omega), hj2, rd_at l i hil]
            by_cases h4 : l[i] = 0
            · rw [if_pos ⟨h4, by omega⟩] at hR
              rw [h4, if_pos (by rfl), ← hR]; rfl
            · have hbq : (l[i] == 0) = false := beq_eq_false_iff_ne.2 h4
              rw [if_neg (fun h => h4 h.1)] at hR
              rw [hbq, if_neg (by simp), hl1 (fun e => absurd e h9), ← hR]; rfl
theorem read_eq (k : Nat) (l : List Int) (hb : ∀ x ∈ l, 0 ≤ x ∧ x ≤ 255) (hk : 40 < k) : tidemillref01_ReadUint.f k l = some (refR l (uintR l)) := by
  have := read_go l hb 10 0 k (by omega) (by omega) (by omega)
  rw [List.take_zero] at this
  exact this
end Go.Proofs.Yteihfipojnfnfaa.PCrcSums

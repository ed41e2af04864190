import Derived.Test.YtjngkndiokfibaaChgBackWalk
/- The plain law of ChgBack. -/
namespace Go.Proofs.Ytjngkndiokfibaa.ChgBackPure
open Go.RowKit Go.Proofs.YtjngkndiokfibaaW.PrintWords Go.Proofs.Ytjngkndiokfibaa.PChgBack

theorem wrap_small {i : Int} (h0 : 0 ≤ i) (h : i ≤ 9223372036854775807) : wrap64 i = i := by unfold wrap64; omega

theorem changes_same (l : List S23) (hl : l.length ≤ 9223372036854775800) (d : Nat) : ∀ (k : Nat) (i : Int), 0 ≤ i → (l.length : Int) - i = d → d < k → tidemillref12_Changes.l0 k l l i = some true := by
  induction d with
  | zero =>
    intro k i h0 hd hk
    obtain ⟨k, rfl⟩ : ∃ m, k = m + 1 := ⟨k - 1, by omega⟩
    simp only [tidemillref12_Changes.l0]; rw [if_neg (by omega)]
  | succ d ih =>
    intro k i h0 hd hk
    obtain ⟨k, rfl⟩ : ∃ m, k = m + 1 := ⟨k - 1, by omega⟩
    simp only [tidemillref12_Changes.l0]
    rw [if_pos (by omega), if_pos h0, if_pos (by omega), if_neg (by simp), wrap_small (by omega) (by omega)]
    exact ih k (i + 1) (by omega) (by omega) (by omega)
theorem changes_f (l : List S23) (hl : l.length ≤ 9223372036854775800) (k : Nat) (hk : l.length < k) : tidemillref12_Changes.f k l l = some true := by
  unfold tidemillref12_Changes.f
  rw [if_pos rfl]
  exact changes_same l hl l.length k 0 (by omega) (by omega) hk

def one (c : S23) : List S57 := [⟨c.f0, c.f2, c.f1⟩, ⟨c.f0, c.f3, 0⟩]
def oneD (c : S23) : List Bool := [false, c.f4]
def recsOf (l : List S23) : List S57 := l.flatMap one
def delsOf (l : List S23) : List Bool := l.flatMap oneD
theorem recs_len : ∀ l : List S23, (recsOf l).length = 2 * l.length
  | [] => rfl
  | c :: l => by have := recs_len l; simp only [recsOf, List.flatMap_cons, List.length_append, one, List.length_cons, List.length_nil] at this ⊢; omega
theorem dels_len : ∀ l : List S23, (delsOf l).length = 2 * l.length
  | [] => rfl
  | c :: l => by have := dels_len l; simp only [delsOf, List.flatMap_cons, List.length_append, oneD, List.length_cons, List.length_nil] at this ⊢; omega
theorem recs_at : ∀ (l : List S23) (i : Nat) (z : S57) (z' : S23), i < l.length → (recsOf l).getD (2 * i) z = ⟨(l.getD i z').f0, (l.getD i z').f2, (l.getD i z').f1⟩ ∧ (recsOf l).getD (2 * i + 1) z = ⟨(l.getD i z').f0, (l.getD i z').f3, 0⟩
  | c :: l, 0, z, z', _ => ⟨rfl, rfl⟩
  | c :: l, i + 1, z, z', h => by
    have := recs_at l i z z' (by simpa using h)
    have e : recsOf (c :: l) = ⟨c.f0, c.f2, c.f1⟩ :: ⟨c.f0, c.f3, 0⟩ :: recsOf l := rfl
    rw [e, show 2 * (i + 1) = 2 * i + 1 + 1 from by omega]
    simpa only [List.getD_cons_succ] using this
theorem dels_at : ∀ (l : List S23) (i : Nat) (z' : S23), i < l.length → (delsOf l).getD (2 * i) false = false ∧ (delsOf l).getD (2 * i + 1) false = (l.getD i z').f4
  | c :: l, 0, z', _ => ⟨rfl, rfl⟩
  | c :: l, i + 1, z', h => by
    have := dels_at l i z' (by simpa using h)
    have e : delsOf (c :: l) = false :: c.f4 :: delsOf l := rfl
    rw [e, show 2 * (i + 1) = 2 * i + 1 + 1 from by omega]
    simpa only [List.getD_cons_succ] using this
theorem take_snoc {α : Type} (l : List α) (i : Nat) (z : α) (h : i < l.length) : l.take (i + 1) = l.take i ++ [l.getD i z] := by
  rw [List.take_succ_eq_append_getElem h, List.getD_eq_getElem?_getD, List.getElem?_eq_getElem h]; rfl
theorem rd_eq (l : List S23) (i : Nat) : rd_T23 l (i : Int) = l.getD i z23 := by simp [rd_T23]
theorem rd57_eq (l : List S57) (i : Nat) : rd_T57 l (i : Int) = l.getD i z57 := by simp [rd_T57]
theorem rdb_eq (l : List Bool) (i : Nat) : rdOf false l (i : Int) = l.getD i false := by simp [rdOf]

theorem all_loop (l : List S23) (hl : l.length ≤ 300) (d : Nat) : ∀ (k i : Nat), i + d = l.length → d < k → tidemilllaw15_all.l0 k l (recsOf (l.take i)) (delsOf (l.take i)) i = some (recsOf l, delsOf l) := by
  induction d with
  | zero =>
    intro k i hd hk
    obtain ⟨k, rfl⟩ : ∃ m, k = m + 1 := ⟨k - 1, by omega⟩
    simp only [tidemilllaw15_all.l0]; rw [if_neg (by omega), List.take_of_length_le (by omega)]
  | succ d ih =>
    intro k i hd hk
    obtain ⟨k, rfl⟩ : ∃ m, k = m + 1 := ⟨k - 1, by omega⟩
    have h1 := recs_len (l.take i)
    have h2 := dels_len (l.take i)
    have h3 : (l.take i).length = i := by rw [List.length_take]; omega
    have := ih k (i + 1) (by omega) (by omega)
    rw [take_snoc l i z23 (by omega)] at this
    simp only [tidemilllaw15_all.l0, chg_Records.f, Option.bind_some, List.length_cons, List.length_nil, rd_eq]
    rw [if_pos (by omega), if_pos (by omega), if_pos (by omega), if_pos (by omega), wrap_small (by omega) (by omega)]
    rw [← this]
    simp only [recsOf, delsOf, List.flatMap_append, List.flatMap_cons, List.flatMap_nil, List.append_nil, one, oneD]
    rfl
theorem all_f (l : List S23) (hl : l.length ≤ 300) (k : Nat) (hk : l.length < k) : tidemilllaw15_all.f k l = some (recsOf l, delsOf l) := all_loop l hl l.length k 0 (by omega) hk

theorem back_step (l : List S23) (D : List Bool) (hl : l.length ≤ 300) (hD : D.length = 2 * l.length) (k i : Nat) (hi : i < l.length) (h0 : D.getD (2 * i) false = false) (h1 : D.getD (2 * i + 1) false = (l.getD i z23).f4) :
    chg_Changes.l0 (k + 1) (recsOf l) D (l.take i) ((2 * i : Nat) : Int) = chg_Changes.l0 k (recsOf l) D (l.take (i + 1)) ((2 * (i + 1) : Nat) : Int) := by
  have e1 := recs_len l
  have h3 : (l.take i).length = i := by rw [List.length_take]; omega
  obtain ⟨r0, r1⟩ := recs_at l i z57 z23 hi
  have w1 : wrap64 (((2 * i : Nat) : Int) + 1) = ((2 * i + 1 : Nat) : Int) := by rw [wrap_small (by omega) (by omega)]; rfl
  have w2 : wrap64 (((2 * i : Nat) : Int) + 2) = ((2 * (i + 1) : Nat) : Int) := by rw [wrap_small (by omega) (by omega)]; omega
  have g1 : ((2 * i : Nat) : Int) < ((recsOf l).length : Int) := by omega
  have g2 : 0 ≤ ((2 * i : Nat) : Int) := by omega
  have g3 : 0 ≤ ((2 * i + 1 : Nat) : Int) := by omega
  have g4 : ((2 * i + 1 : Nat) : Int) < ((recsOf l).length : Int) := by omega
  have g5 : ((2 * i : Nat) : Int) < (D.length : Int) := by omega
  have g6 : ((2 * i + 1 : Nat) : Int) < (D.length : Int) := by omega
  have g7 : (l.take i).length < 3518437208883 := by omega
  rw [take_snoc l i z23 hi]
  simp only [chg_Changes.l0, w1, w2, g1, g2, g3, g4, g5, g6, g7, if_true, rd57_eq, rdb_eq, r0, r1, h0, h1]
  simp

theorem back_loop (l : List S23) (hl : l.length ≤ 300) (d : Nat) : ∀ (k i : Nat), i + d = l.length → d < k → chg_Changes.l0 k (recsOf l) (delsOf l) (l.take i) ((2 * i : Nat) : Int) = some (l, 0) := by
  induction d with
  | zero =>
    intro k i hd hk
    obtain ⟨k, rfl⟩ : ∃ m, k = m + 1 := ⟨k - 1, by omega⟩
    have := recs_len l
    simp only [chg_Changes.l0]; rw [if_neg (by omega), List.take_of_length_le (by omega)]
  | succ d ih =>
    intro k i hd hk
    obtain ⟨k, rfl⟩ : ∃ m, k = m + 1 := ⟨k - 1, by omega⟩
    obtain ⟨h0, h1⟩ := dels_at l i z23 (by omega)
    rw [back_step l _ hl (dels_len l) k i (by omega) h0 h1]
    exact ih k (i + 1) (by omega) (by omega)
theorem back_f (l : List S23) (hl : l.length ≤ 300) (k : Nat) (hk : l.length + 1 < k) : chg_Changes.f k (recsOf l) (delsOf l) = some (l, 0) := by
  obtain ⟨k, rfl⟩ : ∃ m, k = m + 1 := ⟨k - 1, by omega⟩
  have := recs_len l; have := dels_len l
  unfold chg_Changes.f
  rw [if_pos (by omega)]
  simp only [chg_Changes.j0]
  rw [if_neg (by simp; omega)]
  exact back_loop l hl l.length k 0 (by omega) (by omega)
theorem odd_f (r : List S57) (D : List Bool) (h : r.length ≠ D.length ∨ r.length % 2 = 1) (k : Nat) (hk : 0 < k) : chg_Changes.f k r D = some ([], 5) := by
  obtain ⟨k, rfl⟩ : ∃ m, k = m + 1 := ⟨k - 1, by omega⟩
  unfold chg_Changes.f
  simp only [chg_Changes.j0]
  by_cases e : (r.length : Int) = (D.length : Int)
  · rw [if_pos e, if_pos (by simp; omega)]
  · rw [if_neg e]; simp only [if_true]
theorem spoilt_loop (l : List S23) (hl : l.length ≤ 300) (j : Nat) (hj : j < l.length) (d : Nat) : ∀ (k i : Nat), i + d = j → d < k → chg_Changes.l0 k (recsOf l) ((delsOf l).set (2 * j) true) (l.take i) ((2 * i : Nat) : Int) = some ([], 5) := by
  have e2 := dels_len l
  have e1 := recs_len l
  have el : ((delsOf l).set (2 * j) true).length = 2 * l.length := by rw [List.length_set, e2]
  induction d with
  | zero =>
    intro k i hd hk
    obtain ⟨k, rfl⟩ : ∃ m, k = m + 1 := ⟨k - 1, by omega⟩
    obtain rfl : i = j := by omega
    have w1 : wrap64 (((2 * i : Nat) : Int) + 1) = ((2 * i + 1 : Nat) : Int) := by rw [wrap_small (by omega) (by omega)]; rfl
    have hs : ((delsOf l).set (2 * i) true).getD (2 * i) false = true := by
      rw [List.getD_eq_getElem?_getD, List.getElem?_set_self (by omega)]; rfl
    simp only [chg_Changes.l0, w1, rdb_eq, hs, if_true]
    rw [if_pos (by omega), if_pos (by omega), if_pos (by omega), if_pos (by omega), if_pos (by omega)]
  | succ d ih =>
    intro k i hd hk
    obtain ⟨k, rfl⟩ : ∃ m, k = m + 1 := ⟨k - 1, by omega⟩
    obtain ⟨h0, h1⟩ := dels_at l i z23 (by omega)
    have n0 : ((delsOf l).set (2 * j) true).getD (2 * i) false = false := by
      rw [List.getD_eq_getElem?_getD, List.getElem?_set_ne (by omega), ← List.getD_eq_getElem?_getD]; exact h0
    have n1 : ((delsOf l).set (2 * j) true).getD (2 * i + 1) false = (l.getD i z23).f4 := by
      rw [List.getD_eq_getElem?_getD, List.getElem?_set_ne (by omega), ← List.getD_eq_getElem?_getD]; exact h1
    rw [back_step l _ hl el k i (by omega) n0 n1]
    exact ih k (i + 1) (by omega) (by omega)
theorem spoilt_f (l : List S23) (hl : l.length ≤ 300) (j : Nat) (hj : j < l.length) (k : Nat) (hk : l.length + 1 < k) : chg_Changes.f k (recsOf l) ((delsOf l).set (2 * j) true) = some ([], 5) := by
  obtain ⟨k, rfl⟩ : ∃ m, k = m + 1 := ⟨k - 1, by omega⟩
  have := recs_len l; have := dels_len l
  unfold chg_Changes.f
  rw [if_pos (by rw [List.length_set]; omega)]
  simp only [chg_Changes.j0]
  rw [if_neg (by simp; omega)]
  exact spoilt_loop l hl j hj j k 0 (by omega) (by omega)
theorem shown4 : tidemilllaw15_shown.f 400 = some true := at_rounds tidemilllaw15_shown.mono (k := 4) (by omega) (by decide +kernel)

theorem walk (A : Option Addr) (c : Nat) (l : List S23) (wh : Int) (w : World) (hK : Kd.C k23 w A l.length l) (hc : l.length ≤ c) (hw0 : 0 ≤ wh) (hw1 : wh < 65536) :
    Calls Try.prog 4 #[.slice A l.length c, .int .u16 wh] w fun e w' => e = .returned (.bool true) ∧ Below w.heap.size w w' := by
  obtain ⟨L, hL⟩ : ∃ L, L = l.take 300 := ⟨_, rfl⟩
  have h300 : L.length ≤ 300 := by rw [hL, List.length_take]; omega
  have e1 := recs_len L; have e2 := dels_len L
  by_cases h0 : L.length = 0
  · exact ChgBackWalk.walk_none 400 A c l L _ _ wh w hK hc shown4 hL h0 (all_f L h300 _ (by omega)) (back_f L h300 _ (by omega)) (changes_f L (by omega) _ (by omega))
  · refine ChgBackWalk.walk_some 400 A c l L _ _ wh w hK hc shown4 hL (by omega) hw0 hw1 (recs_len L) (dels_len L) h300 (odd_f _ _ (.inr (by rw [List.length_drop]; omega)) _ (by omega)) (odd_f _ _ (.inl (by rw [List.length_drop]; omega)) _ (by omega)) ?_ (all_f L h300 _ (by omega)) (back_f L h300 _ (by omega)) (changes_f L (by omega) _ (by omega))
    obtain ⟨n, hn⟩ := Int.eq_ofNat_of_zero_le (Int.emod_nonneg wh (by omega : (L.length : Int) ≠ 0))
    have hlt := Int.emod_lt_of_pos wh (by omega : 0 < (L.length : Int))
    rw [hn, show (2 * (n : Int)).toNat = 2 * n from by omega]
    exact spoilt_f L h300 n (by omega) _ (by omega)
end Go.Proofs.Ytjngkndiokfibaa.ChgBackPure

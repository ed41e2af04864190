import GoSem.Core.Float
import Derived.Test.YtanhibhcmfmeeaaSlK
import Derived.Test.YtanhibhcmfmeeaaKvAll
import Derived.WalkLawsBesides
import Derived.Deep.RegionHeld3
import Derived.Test.YtanhibhcmfmeeaaCut
import Derived.Test.YtanhibhcmfmeeaaProg
import Derived.Deep.RegionLaw
import Derived.Lib.Walk
/- Whole numbers below 2^53 are floats of 64 bits, and come back as they were. -/
namespace Go.Proofs.Ytanhibhcmfmeeaa.Flo
open Go
def wd (n : Int) : Nat := FloatKind.f64.nearest n
theorem pow52 : (2 : Nat) ^ 52 = 4503599627370496 := by decide
theorem shl (m d : Nat) : m <<< d = m * 2 ^ d := Nat.shiftLeft_eq m d
theorem dec_zero : FloatKind.f64.decode (wd 0) = .number false 0 (-1074) := by decide +kernel
theorem scaled {n L : Nat} (h1 : 2 ^ L ≤ n) (h2 : n < 2 ^ (L + 1)) (hL : L ≤ 52) : 2 ^ 52 ≤ n * 2 ^ (52 - L) ∧ n * 2 ^ (52 - L) < 2 * 2 ^ 52 := by
  have e : 2 ^ L * 2 ^ (52 - L) = 2 ^ 52 := by rw [← Nat.pow_add]; congr 1; omega
  have p : 0 < 2 ^ (52 - L) := Nat.pow_pos (by decide)
  constructor
  · rw [← e]; exact Nat.mul_le_mul_right _ h1
  · have h3 := Nat.mul_lt_mul_of_pos_right h2 p
    rw [Nat.pow_succ, Nat.mul_assoc, Nat.mul_comm 2, ← Nat.mul_assoc, e] at h3
    omega
theorem dec_pos {n : Nat} (h0 : 0 < n) (hn : n < 2 ^ 53) : FloatKind.f64.decode (wd n) = .number false (n * 2 ^ (52 - n.log2)) ((n.log2 : Int) - 52) := by
  have hne : n ≠ 0 := by omega
  have hL1 : 2 ^ n.log2 ≤ n := Nat.log2_self_le hne
  have hL2 : n < 2 ^ (n.log2 + 1) := Nat.lt_log2_self
  have hL : n.log2 ≤ 52 := by
    have := (Nat.log2_lt hne).2 hn
    omega
  obtain ⟨hm1, hm2⟩ := scaled hL1 hL2 hL
  generalize hLe : n.log2 = L at *
  generalize hme : n * 2 ^ (52 - L) = m at *
  have hB : ∃ B : Nat, B = 2 ^ 52 ∧ Ieee.double.binade = B ∧ Ieee.double.infRung = 2047 * B ∧ Ieee.double.signWeight = 2048 * B := ⟨2 ^ 52, rfl, by decide +kernel, by decide +kernel, by decide +kernel⟩
  obtain ⟨B, hB0, l2, l3, l5⟩ := hB
  have l1 : Ieee.double.leastPlace = -1074 := by decide +kernel
  rw [← hB0] at hm1 hm2
  clear hB0
  have f1 : (L + 1022) * B ≤ 1074 * B := Nat.mul_le_mul_right _ (by omega)
  have f2 : B ≤ (L + 1022) * B := Nat.le_mul_of_pos_left _ (by omega)
  have f3 : (L + 1022) * B + m = (m - B) + B * (L + 1023) := by
    have e0 : B * (L + 1023) = (L + 1022) * B + B := by rw [Nat.mul_comm]; exact Nat.succ_mul (L + 1022) B
    rw [e0]
    generalize (L + 1022) * B = Q
    omega
  obtain ⟨Q, hQ⟩ : ∃ Q, Q = (L + 1022) * B := ⟨_, rfl⟩
  have hw : wd n = (L + 1022) * B + m := by
    have e1 : (decide ((n : Int) < 0)) = false := decide_eq_false (by omega)
    have e2 : ((n : Int)).natAbs = n := rfl
    unfold wd FloatKind.nearest FloatKind.encode
    simp only [e1, e2, Ieee.Format.write, FloatKind.format, Ieee.Format.nearest, if_neg hne, hLe]
    have l4 : ((Ieee.double.fractionBits : Nat) : Int) = 52 := rfl
    rw [l1, l2, l3, l4]
    have e3 : max ((0 : Int) + L - 52) (-1074) = L - 52 := by omega
    rw [e3]
    have e4 : ((0 : Int) - (L - 52)).toNat = 52 - L := by omega
    have e5 : ((L : Int) - 52 - 0).toNat = 0 := by omega
    have e6 : ((L : Int) - 52 - -1074).toNat = L + 1022 := by omega
    rw [e4, e5, e6, shl, hme]
    have e7 : Ieee.Toward.cut .even false m 0 = m := by
      unfold Ieee.Toward.cut
      simp [Nat.mod_one]
    rw [e7]
    unfold Ieee.Format.word
    rw [if_neg (by decide)]
    rw [← hQ] at f1 ⊢
    exact Nat.min_eq_left (by omega)
  rw [hw]
  rw [← hQ] at f1 f2 f3 ⊢
  have e1 : (Q + m) / (2048 * B) = 0 := Nat.div_eq_of_lt (by omega)
  have e2 : (Q + m) % (2048 * B) = Q + m := Nat.mod_eq_of_lt (by omega)
  simp only [FloatKind.decode, FloatKind.format, Ieee.Format.read, l1, l2, l3, l5, e1, e2]
  rw [if_neg (by omega), if_pos (by omega)]
  have d1 : (Q + m) / B = L + 1023 := by
    rw [f3, Nat.add_mul_div_left _ _ (by omega), Nat.div_eq_of_lt (by omega)]; omega
  have d2 : (Q + m) % B = m - B := by
    rw [f3, Nat.add_mul_mod_self_left, Nat.mod_eq_of_lt (by omega)]
  rw [d1, d2]
  have d3 : B + (m - B) = m := by omega
  have d4 : (-1074 : Int) + ((L + 1023 - 1 : Nat) : Int) = L - 52 := by omega
  rw [d3, d4]
  rfl
theorem back {n : Int} (h0 : 0 ≤ n) (hn : n ≤ 1099511627776) : (FloatKind.f64.decode (wd n)).toInt .zero = some n := by
  obtain ⟨k, rfl⟩ : ∃ k : Nat, n = k := ⟨n.toNat, by omega⟩
  rcases Nat.eq_zero_or_pos k with rfl | hk
  · show (FloatKind.f64.decode (wd 0)).toInt .zero = some 0
    rw [dec_zero]; decide +kernel
  · have hk2 : k < 2 ^ 53 := by
      have : (2 : Nat) ^ 53 = 9007199254740992 := by decide
      omega
    rw [dec_pos hk hk2]
    have hne : k ≠ 0 := by omega
    have hL1 : 2 ^ k.log2 ≤ k := Nat.log2_self_le hne
    have hL2 : k < 2 ^ (k.log2 + 1) := Nat.lt_log2_self
    have hL : k.log2 ≤ 52 := by
      have := (Nat.log2_lt hne).2 hk2
      omega
    obtain ⟨hm1, hm2⟩ := scaled hL1 hL2 hL
    generalize k.log2 = L at *
    have p : 0 < 2 ^ (52 - L) := Nat.pow_pos (by decide)
    have hlog : 52 ≤ (k * 2 ^ (52 - L)).log2 := (Nat.le_log2 (by omega)).2 hm1
    have e1 : ((L : Int) - 52).toNat = 0 := by omega
    have e2 : (-((L : Int) - 52)).toNat = 52 - L := by omega
    simp only [Ieee.Datum.toInt, Ieee.Datum.integral, Ieee.Toward.cut, e1, e2, Nat.shiftLeft_zero]
    have e3 : min (52 - L) ((k * 2 ^ (52 - L)).log2 + 2) = 52 - L := by omega
    rw [e3, shl, Nat.one_mul, Nat.mul_div_cancel _ p]
    simp [Ieee.signed]
/-- The numbers of two floats are compared as the whole numbers. -/
theorem order_eq {a b : Int} (ha : 0 ≤ a) (ha1 : a ≤ 1099511627776) (hb : 0 ≤ b) (hb1 : b ≤ 1099511627776) : (FloatKind.f64.format.order (wd a) (wd b) == some .eq) = decide (a = b) := by
  have key : ∀ (x y : Int) (o : Ordering), o = compare x y → ((some o : Option Ordering) == some .eq) = decide (x = y) := by
    rintro x y _ rfl
    by_cases e : x = y
    · subst e
      rw [decide_eq_true rfl]
      simp [compare, compareOfLessAndEq]
    · rw [decide_eq_false e]
      by_cases l : x < y <;> simp [compare, compareOfLessAndEq, e, l]
  show ((FloatKind.f64.decode (wd a)).order (FloatKind.f64.decode (wd b)) == some .eq) = decide (a = b)
  obtain ⟨x, rfl⟩ : ∃ k : Nat, a = k := ⟨a.toNat, by omega⟩
  obtain ⟨y, rfl⟩ : ∃ k : Nat, b = k := ⟨b.toNat, by omega⟩
  have p53 : (2 : Nat) ^ 53 = 9007199254740992 := by decide
  have logs : ∀ k : Nat, 0 < k → (k : Int) ≤ 1099511627776 → k.log2 ≤ 52 := fun k h0 h1 => by
    have := (Nat.log2_lt (show k ≠ 0 by omega)).2 (show k < 2 ^ 53 by omega)
    omega
  rcases Nat.eq_zero_or_pos x with rfl | hx
  · rcases Nat.eq_zero_or_pos y with rfl | hy
    · decide +kernel
    · rw [show ((0 : Nat) : Int) = 0 from rfl, dec_zero, dec_pos hy (by omega)]
      have hl := logs y hy hb1
      have e0 : min (-1074 : Int) ((y.log2 : Int) - 52) = -1074 := by omega
      simp only [Ieee.Datum.order, e0]
      rw [key _ _ _ rfl]
      refine decide_eq_decide.2 ?_
      simp only [Ieee.signed, if_neg (show ¬ (false = true) by decide), shl]
      have p1 : 0 < y * 2 ^ (52 - y.log2) * 2 ^ (((y.log2 : Int) - 52 - -1074).toNat) := Nat.mul_pos (Nat.mul_pos hy (Nat.pow_pos (by decide))) (Nat.pow_pos (by decide))
      simp only [Nat.zero_mul]
      omega
  · rcases Nat.eq_zero_or_pos y with rfl | hy
    · rw [show ((0 : Nat) : Int) = 0 from rfl, dec_zero, dec_pos hx (by omega)]
      have hl := logs x hx ha1
      have e0 : min ((x.log2 : Int) - 52) (-1074 : Int) = -1074 := by omega
      simp only [Ieee.Datum.order, e0]
      rw [key _ _ _ rfl]
      refine decide_eq_decide.2 ?_
      simp only [Ieee.signed, if_neg (show ¬ (false = true) by decide), shl]
      have p1 : 0 < x * 2 ^ (52 - x.log2) * 2 ^ (((x.log2 : Int) - 52 - -1074).toNat) := Nat.mul_pos (Nat.mul_pos hx (Nat.pow_pos (by decide))) (Nat.pow_pos (by decide))
      simp only [Nat.zero_mul]
      omega
    · rw [dec_pos hx (by omega), dec_pos hy (by omega)]
      have hlx := logs x hx ha1
      have hly := logs y hy hb1
      generalize x.log2 = L at *
      generalize y.log2 = M at *
      simp only [Ieee.Datum.order]
      rw [key _ _ _ rfl]
      refine decide_eq_decide.2 ?_
      simp only [Ieee.signed, if_neg (show ¬ (false = true) by decide), shl]
      have q : ∀ (u A B : Nat), A ≤ 52 → B ≤ A → u * 2 ^ (52 - A) * 2 ^ (A - B) = u * 2 ^ (52 - B) := fun u A B h1 h2 => by
        rw [Nat.mul_assoc, ← Nat.pow_add]; congr 2; omega
      rcases Nat.le_total L M with h | h
      · have e1 : ((L : Int) - 52 - min ((L : Int) - 52) ((M : Int) - 52)).toNat = L - L := by omega
        have e2 : ((M : Int) - 52 - min ((L : Int) - 52) ((M : Int) - 52)).toNat = M - L := by omega
        rw [e1, e2, q x L L hlx (Nat.le_refl _), q y M L hly h]
        have p : 0 < 2 ^ (52 - L) := Nat.pow_pos (by decide)
        constructor
        · intro h'
          have h' : x * 2 ^ (52 - L) = y * 2 ^ (52 - L) := by omega
          rw [Nat.eq_of_mul_eq_mul_right p h']
        · intro h'
          have h' : x = y := by omega
          rw [h']
      · have e1 : ((L : Int) - 52 - min ((L : Int) - 52) ((M : Int) - 52)).toNat = L - M := by omega
        have e2 : ((M : Int) - 52 - min ((L : Int) - 52) ((M : Int) - 52)).toNat = M - M := by omega
        rw [e1, e2, q x L M hlx h, q y M M hly (Nat.le_refl _)]
        have p : 0 < 2 ^ (52 - M) := Nat.pow_pos (by decide)
        constructor
        · intro h'
          have h' : x * 2 ^ (52 - M) = y * 2 ^ (52 - M) := by omega
          rw [Nat.eq_of_mul_eq_mul_right p h']
        · intro h'
          have h' : x = y := by omega
          rw [h']
end Go.Proofs.Ytanhibhcmfmeeaa.Flo
/- Sessions, plain: a row by keys, then times; what touches, what is put, what has ended. -/
namespace Go.Proofs.Ytanhibhcmfmeeaa.Se
/-- A session: its key, its first time and its last one, its value. -/
structure S4 where
  key : Int
  fr : Int
  to_ : Int
  val : Int
  deriving DecidableEq
abbrev L4 := List S4
abbrev P3 := Int × Int × Int
def S4.at (x : S4) : P3 := (x.key, x.fr, x.to_)
def ltS (a b : P3) : Prop := a.1 < b.1 ∨ a.1 = b.1 ∧ (a.2.1 < b.2.1 ∨ a.2.1 = b.2.1 ∧ a.2.2 < b.2.2)
instance (a b : P3) : Decidable (ltS a b) := by unfold ltS; infer_instance
theorem ltS_irr (a : P3) : ¬ ltS a a := by unfold ltS; omega
theorem ltS_trans {a b c : P3} (h : ltS a b) (g : ltS b c) : ltS a c := by unfold ltS at *; omega
theorem ltS_tri (a b : P3) : ltS a b ∨ a = b ∨ ltS b a := by
  obtain ⟨a1, a2, a3⟩ := a
  obtain ⟨b1, b2, b3⟩ := b
  simp only [ltS, Prod.mk.injEq]
  omega
def cmpI (a b : Int) : Int := if a < b then -1 else if b < a then 1 else 0
def ordF (a b : P3) : Int := if cmpI a.1 b.1 ≠ 0 then cmpI a.1 b.1 else if cmpI a.2.1 b.2.1 ≠ 0 then cmpI a.2.1 b.2.1 else cmpI a.2.2 b.2.2
theorem cmpI_cases (a b : Int) : (a < b ∧ cmpI a b = -1) ∨ (a = b ∧ cmpI a b = 0) ∨ (b < a ∧ cmpI a b = 1) := by
  unfold cmpI
  by_cases h1 : a < b
  · exact .inl ⟨h1, if_pos h1⟩
  · by_cases h2 : b < a
    · exact .inr (.inr ⟨h2, by rw [if_neg h1, if_pos h2]⟩)
    · exact .inr (.inl ⟨by omega, by rw [if_neg h1, if_neg h2]⟩)
theorem ordF_cases (a b : P3) : (ltS a b ∧ ordF a b = -1) ∨ (a = b ∧ ordF a b = 0) ∨ (ltS b a ∧ ordF a b = 1) := by
  obtain ⟨a1, a2, a3⟩ := a
  obtain ⟨b1, b2, b3⟩ := b
  simp only [ltS, ordF, Prod.mk.injEq]
  rcases cmpI_cases a1 b1 with ⟨h1, e1⟩ | ⟨h1, e1⟩ | ⟨h1, e1⟩ <;> rcases cmpI_cases a2 b2 with ⟨h2, e2⟩ | ⟨h2, e2⟩ | ⟨h2, e2⟩ <;> rcases cmpI_cases a3 b3 with ⟨h3, e3⟩ | ⟨h3, e3⟩ | ⟨h3, e3⟩ <;> simp [e1, e2, e3] <;> omega
def Sorted (l : L4) : Prop := l.Pairwise fun a b => ltS a.at b.at
def idx (p : P3) (l : L4) : Nat := (l.takeWhile fun x => decide (ltS x.at p)).length
def has (l : L4) (p : P3) : Bool := l.any fun x => decide (x.at = p)
theorem idx_le (p : P3) (l : L4) : idx p l ≤ l.length := (List.takeWhile_prefix (l := l) (fun x : S4 => decide (ltS x.at p))).length_le
theorem idx_uniq {p : P3} : ∀ {l : L4} {i : Nat}, i ≤ l.length → (∀ j x, j < i → l[j]? = some x → ltS x.at p) → (∀ x, l[i]? = some x → ¬ ltS x.at p) → idx p l = i
  | [], i, hi, _, _ => by simp at hi; subst hi; rfl
  | x :: r, 0, _, _, h2 => by
    have := h2 x rfl
    unfold idx
    rw [List.takeWhile_cons_of_neg (by simpa using this)]
    rfl
  | x :: r, i + 1, hi, h1, h2 => by
    have h0 := h1 0 x (by omega) rfl
    have ih := idx_uniq (p := p) (l := r) (i := i) (by simpa using hi) (fun j y hj hp => h1 (j + 1) y (by omega) (by simpa using hp)) (fun y hp => h2 y (by simpa using hp))
    unfold idx at ih ⊢
    rw [List.takeWhile_cons_of_pos (by simpa using h0), List.length_cons, ih]
theorem pair_at {l : L4} (hs : Sorted l) {i j : Nat} (h : i < j) {x y : S4} (hx : l[i]? = some x) (hy : l[j]? = some y) : ltS x.at y.at := by
  have hi := (List.getElem?_eq_some_iff.1 hx).1
  have hj := (List.getElem?_eq_some_iff.1 hy).1
  have := List.pairwise_iff_getElem.1 hs i j hi hj h
  rw [List.getElem?_eq_getElem hi] at hx
  rw [List.getElem?_eq_getElem hj] at hy
  rw [← Option.some.inj hx, ← Option.some.inj hy]
  exact this
theorem idx_lo {p : P3} : ∀ {l : L4} {j : Nat} {x : S4}, j < idx p l → l[j]? = some x → ltS x.at p
  | [], j, x, hj, _ => by simp [idx] at hj
  | y :: r, j, x, hj, hp => by
    unfold idx at hj
    by_cases hx : ltS y.at p
    · rw [List.takeWhile_cons_of_pos (by simpa using hx), List.length_cons] at hj
      cases j with
      | zero =>
        obtain rfl : y = x := by simpa using hp
        exact hx
      | succ j => exact idx_lo (l := r) (j := j) (by unfold idx; omega) (by simpa using hp)
    · rw [List.takeWhile_cons_of_neg (by simpa using hx)] at hj
      simp at hj
theorem idx_hi {p : P3} : ∀ {l : L4} {x : S4}, l[idx p l]? = some x → ¬ ltS x.at p
  | [], x, h => by simp [idx] at h
  | y :: r, x, h => by
    unfold idx at h
    by_cases hx : ltS y.at p
    · rw [List.takeWhile_cons_of_pos (by simpa using hx), List.length_cons, List.getElem?_cons_succ] at h
      exact idx_hi h
    · rw [List.takeWhile_cons_of_neg (by simpa using hx)] at h
      obtain rfl : y = x := by simpa using h
      exact hx
theorem has_iff {l : L4} {p : P3} : has l p = true ↔ ∃ x ∈ l, x.at = p := by simp [has]
/-- Where a place is there, it is at its index. -/
theorem has_idx {p : P3} {l : L4} (hs : Sorted l) : has l p = ((l[idx p l]?).any fun x => decide (x.at = p)) := by
  cases h : l[idx p l]? with
  | none =>
    simp only [Option.any_none]
    rw [Bool.eq_false_iff]
    intro hh
    obtain ⟨x, hx, rfl⟩ := has_iff.1 hh
    obtain ⟨j, hj⟩ := List.getElem?_of_mem hx
    have hjl := (List.getElem?_eq_some_iff.1 hj).1
    have hle := List.getElem?_eq_none_iff.1 h
    exact ltS_irr _ (idx_lo (p := x.at) (by omega) hj)
  | some y =>
    simp only [Option.any_some]
    have hy := idx_hi h
    by_cases e : y.at = p
    · rw [decide_eq_true e]; exact has_iff.2 ⟨y, List.mem_of_getElem? h, e⟩
    · rw [decide_eq_false e, Bool.eq_false_iff]
      intro hh
      obtain ⟨x, hx, rfl⟩ := has_iff.1 hh
      obtain ⟨j, hj⟩ := List.getElem?_of_mem hx
      rcases Nat.lt_trichotomy j (idx x.at l) with hlt | heq | hgt
      · exact ltS_irr _ (idx_lo hlt hj)
      · rw [heq, h] at hj; exact e (by rw [Option.some.inj hj])
      · have := pair_at hs hgt h hj; exact hy this
/-- Two rows with the same sessions are one. -/
theorem sorted_ext : ∀ {l m : L4}, Sorted l → Sorted m → (∀ x, x ∈ l ↔ x ∈ m) → l = m
  | [], [], _, _, _ => rfl
  | [], y :: r, _, _, h => absurd ((h y).2 List.mem_cons_self) (by simp)
  | x :: r, [], _, _, h => absurd ((h x).1 List.mem_cons_self) (by simp)
  | x :: r, y :: q, hl, hm, h => by
    obtain ⟨l1, l2⟩ := List.pairwise_cons.1 hl
    obtain ⟨m1, m2⟩ := List.pairwise_cons.1 hm
    have hxy : x = y := by
      rcases List.mem_cons.1 ((h x).1 List.mem_cons_self) with e | e
      · exact e
      · rcases List.mem_cons.1 ((h y).2 List.mem_cons_self) with e' | e'
        · exact e'.symm
        · exact absurd (ltS_trans (m1 x e) (l1 y e')) (ltS_irr _)
    subst hxy
    rw [sorted_ext l2 m2 fun z => ?_]
    constructor
    · intro hz
      rcases List.mem_cons.1 ((h z).1 (List.mem_cons_of_mem _ hz)) with e | e
      · subst e; exact absurd (l1 z hz) (ltS_irr _)
      · exact e
    · intro hz
      rcases List.mem_cons.1 ((h z).2 (List.mem_cons_of_mem _ hz)) with e | e
      · subst e; exact absurd (m1 z hz) (ltS_irr _)
      · exact e
/-- A session put in its place. -/
def insS (x : S4) (l : L4) : L4 := l.take (idx x.at l) ++ x :: l.drop (idx x.at l)
theorem mem_ins (x y : S4) (l : L4) : y ∈ insS x l ↔ y = x ∨ y ∈ l := by
  unfold insS
  rw [List.mem_append, List.mem_cons]
  have : y ∈ l ↔ y ∈ l.take (idx x.at l) ∨ y ∈ l.drop (idx x.at l) := by rw [← List.mem_append, List.take_append_drop]
  rw [this]
  constructor
  · rintro (h | h | h)
    · exact .inr (.inl h)
    · exact .inl h
    · exact .inr (.inr h)
  · rintro (h | h | h)
    · exact .inr (.inl h)
    · exact .inl h
    · exact .inr (.inr h)
theorem idx_parts (p : P3) (l : L4) (hs : Sorted l) : (∀ x ∈ l.take (idx p l), ltS x.at p) ∧ (∀ x ∈ l.drop (idx p l), ¬ ltS x.at p) := by
  constructor
  · intro x hx
    obtain ⟨j, hj⟩ := List.getElem?_of_mem hx
    rw [List.getElem?_take] at hj
    split at hj
    · rename_i h; exact idx_lo h hj
    · cases hj
  · intro x hx
    obtain ⟨j, hj⟩ := List.getElem?_of_mem hx
    rw [List.getElem?_drop] at hj
    have hl := (List.getElem?_eq_some_iff.1 hj).1
    have h0 : l[idx p l]? = some l[idx p l] := List.getElem?_eq_getElem (by omega)
    have h1 := idx_hi h0
    rcases Nat.eq_zero_or_pos j with rfl | hj0
    · rw [Nat.add_zero, h0] at hj
      obtain rfl := Option.some.inj hj
      exact h1
    · have := pair_at hs (i := idx p l) (j := idx p l + j) (by omega) h0 hj
      intro hlt
      exact h1 (ltS_trans this hlt)
theorem sorted_ins {x : S4} {l : L4} (hs : Sorted l) (hn : has l x.at = false) : Sorted (insS x l) := by
  obtain ⟨hlo, hhi⟩ := idx_parts x.at l hs
  have hne : ∀ y ∈ l, y.at ≠ x.at := fun y hy e => by
    have := has_iff.2 ⟨y, hy, e⟩
    rw [hn] at this; cases this
  refine List.pairwise_append.2 ⟨List.Pairwise.take hs, List.pairwise_cons.2 ⟨fun y hy => ?_, List.Pairwise.drop hs⟩, fun a ha b hb => ?_⟩
  · rcases ltS_tri x.at y.at with h | h | h
    · exact h
    · exact absurd h.symm (hne y (List.mem_of_mem_drop hy))
    · exact absurd h (hhi y hy)
  · rcases List.mem_cons.1 hb with rfl | hb
    · exact hlo a ha
    · have h1 := hlo a ha
      rcases ltS_tri x.at b.at with h | h | h
      · exact ltS_trans h1 h
      · rw [← h]; exact h1
      · exact absurd h (hhi b hb)
theorem len_ins (x : S4) (l : L4) : (insS x l).length = l.length + 1 := by
  have := idx_le x.at l
  unfold insS
  simp only [List.length_append, List.length_cons, List.length_take, List.length_drop]
  omega
/-! what a time touches; what is put -/
def touchB (gap key time : Int) (x : S4) : Bool := decide (x.key = key ∧ x.fr - gap ≤ time ∧ time ≤ x.to_ + gap)
def hits (gap key time : Int) (l : L4) : L4 := l.filter (touchB gap key time)
def stay (gap key time : Int) (l : L4) : L4 := l.filter fun x => !touchB gap key time x
def firstF (gap key time : Int) (l : L4) : Int := (hits gap key time l).foldl (fun a x => min a x.fr) time
def lastF (gap key time : Int) (l : L4) : Int := (hits gap key time l).foldl (fun a x => max a x.to_) time
def newS (gap key time val : Int) (l : L4) : S4 := ⟨key, firstF gap key time l, lastF gap key time l, val⟩
def putL (gap key time val : Int) (l : L4) : L4 := insS (newS gap key time val l) (stay gap key time l)
abbrev T5 := Int × Int × Int × Int × Bool
def chgT (x : S4) : T5 := (x.key, x.fr, x.to_, x.val, false)
def goneT (x : S4) : T5 := (x.key, x.fr, x.to_, 0, true)
def outT (gap key time val : Int) (l : L4) : List T5 := ((hits gap key time l).filter fun x => !decide (x.fr = firstF gap key time l ∧ x.to_ = lastF gap key time l)).map goneT ++ [chgT (newS gap key time val l)]
def endedB (gap before : Int) (x : S4) : Bool := decide (x.to_ + gap ≤ before)
end Go.Proofs.Ytanhibhcmfmeeaa.Se
/- Rows of elements of five cells, of three: an element written over another; what DeleteFunc makes of a list. Plain. -/
namespace Go.Proofs.Ytanhibhcmfmeeaa.SlD
theorem fm_len {α : Type} {enc : α → List Value} {K : Nat} (h : ∀ x, (enc x).length = K) : ∀ l : List α, (l.flatMap enc).length = l.length * K
  | [] => by simp
  | x :: r => by rw [List.flatMap_cons, List.length_append, fm_len h r, h, List.length_cons, Nat.succ_mul]; omega
theorem fm_take {α : Type} {enc : α → List Value} {K : Nat} (h : ∀ x, (enc x).length = K) : ∀ (l : List α) (i : Nat), (l.flatMap enc).take (i * K) = (l.take i).flatMap enc
  | [], i => by simp
  | x :: r, 0 => by simp
  | x :: r, i + 1 => by
    rw [List.take_succ_cons, List.flatMap_cons, List.flatMap_cons, ← fm_take h r i]
    have : (i + 1) * K = (enc x).length + i * K := by rw [h, Nat.succ_mul]; omega
    rw [this, List.take_length_add_append]
theorem fm_get {α : Type} {enc : α → List Value} {K : Nat} (h : ∀ x, (enc x).length = K) : ∀ (l : List α) (i : Nat) (x : α), l[i]? = some x → ∀ j, j < K → (l.flatMap enc)[i * K + j]? = (enc x)[j]?
  | [], i, x, hx => by simp at hx
  | y :: r, 0, x, hx => fun j hj => by
    obtain rfl : y = x := by simpa using hx
    rw [List.flatMap_cons, List.getElem?_append_left (by rw [h]; omega), Nat.zero_mul, Nat.zero_add]
  | y :: r, i + 1, x, hx => fun j hj => by
    have e : (i + 1) * K + j = (enc y).length + (i * K + j) := by rw [h, Nat.succ_mul]; omega
    rw [List.flatMap_cons, e, List.getElem?_append_right (by omega), Nat.add_sub_cancel_left]
    exact fm_get h r i x (by simpa using hx) j hj
theorem fm_set3 {α : Type} {enc : α → List Value} (h : ∀ x, (enc x).length = 3) {y : α} {a0 a1 a2 : Value} (hy : enc y = [a0, a1, a2]) : ∀ (l : List α) (i : Nat), i < l.length → (((l.flatMap enc).set (i * 3) a0).set (i * 3 + 1) a1).set (i * 3 + 2) a2 = (l.set i y).flatMap enc
  | [], i, hi => by simp at hi
  | x :: r, 0, _ => by
    have hx := h x
    rcases hc : enc x with _ | ⟨b0, _ | ⟨b1, _ | ⟨b2, _ | ⟨b3, t⟩⟩⟩⟩ <;> rw [hc] at hx <;> simp at hx
    simp [hc, hy]
  | x :: r, i + 1, hi => by
    have hx := h x
    have ih := fm_set3 h hy r i (by simpa using hi)
    have e : (i + 1) * 3 = i * 3 + 1 + 1 + 1 := by omega
    rcases hc : enc x with _ | ⟨b0, _ | ⟨b1, _ | ⟨b2, _ | ⟨b3, t⟩⟩⟩⟩ <;> rw [hc] at hx <;> simp at hx
    rw [List.set_cons_succ, List.flatMap_cons, List.flatMap_cons, ← ih, hc, e]
    rfl
theorem fm_set5 {α : Type} {enc : α → List Value} (h : ∀ x, (enc x).length = 5) {y : α} {a0 a1 a2 a3 a4 : Value} (hy : enc y = [a0, a1, a2, a3, a4]) : ∀ (l : List α) (i : Nat), i < l.length → (((((l.flatMap enc).set (i * 5) a0).set (i * 5 + 1) a1).set (i * 5 + 2) a2).set (i * 5 + 3) a3).set (i * 5 + 4) a4 = (l.set i y).flatMap enc
  | [], i, hi => by simp at hi
  | x :: r, 0, _ => by
    have hx := h x
    rcases hc : enc x with _ | ⟨b0, _ | ⟨b1, _ | ⟨b2, _ | ⟨b3, _ | ⟨b4, _ | ⟨b5, t⟩⟩⟩⟩⟩⟩ <;> rw [hc] at hx <;> simp at hx
    simp [hc, hy]
  | x :: r, i + 1, hi => by
    have hx := h x
    have ih := fm_set5 h hy r i (by simpa using hi)
    have e : (i + 1) * 5 = i * 5 + 1 + 1 + 1 + 1 + 1 := by omega
    rcases hc : enc x with _ | ⟨b0, _ | ⟨b1, _ | ⟨b2, _ | ⟨b3, _ | ⟨b4, _ | ⟨b5, t⟩⟩⟩⟩⟩⟩ <;> rw [hc] at hx <;> simp at hx
    rw [List.set_cons_succ, List.flatMap_cons, List.flatMap_cons, ← ih, hc, e]
    rfl
/-! the loop: i elements are kept of the first j -/
def kept {α : Type} (p : α → Bool) (l : List α) : List α := l.filter fun x => !p x
/-- L is the row while the loop runs: what is kept of the first j stands ahead; from j on it is as it was. -/
structure Run {α : Type} (p : α → Bool) (ys L : List α) (i j : Nat) : Prop where
  len : L.length = ys.length
  i_ : i = (kept p (ys.take j)).length
  head : L.take i = kept p (ys.take j)
  tail : L.drop j = ys.drop j
  le : i ≤ j ∧ j ≤ ys.length
theorem kept_len {α : Type} (p : α → Bool) (l : List α) : (kept p l).length ≤ l.length := List.length_filter_le _ _
theorem take_snoc {α : Type} {l : List α} {k : Nat} {x : α} (h : l[k]? = some x) : l.take (k + 1) = l.take k ++ [x] := by
  obtain ⟨hl, rfl⟩ := List.getElem?_eq_some_iff.1 h
  exact List.take_succ_eq_append_getElem hl
theorem Run.at {α : Type} {p : α → Bool} {ys L : List α} {i j : Nat} (h : Run p ys L i j) : L[j]? = ys[j]? := by
  have := congrArg (fun t => t[0]?) h.tail
  simpa [List.getElem?_drop] using this
theorem Run.skip {α : Type} {p : α → Bool} {ys L : List α} {i j : Nat} (h : Run p ys L i j) {x : α} (hx : ys[j]? = some x) (hp : p x = true) : Run p ys L i (j + 1) := by
  have hj := (List.getElem?_eq_some_iff.1 hx).1
  have e : kept p (ys.take (j + 1)) = kept p (ys.take j) := by
    rw [take_snoc hx]
    unfold kept
    rw [List.filter_append, List.filter_cons_of_neg (by rw [hp]; decide), List.filter_nil, List.append_nil]
  have h1 := h.le
  refine ⟨h.len, by rw [e]; exact h.i_, by rw [e]; exact h.head, ?_, by omega, by omega⟩
  have := congrArg (fun t => t.drop 1) h.tail
  simpa [List.drop_drop] using this
theorem Run.keep {α : Type} {p : α → Bool} {ys L : List α} {i j : Nat} (h : Run p ys L i j) {x : α} (hx : ys[j]? = some x) (hp : p x = false) : Run p ys (L.set i x) (i + 1) (j + 1) := by
  have hj := (List.getElem?_eq_some_iff.1 hx).1
  have e : kept p (ys.take (j + 1)) = kept p (ys.take j) ++ [x] := by
    rw [take_snoc hx]
    unfold kept
    rw [List.filter_append, List.filter_cons_of_pos (by rw [hp]; rfl), List.filter_nil]
  have h1 := h.le
  have hl := h.len
  refine ⟨by rw [List.length_set]; exact h.len, by rw [e, List.length_append, ← h.i_]; rfl, ?_, ?_, by omega, by omega⟩
  · have hs : (L.set i x)[i]? = some x := by rw [List.getElem?_set_self (by omega)]
    rw [take_snoc hs, List.take_set_of_le (Nat.le_refl _), h.head, e]
  · rw [List.drop_set_of_lt (by omega)]
    have := congrArg (fun t => t.drop 1) h.tail
    simpa [List.drop_drop] using this
/-- The first element to be taken away stands at i. -/
theorem Run.start {α : Type} {p : α → Bool} {ys : List α} {i : Nat} {x : α} (hx : ys[i]? = some x) (hp : p x = true) (hn : ∀ j y, j < i → ys[j]? = some y → p y = false) : Run p ys ys i (i + 1) := by
  have hi := (List.getElem?_eq_some_iff.1 hx).1
  have e0 : kept p (ys.take i) = ys.take i := by
    refine List.filter_eq_self.2 fun y hy => ?_
    obtain ⟨j, hj⟩ := List.getElem?_of_mem hy
    rw [List.getElem?_take] at hj
    split at hj
    · rename_i hji
      rw [hn j y hji hj]; rfl
    · cases hj
  have e : kept p (ys.take (i + 1)) = ys.take i := by
    rw [take_snoc hx]
    unfold kept at e0 ⊢
    rw [List.filter_append, e0, List.filter_cons_of_neg (by rw [hp]; decide), List.filter_nil, List.append_nil]
  exact ⟨rfl, by rw [e, List.length_take]; omega, e.symm, rfl, by omega, by omega⟩
theorem Run.done {α : Type} {p : α → Bool} {ys L : List α} {i : Nat} (h : Run p ys L i ys.length) : L.take i = kept p ys ∧ i = (kept p ys).length := by
  have h1 := h.head
  have h2 := h.i_
  rw [List.take_length] at h1 h2
  exact ⟨h1, h2⟩
theorem kept_all {α : Type} {p : α → Bool} {ys : List α} (h : ∀ y ∈ ys, p y = false) : kept p ys = ys := List.filter_eq_self.2 fun y hy => by rw [h y hy]; rfl
end Go.Proofs.Ytanhibhcmfmeeaa.SlD
/- Sessions in memory: their times, what a change tells of one. -/
namespace Go.Proofs.Ytanhibhcmfmeeaa.Se
open Go.RowKit Go.Proofs.YtanhibhcmfmeeaaW.PrintWords Go.Proofs.YtanhibhcmfmeeaaW.PrintMore Go.Proofs.Ytanhibhcmfmeeaa.Cut Go.Proofs.Ytanhibhcmfmeeaa.Fr Go.Proofs.Ytanhibhcmfmeeaa.SlK Go.Proofs.Ytanhibhcmfmeeaa.Flo
def sesV (x : S4) : Value := .agg #[.int .i64 x.key, .complex .f64 (wd x.fr) (wd x.to_), .int .i64 x.val]
def encS (x : S4) : List Value := [.int .i64 x.key, .complex .f64 (wd x.fr) (wd x.to_), .int .i64 x.val]
def Wf (x : S4) : Prop := (0 ≤ x.fr ∧ x.fr ≤ 1099511627776) ∧ 0 ≤ x.to_ ∧ x.to_ ≤ 1099511627776
theorem conv_to (n : Int) (w : World) : (convert 2 133 (.int .i64 n)).run Try.prog w = .ok (.float .f64 (wd n)) w := by
  have h1 := run_underlying (P := Try.prog) Try.underlying2
  have h2 := run_underlying (P := Try.prog) Try.underlying133
  unfold convert
  simp only [Sem.run_bind, h1, h2, Result.andThen_ok, Conv.intToFloat, Sem.run_pure]
  rfl
theorem conv_back {n : Int} (h : 0 ≤ n ∧ n ≤ 1099511627776) (w : World) : (convert 133 2 (.float .f64 (wd n))).run Try.prog w = .ok (.int .i64 n) w := by
  have h0 := back h.1 h.2
  have h1 := run_underlying (P := Try.prog) Try.underlying2
  have h2 := run_underlying (P := Try.prog) Try.underlying133
  have h3 : IntKind.i64.min ≤ n ∧ n ≤ IntKind.i64.max := by
    have e1 : IntKind.i64.min = -9223372036854775808 := by decide +kernel
    have e2 : IntKind.i64.max = 9223372036854775807 := by decide +kernel
    rw [e1, e2]; omega
  unfold convert
  simp only [Sem.run_bind, h1, h2, Result.andThen_ok, Conv.floatToInt, h0, if_pos h3, Sem.run_pure]
set_option maxHeartbeats 1000000 in
theorem times_calls (a b : Int) (w : World) : Calls Try.prog 56 #[.int .i64 a, .int .i64 b] w fun e w' => e = .returned (.complex .f64 (wd a) (wd b)) ∧ w = w' := by
  have hc := conv_to
  go_enter Try.func56, Try.ntmps56
  go_wp2
  go_ret
  exact ⟨rfl, rfl⟩
set_option maxHeartbeats 1000000 in
theorem from_calls (x : S4) (hx : Wf x) (w : World) : Calls Try.prog 55 #[sesV x] w fun e w' => e = .returned (.int .i64 x.fr) ∧ Below w.heap.size w w' := by
  have hb := fun w => conv_back hx.1 w
  unfold sesV
  go_enter Try.func55, Try.ntmps55
  go_wp2
  go_ret
  exact ⟨rfl, below_alloc (Below.refl _ _) _⟩
set_option maxHeartbeats 1000000 in
theorem to_calls (x : S4) (hx : Wf x) (w : World) : Calls Try.prog 46 #[sesV x] w fun e w' => e = .returned (.int .i64 x.to_) ∧ Below w.heap.size w w' := by
  have hb := fun w => conv_back hx.2 w
  unfold sesV
  go_enter Try.func46, Try.ntmps46
  go_wp2
  go_ret
  exact ⟨rfl, below_alloc (Below.refl _ _) _⟩
set_option maxHeartbeats 1000000 in
theorem cmp_calls (a b : Int) (w : World) : Calls Try.prog 75 #[.int .i64 a, .int .i64 b] w fun e w' => e = .returned (.int .i64 (cmpI a b)) ∧ w = w' := by
  unfold cmpI
  rcases Int.lt_trichotomy a b with h | h | h
  · rw [if_pos h]
    go_enter Try.func75, Try.ntmps75
    go_wp2
    go_ret
    exact ⟨rfl, rfl⟩
  · subst h
    rw [if_neg (Int.lt_irrefl a), if_neg (Int.lt_irrefl a)]
    go_enter Try.func75, Try.ntmps75
    go_wp2
    go_ret
    exact ⟨rfl, rfl⟩
  · have h1 : ¬ a < b := by omega
    rw [if_neg h1, if_pos h]
    go_enter Try.func75, Try.ntmps75
    go_wp2
    go_ret
    exact ⟨rfl, rfl⟩
def mayT (t : Int) : Bool := decide (0 ≤ t ∧ t ≤ 1099511627776)
set_option maxHeartbeats 1000000 in
theorem may_calls (time : Int) (w : World) : Calls Try.prog 51 #[.int .i64 time] w fun e w' => e = .returned (.bool (mayT time)) ∧ w = w' := by
  unfold mayT
  by_cases h1 : 0 ≤ time
  · by_cases h2 : time ≤ 1099511627776
    · rw [decide_eq_true (And.intro h1 h2)]
      go_enter Try.func51, Try.ntmps51
      go_wp2
      go_ret
      exact ⟨rfl, rfl⟩
    · rw [decide_eq_false (fun e => h2 e.2)]
      go_enter Try.func51, Try.ntmps51
      go_wp2
      go_ret
      exact ⟨rfl, rfl⟩
  · rw [decide_eq_false (fun e => h1 e.1)]
    go_enter Try.func51, Try.ntmps51
    go_wp2
    go_ret
    exact ⟨rfl, rfl⟩
end Go.Proofs.Ytanhibhcmfmeeaa.Se
/- Sessions: change, gone. -/
namespace Go.Proofs.Ytanhibhcmfmeeaa.Se
open Go.RowKit Go.Proofs.YtanhibhcmfmeeaaW.PrintWords Go.Proofs.YtanhibhcmfmeeaaW.PrintMore Go.Proofs.Ytanhibhcmfmeeaa.Cut Go.Proofs.Ytanhibhcmfmeeaa.Fr Go.Proofs.Ytanhibhcmfmeeaa.SlK Go.Proofs.Ytanhibhcmfmeeaa.Flo
theorem keepB {W V : World} {b o : Nat} {u : Value} (hb : Below W.heap.size W V) (h : W.cell? ⟨b, o, none⟩ = some u) : V.cell? ⟨b, o, none⟩ = some u := pw_cell_below hb h
abbrev zchg : Obj := .cells #[.int .i64 0, .int .i64 0, .int .i64 0, .int .i64 0, .bool false] 50
abbrev sesRow (x : S4) : Obj := .cells #[.int .i64 x.key, .complex .f64 (wd x.fr) (wd x.to_), .int .i64 x.val] 113
def chgV (x : S4) : Value := .agg #[.int .i64 x.key, .int .i64 x.fr, .int .i64 x.to_, .int .i64 x.val, .bool false]
def goneV (x : S4) : Value := .agg #[.int .i64 x.key, .int .i64 x.fr, .int .i64 x.to_, .int .i64 0, .bool true]
theorem two_rows (w : World) (a b : Obj) : ∃ W, W = (w.alloc a).alloc b ∧ Below w.heap.size w W ∧ W.heap.size = w.heap.size + 2 ∧ W.heap[w.heap.size]? = some a ∧ W.heap[w.heap.size + 1]? = some b := by
  refine ⟨_, rfl, below_alloc (below_alloc (Below.refl _ _) _) _, by simp, ?_, ?_⟩
  · rw [(Go.MapKept.heap_alloc _ _).2 _ (by simp), (Go.MapKept.heap_alloc w _).1]
  · simpa using (Go.MapKept.heap_alloc (w.alloc a) b).1
set_option maxHeartbeats 8000000 in
theorem change_calls (x : S4) (hx : Wf x) (w : World) : Calls Try.prog 53 #[sesV x] w fun e w' => e = .returned (chgV x) ∧ Below w.heap.size w w' := by
  obtain ⟨W, hW, hB, hs, h1, h2⟩ := two_rows w (sesRow x) zchg
  have hf := fun V => from_calls x hx V
  have ht := fun V => to_calls x hx V
  have c0 : W.cell? ⟨w.heap.size, 0, none⟩ = some (.int .i64 x.key) := (blk_cell h1 0).trans rfl
  have c1 : W.cell? ⟨w.heap.size, 1, none⟩ = some (.complex .f64 (wd x.fr) (wd x.to_)) := (blk_cell h1 1).trans rfl
  have c2 : W.cell? ⟨w.heap.size, 2, none⟩ = some (.int .i64 x.val) := (blk_cell h1 2).trans rfl
  have HW := Lib.hid hW; have HB := Lib.hid hB; have H2 := Lib.hid h2
  have hw1 : w.heap.size + 1 < W.heap.size := by omega
  unfold sesV at hf ht ⊢
  unfold chgV
  clear hW hB h1 h2
  go_enter Try.func53, Try.ntmps53
  go_upto_region 1 with fail
  rw [← HW.out]
  go_region_held3 (fun V => V.cell? ⟨w.heap.size, 0, none⟩ = some (.int .i64 x.key) ∧ V.cell? ⟨w.heap.size, 1, none⟩ = some (.complex .f64 (wd x.fr) (wd x.to_)) ∧ V.cell? ⟨w.heap.size, 2, none⟩ = some (.int .i64 x.val)) (go_keep)
    (first
    | (go_at_call 55; (with_reducible refine (hf _).mono ?_); rintro e w4 ⟨rfl, hB4⟩; have HB4 := Lib.hid hB4; have k0 := keepB hB4 c0; have k1 := keepB hB4 c1; have k2 := keepB hB4 c2; have hr4 := (show w4.heap[w.heap.size + 1]? = some zchg from (hB4.block (w.heap.size + 1) hw1).trans H2.out); have HR4 := Lib.hid hr4; have hw4 : w.heap.size + 1 < w4.heap.size := (Array.getElem?_eq_some_iff.1 hr4).1; clear hB4 hr4)
    | (go_at_call 46; (with_reducible refine (ht _).mono ?_); rintro e w5 ⟨rfl, hB5⟩; have HB5 := Lib.hid hB5; have k0 := keepB hB5 k0; have k1 := keepB hB5 k1; have k2 := keepB hB5 k2; have hr5 := (hB5.block (w.heap.size + 1) hw4).trans HR4.out; have HR5 := Lib.hid hr5; have z0 := (blk_cell hr5 0).trans rfl; have z1 := (blk_cell hr5 1).trans rfl; have z2 := (blk_cell hr5 2).trans rfl; have z3 := (blk_cell hr5 3).trans rfl; have z4 := (blk_cell hr5 4).trans rfl; have y0 := blk_frozen hr5 0; have y1 := blk_frozen hr5 1; have y2 := blk_frozen hr5 2; have y3 := blk_frozen hr5 3; have y4 := blk_frozen hr5 4; clear hB5 hr5))
  all_goals
    go_wp2_with fail
    refine bodyPost_ret (results_cell_row rfl _ _ (w.heap.size + 1) 50 #[.int .i64 x.key, .int .i64 x.fr, .int .i64 x.to_, .int .i64 x.val, .bool false] (0, 0) _ rfl ?hp Try.underlying50 rfl (by kernel_rfl)) rfl ?_
    case hp => exact blk_put (blk_put (blk_put (blk_put (blk_put HR5.out 0 _ rfl) 1 _ rfl) 2 _ rfl) 3 _ rfl) 4 _ rfl
    · refine ⟨rfl, ?_⟩
      have hb4 : Below w.heap.size w w4 := below_then (below_then HB.out HB.out.size (below_drew (Below.refl W.heap.size W))) HB.out.size HB4.out
      have hb5 := below_then hb4 hb4.size HB5.out
      repeat (with_reducible first | exact hb5 | refine Kv.below_set ?_ (by simp) _ _)
set_option maxHeartbeats 4000000 in
theorem gone_calls (x : S4) (hx : Wf x) (w : World) : Calls Try.prog 47 #[sesV x] w fun e w' => e = .returned (goneV x) ∧ Below w.heap.size w w' := by
  obtain ⟨W, hW, hB, hs, h1, h2⟩ := two_rows w (sesRow x) zchg
  have hc := change_calls x hx W
  have c0 : W.cell? ⟨w.heap.size, 0, none⟩ = some (.int .i64 x.key) := (blk_cell h1 0).trans rfl
  have c1 : W.cell? ⟨w.heap.size, 1, none⟩ = some (.complex .f64 (wd x.fr) (wd x.to_)) := (blk_cell h1 1).trans rfl
  have c2 : W.cell? ⟨w.heap.size, 2, none⟩ = some (.int .i64 x.val) := (blk_cell h1 2).trans rfl
  have HW := Lib.hid hW; have HB := Lib.hid hB; have H2 := Lib.hid h2
  have hw1 : w.heap.size + 1 < W.heap.size := by omega
  unfold sesV at hc ⊢
  unfold chgV at hc
  unfold goneV
  clear hW hB h1 h2
  go_enter Try.func47, Try.ntmps47
  go_upto_region 1 with fail
  rw [← HW.out]
  go_wp2_with fail
  refine hc.mono ?_
  rintro e w4 ⟨rfl, hB4⟩
  have hr4 := (hB4.block (w.heap.size + 1) hw1).trans H2.out
  have hw4 : w.heap.size + 1 < w4.heap.size := (Array.getElem?_eq_some_iff.1 hr4).1
  have hn4 : w.heap.size + 1 ≠ w4.heap.size := by omega
  have z0 : w4.cell? ⟨w.heap.size + 1, 0, none⟩ = some (.int .i64 0) := (blk_cell hr4 0).trans rfl
  have z1 : w4.cell? ⟨w.heap.size + 1, 1, none⟩ = some (.int .i64 0) := (blk_cell hr4 1).trans rfl
  have z2 : w4.cell? ⟨w.heap.size + 1, 2, none⟩ = some (.int .i64 0) := (blk_cell hr4 2).trans rfl
  have z3 : w4.cell? ⟨w.heap.size + 1, 3, none⟩ = some (.int .i64 0) := (blk_cell hr4 3).trans rfl
  have z4 : w4.cell? ⟨w.heap.size + 1, 4, none⟩ = some (.bool false) := (blk_cell hr4 4).trans rfl
  have y0 := blk_frozen hr4 0
  have y1 := blk_frozen hr4 1
  have y2 := blk_frozen hr4 2
  have y3 := blk_frozen hr4 3
  have y4 := blk_frozen hr4 4
  have HR4 := Lib.hid hr4
  have HB4 := Lib.hid (below_then HB.out HB.out.size hB4)
  clear hc hB4 hr4 c0 c1 c2
  go_wp2_with fail
  have hp5 := blk_put (blk_put (blk_put (blk_put (blk_put HR4.out 0 (.int .i64 x.key) rfl) 1 (.int .i64 x.fr) rfl) 2 (.int .i64 x.to_) rfl) 3 (.int .i64 0) rfl) 4 (.bool true) rfl
  have hb5 := Kv.below_set (Kv.below_set (Kv.below_set (Kv.below_set (Kv.below_set (g := w.heap.size + 1) HB4.out (Nat.le_succ _) 0 (.int .i64 x.key)) (Nat.le_succ _) 1 (.int .i64 x.fr)) (Nat.le_succ _) 2 (.int .i64 x.to_)) (Nat.le_succ _) 3 (.int .i64 0)) (Nat.le_succ _) 4 (.bool true)
  have hp6 := ((Go.MapKept.heap_alloc _ (.cells #[.int .i64 x.key, .int .i64 x.fr, .int .i64 x.to_, .int .i64 0, .bool true] 50)).2 _ (Array.getElem?_eq_some_iff.1 hp5).1).trans hp5
  refine bodyPost_ret (results_cell_row rfl _ _ (w.heap.size + 1) 50 #[.int .i64 x.key, .int .i64 x.fr, .int .i64 x.to_, .int .i64 0, .bool true] (0, 0) _ rfl hp6 Try.underlying50 rfl (by kernel_rfl)) rfl ?_
  exact ⟨rfl, below_alloc hb5 _⟩
end Go.Proofs.Ytanhibhcmfmeeaa.Se
/- Sessions: their order; what a time touches. -/
namespace Go.Proofs.Ytanhibhcmfmeeaa.Se
open Go.RowKit Go.Proofs.YtanhibhcmfmeeaaW.PrintWords Go.Proofs.YtanhibhcmfmeeaaW.PrintMore Go.Proofs.Ytanhibhcmfmeeaa.Cut Go.Proofs.Ytanhibhcmfmeeaa.Fr Go.Proofs.Ytanhibhcmfmeeaa.SlK Go.Proofs.Ytanhibhcmfmeeaa.Flo
/-- A session's box. -/
structure Bx (w : World) (q : Nat) (x : S4) : Prop where
  c0 : w.cell? ⟨q, 0, none⟩ = some (.int .i64 x.key)
  c1 : w.cell? ⟨q, 1, none⟩ = some (.complex .f64 (wd x.fr) (wd x.to_))
  c2 : w.cell? ⟨q, 2, none⟩ = some (.int .i64 x.val)
theorem Bx.of {w : World} {q : Nat} {x : S4} (h : w.heap[q]? = some (sesRow x)) : Bx w q x := ⟨(blk_cell h 0).trans rfl, (blk_cell h 1).trans rfl, (blk_cell h 2).trans rfl⟩
theorem Bx.below {w w' : World} {q : Nat} {x : S4} (h : Bx w q x) (hb : Below w.heap.size w w') : Bx w' q x := ⟨pw_cell_below hb h.c0, pw_cell_below hb h.c1, pw_cell_below hb h.c2⟩
set_option maxHeartbeats 16000000 in
theorem order_calls (a b : S4) (ha : Wf a) (hb : Wf b) (w : World) : Calls Try.prog 70 #[sesV a, sesV b] w fun e w' => e = .returned (.int .i64 (ordF a.at b.at)) ∧ Below w.heap.size w w' := by
  obtain ⟨W, hW, hB, hs, h1, h2⟩ := two_rows w (sesRow a) (sesRow b)
  obtain ⟨c0, c1, c2⟩ := Bx.of h1
  obtain ⟨e0, e1, e2⟩ := Bx.of h2
  have fa := fun V => from_calls a ha V
  have fb := fun V => from_calls b hb V
  have ta := fun V => to_calls a ha V
  have tb := fun V => to_calls b hb V
  have hc := fun x y V => cmp_calls x y V
  unfold sesV at fa fb ta tb ⊢
  obtain ⟨d0, hd0⟩ : ∃ d, d = cmpI a.key b.key := ⟨_, rfl⟩
  obtain ⟨d1, hd1⟩ : ∃ d, d = cmpI a.fr b.fr := ⟨_, rfl⟩
  obtain ⟨d2, hd2⟩ : ∃ d, d = cmpI a.to_ b.to_ := ⟨_, rfl⟩
  have hord : ordF a.at b.at = if d0 ≠ 0 then d0 else if d1 ≠ 0 then d1 else d2 := by rw [hd0, hd1, hd2]; rfl
  have hc0 := fun V => hc a.key b.key V
  have hc1 := fun V => hc a.fr b.fr V
  have hc2 := fun V => hc a.to_ b.to_ V
  rw [← hd0] at hc0
  rw [← hd1] at hc1
  rw [← hd2] at hc2
  obtain ⟨r, hr⟩ : ∃ r, r = ordF a.at b.at := ⟨_, rfl⟩
  rw [← hr]
  rw [← hr] at hord
  have HR := Lib.hid hord
  have HW := Lib.hid hW; have HB := Lib.hid hB
  have k0 := c0; have k1 := c1; have k2 := c2; have l0 := e0; have l1 := e1; have l2 := e2
  clear hW hB h1 h2 hc hd0 hd1 hd2 hord hr hs k0 k1 k2 l0 l1 l2
  go_enter Try.func70, Try.ntmps70
  go_upto_region 1 with fail
  rw [← HW.out]
  go_cut [22, 23, 24] (fun u22 u23 u24 wx => ∃ g : Nat, u22 = .slice (some ⟨g, 0, none⟩) 3 3 ∧ u23 = .int .i64 3 ∧ u24 = .int .i64 0 ∧ wx.heap[g]? = some (.cells #[.int .i64 d0, .int .i64 d1, .int .i64 d2] 2 (0, 0)) ∧ Below w.heap.size w wx)
  case first =>
    go_region_held3 (fun V => V.cell? ⟨w.heap.size, 0, none⟩ = some (.int .i64 a.key) ∧ V.cell? ⟨w.heap.size, 1, none⟩ = some (.complex .f64 (wd a.fr) (wd a.to_)) ∧ V.cell? ⟨w.heap.size, 2, none⟩ = some (.int .i64 a.val) ∧ V.cell? ⟨w.heap.size + 1, 0, none⟩ = some (.int .i64 b.key) ∧ V.cell? ⟨w.heap.size + 1, 1, none⟩ = some (.complex .f64 (wd b.fr) (wd b.to_)) ∧ V.cell? ⟨w.heap.size + 1, 2, none⟩ = some (.int .i64 b.val)) (go_keep)
      (first
      | (go_at_call 75; first | ((with_reducible refine (hc0 _).mono ?_); rintro e w' ⟨rfl, rfl⟩) | ((with_reducible refine (hc1 _).mono ?_); rintro e w' ⟨rfl, rfl⟩) | ((with_reducible refine (hc2 _).mono ?_); rintro e w' ⟨rfl, rfl⟩))
      | (go_at_call 55; (with_reducible refine (fa _).mono ?_); rintro e w4 ⟨rfl, hB4⟩; have HB4 := Lib.hid hB4; have k0 := keepB hB4 c0; have k1 := keepB hB4 c1; have k2 := keepB hB4 c2; have l0 := keepB hB4 e0; have l1 := keepB hB4 e1; have l2 := keepB hB4 e2; clear hB4)
      | (go_at_call 55; (with_reducible refine (fb _).mono ?_); rintro e w5 ⟨rfl, hB5⟩; have HB5 := Lib.hid hB5; have k0 := keepB hB5 k0; have k1 := keepB hB5 k1; have k2 := keepB hB5 k2; have l0 := keepB hB5 l0; have l1 := keepB hB5 l1; have l2 := keepB hB5 l2; clear hB5)
      | (go_at_call 46; (with_reducible refine (ta _).mono ?_); rintro e w6 ⟨rfl, hB6⟩; have HB6 := Lib.hid hB6; have k0 := keepB hB6 k0; have k1 := keepB hB6 k1; have k2 := keepB hB6 k2; have l0 := keepB hB6 l0; have l1 := keepB hB6 l1; have l2 := keepB hB6 l2; clear hB6)
      | (go_at_call 46; (with_reducible refine (tb _).mono ?_); rintro e w7 ⟨rfl, hB7⟩; have HB7 := Lib.hid hB7; have k0 := keepB hB7 k0; have k1 := keepB hB7 k1; have k2 := keepB hB7 k2; have l0 := keepB hB7 l0; have l1 := keepB hB7 l1; have l2 := keepB hB7 l2; clear hB7))
    all_goals
      go_wp2_with fail
      go_meet
      case rel =>
        have q4 : Below w.heap.size w w4 := below_then (below_then HB.out HB.out.size (below_drew (Below.refl W.heap.size W))) HB.out.size HB4.out
        have q5 := below_then q4 q4.size HB5.out
        have q6 := below_then q5 q5.size HB6.out
        have q7 := below_then q6 q6.size HB7.out
        exact ⟨w7.heap.size, rfl, rfl, rfl, (Go.MapKept.heap_alloc w7 _).1, below_alloc q7 _⟩
  case rest =>
    obtain ⟨g, rfl, rfl, rfl, hrow, hBx⟩ := hcut
    rename World => wx
    have x0 : wx.cell? ⟨g, 0, none⟩ = some (.int .i64 d0) := (blk_cell hrow 0).trans rfl
    have x1 : wx.cell? ⟨g, 1, none⟩ = some (.int .i64 d1) := (blk_cell hrow 1).trans rfl
    have x2 : wx.cell? ⟨g, 2, none⟩ = some (.int .i64 d2) := (blk_cell hrow 2).trans rfl
    have HBx := Lib.hid hBx
    clear fa fb ta tb hc0 hc1 hc2 c0 c1 c2 e0 e1 e2 HW HB hBx hrow ha hb
    go_wp2_with fail
    go_loop [6, 24] (fun _ u24 => u24 = .int .i64 0 ∨ (u24 = .int .i64 1 ∧ d0 = 0) ∨ (u24 = .int .i64 2 ∧ d0 = 0 ∧ d1 = 0) ∨ (u24 = .int .i64 3 ∧ d0 = 0 ∧ d1 = 0 ∧ d2 = 0)) (fun _ u24 => 3 - (intOf u24).toNat)
    case atStart => exact .inl rfl
    case round =>
      rcases hrel with rfl | ⟨rfl, z0⟩ | ⟨rfl, z0, z1⟩ | ⟨rfl, z0, z1, z2⟩
      · by_cases h : d0 = 0
        · have hb0 : (d0 != 0) = false := by simp [h]
          have H := Lib.hid h
          clear h
          go_wp2_with fail
          go_round
          case rel => exact .inr (.inl ⟨rfl, H.out⟩)
          case measure => simp [intOf]
        · have hb0 : (d0 != 0) = true := by simp [h]
          have hr := HR.out
          rw [if_pos h] at hr
          subst hr
          go_wp2_with fail
          go_ret
          exact ⟨rfl, HBx.out⟩
      · have Z0 := Lib.hid z0
        clear z0
        by_cases h : d1 = 0
        · have hb0 : (d1 != 0) = false := by simp [h]
          have H := Lib.hid h
          clear h
          go_wp2_with fail
          go_round
          case rel => exact .inr (.inr (.inl ⟨rfl, Z0.out, H.out⟩))
          case measure => simp [intOf]
        · have hb0 : (d1 != 0) = true := by simp [h]
          have hr := HR.out
          rw [if_neg (fun e => e Z0.out), if_pos h] at hr
          subst hr
          go_wp2_with fail
          go_ret
          exact ⟨rfl, HBx.out⟩
      · have Z0 := Lib.hid (And.intro z0 z1)
        clear z0 z1
        by_cases h : d2 = 0
        · have hb0 : (d2 != 0) = false := by simp [h]
          have H := Lib.hid h
          clear h
          go_wp2_with fail
          go_round
          case rel => exact .inr (.inr (.inr ⟨rfl, Z0.out.1, Z0.out.2, H.out⟩))
          case measure => simp [intOf]
        · have hb0 : (d2 != 0) = true := by simp [h]
          have hr := HR.out
          rw [if_neg (fun e => e Z0.out.1), if_neg (fun e => e Z0.out.2)] at hr
          subst hr
          go_wp2_with fail
          go_ret
          exact ⟨rfl, HBx.out⟩
      · have hr := HR.out
        rw [if_neg (fun e => e z0), if_neg (fun e => e z1), z2] at hr
        subst hr
        clear z0 z1 z2
        go_wp2_with fail
        go_ret
        exact ⟨rfl, HBx.out⟩
end Go.Proofs.Ytanhibhcmfmeeaa.Se
set_option linter.unusedSimpArgs false
/- Sessions: what a time touches. -/
namespace Go.Proofs.Ytanhibhcmfmeeaa.Se
open Go.RowKit Go.Proofs.YtanhibhcmfmeeaaW.PrintWords Go.Proofs.YtanhibhcmfmeeaaW.PrintMore Go.Proofs.Ytanhibhcmfmeeaa.Cut Go.Proofs.Ytanhibhcmfmeeaa.Fr Go.Proofs.Ytanhibhcmfmeeaa.SlK Go.Proofs.Ytanhibhcmfmeeaa.Flo
set_option maxHeartbeats 8000000 in
theorem touches_calls {w : World} {s : Nat} {gap : Int} (hg : w.cell? ⟨s, 1, none⟩ = some (.int .i64 gap)) (hgap : 1 ≤ gap ∧ gap ≤ 1048576) (x : S4) (hx : Wf x) (key time : Int) :
    Calls Try.prog 52 #[.pointer (some ⟨s, 0, none⟩), sesV x, .int .i64 key, .int .i64 time] w fun e w' => e = .returned (.bool (touchB gap key time x)) ∧ Below w.heap.size w w' := by
  obtain ⟨W, hW⟩ : ∃ W, W = w.alloc (sesRow x) := ⟨_, rfl⟩
  have hB : Below w.heap.size w W := by rw [hW]; exact below_alloc (Below.refl _ _) _
  have h1 : W.heap[w.heap.size]? = some (sesRow x) := by rw [hW]; exact (Go.MapKept.heap_alloc w _).1
  obtain ⟨c0, c1, c2⟩ := Bx.of h1
  have g0 : W.cell? ⟨s, 1, none⟩ = some (.int .i64 gap) := pw_cell_below hB hg
  have hf := fun V => from_calls x hx V
  have hto := fun V => to_calls x hx V
  unfold sesV at hf hto ⊢
  have HW := Lib.hid hW; have HB := Lib.hid hB
  obtain ⟨⟨x1, x2⟩, x3, x4⟩ := hx
  have t1 : IntKind.i64.wrap (x.fr - gap) = x.fr - gap := by rw [IntKind.wrap_i64]; omega
  have t2 : IntKind.i64.wrap (x.to_ + gap) = x.to_ + gap := by rw [IntKind.wrap_i64]; omega
  unfold touchB
  by_cases hk : x.key = key
  · subst hk
    by_cases h2 : x.fr - gap ≤ time
    · have b2 : decide (x.fr - gap ≤ time) = true := decide_eq_true h2
      have hres : decide (x.key = x.key ∧ x.fr - gap ≤ time ∧ time ≤ x.to_ + gap) = decide (time ≤ x.to_ + gap) := by
        by_cases h3 : time ≤ x.to_ + gap
        · rw [decide_eq_true h3, decide_eq_true ⟨rfl, h2, h3⟩]
        · rw [decide_eq_false h3, decide_eq_false (fun e => h3 e.2.2)]
      rw [hres]
      generalize hq : x.fr - gap = lo at t1 b2
      obtain ⟨hi, hhi⟩ : ∃ hi, hi = x.to_ + gap := ⟨_, rfl⟩
      have HH := Lib.hid hhi
      rw [← hhi] at t2 ⊢
      clear hg hW hB h1 hres hhi hgap x1 x2 x3 x4
      replace hq := Lib.hid hq
      clear h2
      go_enter Try.func52, Try.ntmps52
      go_upto_region 1 with fail
      rw [← HW.out]
      have q1 : x.fr - gap = lo := hq.out
      have q2 : x.to_ + gap = hi := HH.out.symm
      go_region_held3 (fun V => V.cell? ⟨w.heap.size, 0, none⟩ = some (.int .i64 x.key) ∧ V.cell? ⟨w.heap.size, 1, none⟩ = some (.complex .f64 (wd x.fr) (wd x.to_)) ∧ V.cell? ⟨w.heap.size, 2, none⟩ = some (.int .i64 x.val) ∧ V.cell? ⟨s, 1, none⟩ = some (.int .i64 gap)) (go_keep)
        (first
        | (go_at_call 55; (with_reducible refine (hf _).mono ?_); rintro e w4 ⟨rfl, hB4⟩; have HB4 := Lib.hid hB4; have k0 := keepB hB4 c0; have k1 := keepB hB4 c1; have k2 := keepB hB4 c2; have k3 := keepB hB4 g0; clear hB4)
        | (go_at_call 46; (with_reducible refine (hto _).mono ?_); rintro e w5 ⟨rfl, hB5⟩; have HB5 := Lib.hid hB5; have k0 := keepB hB5 k0; have k1 := keepB hB5 k1; have k2 := keepB hB5 k2; have k3 := keepB hB5 k3; clear hB5))
      all_goals
        go_wp2_with fail
        go_ret
        have q4 : Below w.heap.size w w4 := below_then (below_then HB.out HB.out.size (below_drew (Below.refl W.heap.size W))) HB.out.size HB4.out
        exact ⟨rfl, below_then q4 q4.size HB5.out⟩
    · have b2 : decide (x.fr - gap ≤ time) = false := decide_eq_false h2
      have hres : decide (x.key = x.key ∧ x.fr - gap ≤ time ∧ time ≤ x.to_ + gap) = false := decide_eq_false fun e => h2 e.2.1
      rw [hres]
      generalize hq : x.fr - gap = lo at t1 b2
      clear hg hW hB h1 hres hgap x1 x2 x3 x4 h2 t2
      replace hq := Lib.hid hq
      go_enter Try.func52, Try.ntmps52
      go_upto_region 1 with fail
      rw [← HW.out]
      have q1 : x.fr - gap = lo := hq.out
      -- BEGIN BY HAND
      refine wp_region_held_drew (S := fun V => V.cell? ⟨w.heap.size, 0, none⟩ = some (.int .i64 x.key) ∧ V.cell? ⟨w.heap.size, 1, none⟩ = some (.complex .f64 (wd x.fr) (wd x.to_)) ∧ V.cell? ⟨w.heap.size, 2, none⟩ = some (.int .i64 x.val) ∧ V.cell? ⟨s, 1, none⟩ = some (.int .i64 gap)) (by kernel_rfl) ⟨c0, c1, c2, g0⟩ (fun hHeld => ?_)
      refine wpAnyH_take (i := 0) (v := ?v0) rfl (by kernel_rfl) (by kernel_rfl) (by kernel_rfl) (fun _ _ _ h => h) (Or.inl ⟨by rfl, ?h0⟩) (by assumption) ?r0
      case h0 => (intro w hSw; (try dsimp only at hSw); go_simp; first | done | with_reducible rfl)
      try simp only [Act.put, List.getElem_toArray, List.getElem_cons_zero, List.getElem_cons_succ, List.setIfInBounds_toArray, List.set_cons_zero, List.set_cons_succ]
      refine wpAnyH_take (i := 1) (v := ?v1) rfl (by kernel_rfl) (by kernel_rfl) (by kernel_rfl) (fun _ _ _ h => h) (Or.inl ⟨by rfl, ?h1⟩) (by assumption) ?r1
      case h1 => (intro w hSw; (try dsimp only at hSw); go_simp; first | done | with_reducible rfl)
      try simp only [Act.put, List.getElem_toArray, List.getElem_cons_zero, List.getElem_cons_succ, List.setIfInBounds_toArray, List.set_cons_zero, List.set_cons_succ]
      refine wpAnyH_take (i := 2) (v := ?v2) rfl (by kernel_rfl) (by kernel_rfl) (by kernel_rfl) (fun _ _ _ h => h) (Or.inl ⟨by rfl, ?h2⟩) (by assumption) ?r2
      case h2 => (intro w hSw; (try dsimp only at hSw); go_simp; first | done | with_reducible rfl)
      try simp only [Act.put, List.getElem_toArray, List.getElem_cons_zero, List.getElem_cons_succ, List.setIfInBounds_toArray, List.set_cons_zero, List.set_cons_succ]
      refine wpAnyH_take (i := 3) (v := ?v3) rfl (by kernel_rfl) (by kernel_rfl) (by kernel_rfl) (fun _ _ _ h => h) (Or.inl ⟨by rfl, ?h3⟩) (by assumption) ?r3
      case h3 => (intro w hSw; (try dsimp only at hSw); go_simp; first | done | with_reducible rfl)
      try simp only [Act.put, List.getElem_toArray, List.getElem_cons_zero, List.getElem_cons_succ, List.setIfInBounds_toArray, List.set_cons_zero, List.set_cons_succ]
      refine wpAnyH_take (i := 4) (v := ?v4) rfl (by kernel_rfl) (by kernel_rfl) (by kernel_rfl) (fun _ _ _ h => h) (Or.inl ⟨by rfl, ?h4⟩) (by assumption) ?r4
      case h4 => (intro w hSw; (try dsimp only at hSw); go_simp; first | done | with_reducible rfl)
      try simp only [Act.put, List.getElem_toArray, List.getElem_cons_zero, List.getElem_cons_succ, List.setIfInBounds_toArray, List.set_cons_zero, List.set_cons_succ]
      refine wpAnyH_take (i := 5) (v := ?v5) rfl (by kernel_rfl) (by kernel_rfl) (by kernel_rfl) (fun _ _ _ h => h) (Or.inl ⟨by rfl, ?h5⟩) (by assumption) ?r5
      case h5 => (intro w hSw; (try dsimp only at hSw); go_simp; first | done | with_reducible rfl)
      try simp only [Act.put, List.getElem_toArray, List.getElem_cons_zero, List.getElem_cons_succ, List.setIfInBounds_toArray, List.set_cons_zero, List.set_cons_succ]
      refine wpAnyH_take (i := 6) (v := ?v6) rfl (by kernel_rfl) (by kernel_rfl) (by kernel_rfl) (fun _ _ _ h => h) (Or.inl ⟨by rfl, ?h6⟩) (by assumption) ?r6
      case h6 => (intro w hSw; (try dsimp only at hSw); go_simp; first | done | with_reducible rfl)
      try simp only [Act.put, List.getElem_toArray, List.getElem_cons_zero, List.getElem_cons_succ, List.setIfInBounds_toArray, List.set_cons_zero, List.set_cons_succ]
      refine wpAnyH_take (i := 8) (v := ?v8) rfl (by kernel_rfl) (by kernel_rfl) (by kernel_rfl) (fun _ _ _ h => h) (Or.inl ⟨by rfl, ?h8⟩) (by assumption) ?r8
      case h8 => (intro w hSw; (try dsimp only at hSw); go_simp; first | done | with_reducible rfl)
      try simp only [Act.put, List.getElem_toArray, List.getElem_cons_zero, List.getElem_cons_succ, List.setIfInBounds_toArray, List.set_cons_zero, List.set_cons_succ]
      refine wpAnyH_take (i := 9) (v := ?v9) rfl (by kernel_rfl) (by kernel_rfl) (by kernel_rfl) (fun _ _ _ h => h) (Or.inl ⟨by rfl, ?h9⟩) (by assumption) ?r9
      case h9 => (intro w hSw; (try dsimp only at hSw); go_simp; first | done | with_reducible rfl)
      try simp only [Act.put, List.getElem_toArray, List.getElem_cons_zero, List.getElem_cons_succ, List.setIfInBounds_toArray, List.set_cons_zero, List.set_cons_succ]
      refine wpAnyH_take (i := 10) (v := ?v10) rfl (by kernel_rfl) (by kernel_rfl) (by kernel_rfl) (fun _ _ _ h => h) (Or.inl ⟨by rfl, ?h10⟩) (by assumption) ?r10
      case h10 => (intro w hSw; (try dsimp only at hSw); go_simp; first | done | with_reducible rfl)
      try simp only [Act.put, List.getElem_toArray, List.getElem_cons_zero, List.getElem_cons_succ, List.setIfInBounds_toArray, List.set_cons_zero, List.set_cons_succ]
      refine wpAnyH_take (i := 11) (v := ?v11) rfl (by kernel_rfl) (by kernel_rfl) (by kernel_rfl) (fun _ _ _ h => h) (Or.inl ⟨by rfl, ?h11⟩) (by assumption) ?r11
      case h11 => (intro w hSw; (try dsimp only at hSw); go_simp; first | done | with_reducible rfl)
      try simp only [Act.put, List.getElem_toArray, List.getElem_cons_zero, List.getElem_cons_succ, List.setIfInBounds_toArray, List.set_cons_zero, List.set_cons_succ]
      refine wpAnyH_ready (rs := [7]) (by kernel_rfl) (by simp) ?_
      refine AllReadyH.cons rfl (fun K hK => ?_) AllReadyH.nil
      go_simp
      refine (hf _).mono ?_
      rintro e w4 ⟨rfl, hB4⟩
      have HB4 := Lib.hid hB4
      have k0 := keepB hB4 c0
      have k1 := keepB hB4 c1
      have k2 := keepB hB4 c2
      have k3 := keepB hB4 g0
      clear hB4
      refine hK.out _ _ ⟨k0, k1, k2, k3⟩ (fun hHeld => ?_)
      clear hK K
      try simp only [Act.put, List.getElem_toArray, List.getElem_cons_zero, List.getElem_cons_succ, List.setIfInBounds_toArray, List.set_cons_zero, List.set_cons_succ]
      refine wpAnyH_take (i := 12) (v := ?v12) rfl (by kernel_rfl) (by kernel_rfl) (by kernel_rfl) (fun _ _ _ h => h) (Or.inl ⟨by rfl, ?h12⟩) (by assumption) ?r12
      case h12 => (intro w hSw; (try dsimp only at hSw); go_simp; first | done | with_reducible rfl)
      try simp only [Act.put, List.getElem_toArray, List.getElem_cons_zero, List.getElem_cons_succ, List.setIfInBounds_toArray, List.set_cons_zero, List.set_cons_succ]
      refine wpAnyH_take (i := 13) (v := ?v13) rfl (by kernel_rfl) (by kernel_rfl) (by kernel_rfl) (fun _ _ _ h => h) (Or.inl ⟨by rfl, ?h13⟩) (by assumption) ?r13
      case h13 => (intro w hSw; (try dsimp only at hSw); go_simp; first | done | with_reducible rfl)
      try simp only [Act.put, List.getElem_toArray, List.getElem_cons_zero, List.getElem_cons_succ, List.setIfInBounds_toArray, List.set_cons_zero, List.set_cons_succ]
      refine wpAnyH_take (i := 14) (v := ?v14) rfl (by kernel_rfl) (by kernel_rfl) (by kernel_rfl) (fun _ _ _ h => h) (Or.inl ⟨by rfl, ?h14⟩) (by assumption) ?r14
      case h14 => (intro w hSw; (try dsimp only at hSw); go_simp; first | done | with_reducible rfl)
      try simp only [Act.put, List.getElem_toArray, List.getElem_cons_zero, List.getElem_cons_succ, List.setIfInBounds_toArray, List.set_cons_zero, List.set_cons_succ]
      refine wpAnyH_take (i := 15) (v := ?v15) rfl (by kernel_rfl) (by kernel_rfl) (by kernel_rfl) (fun _ _ _ h => h) (Or.inl ⟨by rfl, ?h15⟩) (by assumption) ?r15
      case h15 => (intro w hSw; (try dsimp only at hSw); go_simp; first | done | with_reducible rfl)
      try simp only [Act.put, List.getElem_toArray, List.getElem_cons_zero, List.getElem_cons_succ, List.setIfInBounds_toArray, List.set_cons_zero, List.set_cons_succ]
      refine wpAnyH_take (i := 16) (v := undef) rfl (by kernel_rfl) (by kernel_rfl) (by kernel_rfl) (fun _ _ _ h => h) (Or.inr ⟨by rfl, rfl⟩) (by assumption) ?_
      try simp only [Act.put, List.getElem_toArray, List.getElem_cons_zero, List.getElem_cons_succ, List.setIfInBounds_toArray, List.set_cons_zero, List.set_cons_succ]
      refine wpAnyH_take (i := 17) (v := undef) rfl (by kernel_rfl) (by kernel_rfl) (by kernel_rfl) (fun _ _ _ h => h) (Or.inr ⟨by rfl, rfl⟩) (by assumption) ?_
      try simp only [Act.put, List.getElem_toArray, List.getElem_cons_zero, List.getElem_cons_succ, List.setIfInBounds_toArray, List.set_cons_zero, List.set_cons_succ]
      refine wpAnyH_take (i := 18) (v := undef) rfl (by kernel_rfl) (by kernel_rfl) (by kernel_rfl) (fun _ _ _ h => h) (Or.inr ⟨by rfl, rfl⟩) (by assumption) ?_
      try simp only [Act.put, List.getElem_toArray, List.getElem_cons_zero, List.getElem_cons_succ, List.setIfInBounds_toArray, List.set_cons_zero, List.set_cons_succ]
      refine wpAnyH_take (i := 19) (v := undef) rfl (by kernel_rfl) (by kernel_rfl) (by kernel_rfl) (fun _ _ _ h => h) (Or.inr ⟨by rfl, rfl⟩) (by assumption) ?_
      try simp only [Act.put, List.getElem_toArray, List.getElem_cons_zero, List.getElem_cons_succ, List.setIfInBounds_toArray, List.set_cons_zero, List.set_cons_succ]
      refine wpAnyH_take (i := 20) (v := undef) rfl (by kernel_rfl) (by kernel_rfl) (by kernel_rfl) (fun _ _ _ h => h) (Or.inr ⟨by rfl, rfl⟩) (by assumption) ?_
      try simp only [Act.put, List.getElem_toArray, List.getElem_cons_zero, List.getElem_cons_succ, List.setIfInBounds_toArray, List.set_cons_zero, List.set_cons_succ]
      refine wpAnyH_take (i := 21) (v := undef) rfl (by kernel_rfl) (by kernel_rfl) (by kernel_rfl) (fun _ _ _ h => h) (Or.inr ⟨by rfl, rfl⟩) (by assumption) ?_
      try simp only [Act.put, List.getElem_toArray, List.getElem_cons_zero, List.getElem_cons_succ, List.setIfInBounds_toArray, List.set_cons_zero, List.set_cons_succ]
      refine wpAnyH_take (i := 22) (v := undef) rfl (by kernel_rfl) (by kernel_rfl) (by kernel_rfl) (fun _ _ _ h => h) (Or.inr ⟨by rfl, rfl⟩) (by assumption) ?_
      try simp only [Act.put, List.getElem_toArray, List.getElem_cons_zero, List.getElem_cons_succ, List.setIfInBounds_toArray, List.set_cons_zero, List.set_cons_succ]
      refine wpAnyH_take (i := 23) (v := undef) rfl (by kernel_rfl) (by kernel_rfl) (by kernel_rfl) (fun _ _ _ h => h) (Or.inr ⟨by rfl, rfl⟩) (by assumption) ?_
      try simp only [Act.put, List.getElem_toArray, List.getElem_cons_zero, List.getElem_cons_succ, List.setIfInBounds_toArray, List.set_cons_zero, List.set_cons_succ]
      refine wpAnyH_take (i := 24) (v := undef) rfl (by kernel_rfl) (by kernel_rfl) (by kernel_rfl) (fun _ _ _ h => h) (Or.inr ⟨by rfl, rfl⟩) (by assumption) ?_
      try simp only [Act.put, List.getElem_toArray, List.getElem_cons_zero, List.getElem_cons_succ, List.setIfInBounds_toArray, List.set_cons_zero, List.set_cons_succ]
      refine wpAnyH_take (i := 25) (v := ?v25) rfl (by kernel_rfl) (by kernel_rfl) (by kernel_rfl) (fun _ _ _ h => h) (Or.inl ⟨by rfl, ?h25⟩) (by assumption) ?r25
      case h25 => (intro w hSw; (try dsimp only at hSw); go_simp; first | done | with_reducible rfl)
      try simp only [Act.put, List.getElem_toArray, List.getElem_cons_zero, List.getElem_cons_succ, List.setIfInBounds_toArray, List.set_cons_zero, List.set_cons_succ]
      refine wpAnyH_take (i := 26) (v := ?v26) rfl (by kernel_rfl) (by kernel_rfl) (by kernel_rfl) (fun _ _ _ h => h) (Or.inl ⟨by rfl, ?h26⟩) (by assumption) ?r26
      case h26 => (intro w hSw; (try dsimp only at hSw); go_simp; first | done | with_reducible rfl)
      try simp only [Act.put, List.getElem_toArray, List.getElem_cons_zero, List.getElem_cons_succ, List.setIfInBounds_toArray, List.set_cons_zero, List.set_cons_succ]
      refine wpAnyH_done (by kernel_rfl) ?_ _
      go_wp2_with fail
      go_ret
      exact ⟨rfl, below_then (below_then HB.out HB.out.size (below_drew (Below.refl W.heap.size W))) HB.out.size HB4.out⟩
      -- END BY HAND
  · have hres : decide (x.key = key ∧ x.fr - gap ≤ time ∧ time ≤ x.to_ + gap) = false := decide_eq_false fun e => hk e.1
    rw [hres]
    have b1 : (x.key == key) = false := beq_eq_false_iff_ne.2 hk
    clear hg hW hB h1 hres hgap x1 x2 x3 x4 hf hto t1 t2
    go_enter Try.func52, Try.ntmps52
    go_upto_region 1 with fail
    rw [← HW.out]
    go_quiet (fail)
    go_wp2_with fail
    go_ret
    exact ⟨rfl, pw_below_drewN HB.out _⟩
end Go.Proofs.Ytanhibhcmfmeeaa.Se
/- The walk of slices.Insert at one element of 3 cells, in a row of the call's own. -/
namespace Go.Proofs.Ytanhibhcmfmeeaa.Se
open Go.RowKit Go.Proofs.YtanhibhcmfmeeaaW.PrintWords Go.Proofs.Ytanhibhcmfmeeaa.Cut Go.Proofs.Ytanhibhcmfmeeaa.Fr Go.Proofs.Ytanhibhcmfmeeaa.SlK
abbrev zeroE : Value := .agg #[.int .i64 0, .complex .f64 0 0, .int .i64 0]
theorem infoE : (Try.prog.info? 113).map (fun i => (i.zero, i.size, i.bytes)) = some (some zeroE, 3, 32) := by kernel_rfl
theorem sizeE : (Try.prog.info? 113).map (·.size) = some 3 := by kernel_rfl
/-- What Insert leaves. -/
def InsP (w : World) (base : Nat) (v : Value) (n i : Nat) (cs ec : List Value) (e : Ending) (w' : World) : Prop :=
  ∃ v', e = .returned v' ∧ w'.ownsRow base 113 3 v' (n + 1) (cs.take (i * 3) ++ ec ++ cs.drop (i * 3)) ∧ w.grownBy w' v.ownBlock ∧ (v'.ownBlock = v.ownBlock ∨ ∃ b, v'.ownBlock = some b ∧ w.heap.size ≤ b)
theorem grownBy_set (w : World) (g : Nat) (cs : Array Value) : w.grownBy (w.setRow g cs) (some g) := ⟨rfl, rfl, rfl, by simp [World.setRow], fun k _ hk => setRow_other w g k cs (fun e => hk (by rw [e]))⟩
theorem grownBy_new {w : World} (W : World) (g : Nat) (cs : Array Value) {row : Option Nat} (h : w.grownBy W row) (hg : w.heap.size ≤ g) : w.grownBy (W.setRow g cs) row :=
  ⟨h.os, h.tape, h.output, by simpa [World.setRow] using h.size, fun k hk hr => (setRow_other W g k cs (by omega)).trans (h.block k hk hr)⟩
theorem grown_dr (w : World) (row : Option Nat) : w.grownBy w.drew row := ⟨rfl, rfl, rfl, Nat.le_refl _, fun _ _ _ => rfl⟩
theorem cells_at {w : World} {g n : Nat} {cur : Array Value} {cs : List Value} (hb : w.heap[g]? = some (.cells cur 113 (0, 0))) (ht : cur.toList.take (n * 3) = cs) (a : Nat) (j : Nat) (v : Value) (hj : (cs.drop a)[j]? = some v) : w.cell? ((⟨g, a, none⟩ : Addr).add j) = some v := by
  rw [add_plain', blk_cell hb, ← Array.getElem?_toList]
  rw [List.getElem?_drop, ← ht, List.getElem?_take] at hj
  split at hj
  · exact hj
  · cases hj
where
  add_plain' : ((⟨g, a, none⟩ : Addr).add j) = ⟨g, a + j, none⟩ := by unfold Addr.add; split <;> simp_all
set_option maxHeartbeats 4000000 in
set_option maxRecDepth 100000 in
theorem ins_end (w : World) (base : Nat) (v : Value) (n : Nat) (cs ec : List Value) (vb : Nat) (hown : w.ownsRow base 113 3 v n cs) (hbase : base ≤ w.heap.size) (hv : w.heap[vb]? = some (.cells ec.toArray 113 (0, 0))) (hec : ec.length = 3) (h1 : ∀ u ∈ ec, u.oneCell' = true) (hn : n ≤ 1000000) :
    Calls Try.prog 71 #[v, .int .i64 n, .slice (some ⟨vb, 0, none⟩) 1 1] w (InsP w base v n n cs ec) := by
  obtain ⟨i0, hi, hz⟩ := Option.map_eq_some_iff.1 infoE
  simp only [Prod.mk.injEq] at hz
  obtain ⟨hz0, hz1, hz2⟩ := hz
  obtain ⟨v1, w1, hr, ho, hg, _, hat⟩ := run_append_own_at (P := Try.prog) w base 109 109 113 i0 zeroE 3 32 Try.underlying109 hi hz0 hz1 hz2 rfl (by decide) v n cs hown ⟨vb, 0, none⟩ 1 1 ec (by omega)
    (fun j u hu => by
      have e : ((⟨vb, 0, none⟩ : Addr).add j) = ⟨vb, j, none⟩ := add_plain vb j
      rw [e, blk_cell hv]
      simpa using hu) h1 (by simp only [maxLen]; omega) (by omega) hbase
  have hlen := hown.1
  have hfin : InsP w base v n n cs ec (.returned v1) w1 := by
    refine ⟨v1, rfl, ?_, hg, hat.imp id fun h => ⟨_, h, Nat.le_refl _⟩⟩
    rw [← hlen, List.take_length, List.drop_length, List.append_nil]
    exact ho
  have hcl : ∃ A c, v = .slice A n c ∧ n ≤ c := by
    rcases hown.2 with ⟨rfl, rfl⟩ | ⟨g, cap, cur, rfl, _, _, h2, _⟩
    · exact ⟨none, 0, rfl, Nat.le_refl _⟩
    · exact ⟨_, cap, rfl, h2⟩
  have HF := Lib.hid hfin
  clear hfin ho hg hat hown hv h1 hz0 hz1 hz2 hi hlen hec
  obtain ⟨A, c, rfl, hnc⟩ := hcl
  go_enter Try.func71, Try.ntmps71
  go_wp2_with (at_builtin; refine Lib.wpList_append_run _ rfl _ _ _ _ rfl _ _ rfl rfl _ _ hr ?_)
  all_goals
    go_ret
    first | exact HF.out | (obtain rfl : c = n := (by assumption); exact HF.out)
theorem overlaps_no (w : World) (g vb o n c lb cb : Nat) (cur ec : Array Value) (hb : w.heap[g]? = some (.cells cur 113 (0, 0))) (hv : w.heap[vb]? = some (.cells ec 113 (0, 0))) (hne : vb ≠ g) (hcur : cur.size ≠ 0) :
    (callFunc 76 #[.slice (some ⟨vb, 0, none⟩) n c, .slice (some ⟨g, o, none⟩) lb cb]).run Try.prog w = .ok (.value (.bool false)) w := by
  have hz : ∀ w : World, (Go.sizeOf 113).run Try.prog w = .ok 3 w := fun w => by kernel_rfl
  rw [run_callFunc_extern Try.func76 (by kernel_rfl) (by kernel_rfl) (by kernel_rfl) (e := Extern.SlicesOverlaps.overlaps #[109, 109] #[4]) (by kernel_rfl),
    Lib.run_overlaps_apart w 109 4 113 Try.underlying109 3 hz ⟨vb, 0, none⟩ ⟨g, o, none⟩ n c lb cb hne 113 113 ec.size cur.size (by simp [World.shape?, hv]) (by simp [World.shape?, hb]) hcur (by simp [World.frozen?, hv]) (by simp [World.frozen?, hv])]
  rfl
set_option maxHeartbeats 8000000 in
set_option maxRecDepth 100000 in
theorem ins_room (w : World) (base g cap n i vb : Nat) (cur : Array Value) (cs ec : List Value) (hg : base ≤ g) (hb : w.heap[g]? = some (.cells cur 113 (0, 0))) (hc : cur.size = cap * 3) (hm : cap ≤ 9223372036854775807) (ht : cur.toList.take (n * 3) = cs) (hcl : cs.length = n * 3) (h1c : ∀ u ∈ cs, u.oneCell' = true)
    (hi : i < n) (hroom : n + 1 ≤ cap) (hn : n ≤ 1000000) (hv : w.heap[vb]? = some (.cells ec.toArray 113 (0, 0))) (hec : ec.length = 3) (h1 : ∀ u ∈ ec, u.oneCell' = true) (hne : vb ≠ g) :
    Calls Try.prog 71 #[.slice (some ⟨g, 0, none⟩) n cap, .int .i64 i, .slice (some ⟨vb, 0, none⟩) 1 1] w (InsP w base (.slice (some ⟨g, 0, none⟩) n cap) n i cs ec) := by
  have hdl : (cs.drop (i * 3)).length = (n - i) * 3 := by rw [List.length_drop, hcl]; omega
  have hov := fun lb cb => overlaps_no w g vb ((i + 1) * 3) 1 1 lb cb cur ec.toArray hb hv hne (by omega)
  have hcp1 : ∀ (W : World) ty dc sc, W.heap[g]? = some (.cells cur 113 (0, 0)) → (Builtin.copy_ #[109, 109] ty #[.slice (some ⟨g, (i + 1) * 3, none⟩) (n - i) dc, .slice (some ⟨g, i * 3, none⟩) (n + 1 - i) sc]).run Try.prog W = .ok (goInt (n - i : Nat)) (W.setRow g (cur.toList.take ((i + 1) * 3) ++ cs.drop (i * 3) ++ cur.toList.drop ((i + 1) * 3 + (cs.drop (i * 3)).length)).toArray) := fun W ty dc sc hW =>
    run_copyK W _ _ ty 113 g ((i + 1) * 3) (n - i) dc ⟨g, i * 3, none⟩ (n + 1 - i) sc cur 113 (cs.drop (i * 3)) 3 (n - i) Try.underlying109 sizeE hW (by simp only [Nat.min_def]; split <;> omega) hdl (fun j v hj => cells_at hW ht _ j v hj) (by rw [hdl]; omega) (fun v hv => h1c v (List.mem_of_mem_drop hv))
  obtain ⟨cur1, hcur1⟩ : ∃ cur1 : Array Value, cur1 = (cur.toList.take ((i + 1) * 3) ++ cs.drop (i * 3) ++ cur.toList.drop ((i + 1) * 3 + (cs.drop (i * 3)).length)).toArray := ⟨_, rfl⟩
  have hs1 : cur1.size = cap * 3 := by
    rw [hcur1]
    simp only [List.size_toArray, List.length_append, List.length_take, List.length_drop, Array.length_toList]
    omega
  rw [← hcur1] at hcp1
  have hcp2 : ∀ (W : World) ty dc, W.heap[g]? = some (.cells cur1 113 (0, 0)) → W.heap[vb]? = some (.cells ec.toArray 113 (0, 0)) → (Builtin.copy_ #[109, 109] ty #[.slice (some ⟨g, i * 3, none⟩) (n + 1 - i) dc, .slice (some ⟨vb, 0, none⟩) 1 1]).run Try.prog W = .ok (goInt (1 : Nat)) (W.setRow g (cur1.toList.take (i * 3) ++ ec ++ cur1.toList.drop (i * 3 + ec.length)).toArray) := fun W ty dc hW hWv =>
    run_copyK W _ _ ty 113 g (i * 3) (n + 1 - i) dc ⟨vb, 0, none⟩ 1 1 cur1 113 ec 3 1 Try.underlying109 sizeE hW (by simp only [Nat.min_def]; split <;> omega) (by omega) (fun j u hu => by
      have e : ((⟨vb, 0, none⟩ : Addr).add j) = ⟨vb, j, none⟩ := add_plain vb j
      rw [e, blk_cell hWv]
      simpa using hu) (by rw [hec]; omega) h1
  have hlist := room_list cur.toList ec (cs.drop (i * 3)) (i * 3) 3 (by rw [hdl, Array.length_toList]; omega) hec
  have htk : cur.toList.take (i * 3) = cs.take (i * 3) := by rw [← ht, List.take_take, Nat.min_eq_left (by omega)]
  obtain ⟨cur2, hcur2⟩ : ∃ cur2 : Array Value, cur2 = (cur1.toList.take (i * 3) ++ ec ++ cur1.toList.drop (i * 3 + ec.length)).toArray := ⟨_, rfl⟩
  rw [← hcur2] at hcp2
  have hfin : ∀ W : World, w.grownBy W (some g) → W.heap[g]? = some (.cells cur2 113 (0, 0)) → InsP w base (.slice (some ⟨g, 0, none⟩) n cap) n i cs ec (.returned (.slice (some ⟨g, 0, none⟩) (n + 1) cap)) W := fun W hG hW => by
    refine ⟨_, rfl, ⟨?_, .inr ⟨g, cap, cur2, rfl, hg, hW, hroom, by simpa [maxLen] using hm, ?_, ?_⟩⟩, hG, .inl rfl⟩
    · simp only [List.length_append, List.length_take, hdl, hec, hcl]; omega
    · rw [hcur2]
      simp only [List.size_toArray, List.length_append, List.length_take, List.length_drop, Array.length_toList, hs1, hec]
      omega
    · rw [← htk, ← hlist]
      have e : (n + 1) * 3 = i * 3 + 3 + (cs.drop (i * 3)).length := by rw [hdl]; omega
      rw [e, hcur2, hcur1]
      have e2 : (i + 1) * 3 = i * 3 + 3 := by omega
      rw [e2]
  have HF := Lib.hid hfin
  have hin : ¬ ((i : Int) = (n : Int)) := by omega
  have hw1 : IntKind.i64.wrap ((i : Int) + 1) = (i : Int) + 1 := by rw [IntKind.wrap_i64]; omega
  have hw2 : (0 : Int) ≤ (i : Int) + 1 := by omega
  have hw3 : ((i : Int) + 1).toNat = i + 1 := by omega
  have hb2 : ¬ (cap = i + 1) := by omega
  have hb3 : ¬ (cap = i) := by omega
  have hb4 : ¬ (cap = n + 1) ∨ cap = n + 1 := by omega
  have hi1 : (i : Int) < (n : Int) := by omega
  have hi2 : (i : Int) + 1 ≤ (n : Int) + 1 := by omega
  have hi3 : (n : Int) + 1 ≤ (cap : Int) := by omega
  have hi4 : (i : Int) ≤ (n : Int) + 1 := by omega
  have HV := Lib.hid hv; have HB := Lib.hid hb
  have HC1 := Lib.hid hcp1; have HC2 := Lib.hid hcp2
  clear hfin hlist htk hcur1 hcur2 hs1 hdl hv hb hcp1 hcp2 ht hcl h1c h1 hec hc hb4
  go_enter Try.func71, Try.ntmps71
  go_wp2_with (simp only [hov])
  have HB1 : Hid ((w.drew.setRow g cur1).heap[g]? = some (.cells cur1 113 (0, 0))) := Lib.hid (setRow_heap w.drew g cur cur1 _ _ HB.out)
  have HV1 : Hid ((w.drew.setRow g cur1).heap[vb]? = some (.cells ec.toArray 113 (0, 0))) := Lib.hid ((setRow_other w.drew g vb cur1 hne).trans HV.out)
  go_region_law (refine step_copy_run rfl (.tmp 73) (.tmp 76) 109 109 rfl (.slice (some ⟨g, (i + 1) * 3, none⟩) (n - i) (cap - (i + 1))) (.slice (some ⟨g, i * 3, none⟩) (n + 1 - i) (cap - i)) (by simp [Act.eval, Act.put]) (by simp [Act.eval, Act.put]) (HC1.out _ _ _ _ HB.out) ?_)
  go_wp2_with (refine wpList_copy_run _ rfl (.tmp 80) (.tmp 81) 109 109 rfl _ _ rfl rfl (HC2.out _ _ _ HB1.out HV1.out) ?_)
  go_ret
  refine HF.out _ ?_ (setRow_heap _ g cur1 cur2 _ _ HB1.out)
  exact World.grownBy.trans (grown_dr w (some g)) (World.grownBy.trans (grownBy_set w.drew g cur1) (grownBy_set _ g cur2))
set_option maxHeartbeats 8000000 in
set_option maxRecDepth 100000 in
theorem ins_grow (w : World) (base g cap n i vb : Nat) (cur : Array Value) (cs ec : List Value) (hbase : base ≤ w.heap.size) (hb : w.heap[g]? = some (.cells cur 113 (0, 0))) (ht : cur.toList.take (n * 3) = cs) (hcl : cs.length = n * 3) (h1c : ∀ u ∈ cs, u.oneCell' = true)
    (hi : i < n) (hnc : n ≤ cap) (hroom : cap < n + 1) (hn : n ≤ 1000000) (hv : w.heap[vb]? = some (.cells ec.toArray 113 (0, 0))) (hec : ec.length = 3) (h1 : ∀ u ∈ ec, u.oneCell' = true) :
    Calls Try.prog 71 #[.slice (some ⟨g, 0, none⟩) n cap, .int .i64 i, .slice (some ⟨vb, 0, none⟩) 1 1] w (InsP w base (.slice (some ⟨g, 0, none⟩) n cap) n i cs ec) := by
  obtain ⟨i0, hi0, hz⟩ := Option.map_eq_some_iff.1 infoE
  simp only [Prod.mk.injEq] at hz
  obtain ⟨hz0, hzs, hzb⟩ := hz
  have hgw : g < w.heap.size := (Array.getElem?_eq_some_iff.1 hb).1
  have hvw : vb < w.heap.size := (Array.getElem?_eq_some_iff.1 hv).1
  have hdl : (cs.drop (i * 3)).length = (n - i) * 3 := by rw [List.length_drop, hcl]; omega
  have hkk : (n : Int) + 1 - (i : Int) = ((n + 1 - i : Nat) : Int) := by omega
  have hik : i + (n + 1 - i) = n + 1 := by omega
  have hold : (Builtin.firstCells i0.size i (.slice (some ⟨g, 0, none⟩) i cap)).run Try.prog w.drew = .ok (cs.take (i * 3)).toArray w.drew := by
    rw [hzs]
    exact run_firstCells_some w.drew 3 i ⟨g, 0, none⟩ i cap (cs.take (i * 3)) (by rw [List.length_take]; omega) (fun j v hj => by
      rw [List.getElem?_take] at hj
      split at hj
      · exact cells_at (w := w.drew) hb ht 0 j v (by rw [List.drop_zero]; exact hj)
      · cases hj)
  obtain ⟨G, hG⟩ : ∃ G, G = grownCap w (n + 1) cap 113 := ⟨_, rfl⟩
  obtain ⟨ROW, hROW⟩ : ∃ ROW : Array Value, ROW = (cs.take (i * 3)).toArray ++ Builtin.zeroCells zeroE.cells (n + 1 - i) ++ Builtin.zeroCells zeroE.cells (G - (n + 1)) := ⟨_, rfl⟩
  have hGn : n + 1 ≤ G := by rw [hG]; exact grownCap_ge w _ _ _
  have hG63 : G ≤ 9223372036854775807 := by
    have := grownCap_le_maxLen w (n + 1) cap 113 (by unfold maxLen; omega)
    rw [← hG] at this
    unfold maxLen at this
    omega
  have hzc : zeroE.cells.size = 3 := rfl
  have hRl : ROW.size = G * 3 := by
    rw [hROW]
    simp only [Array.size_append, List.size_toArray, List.length_take, size_zeroCells, hzc, hcl]
    omega
  have hrz : ∀ ty, (Builtin.append_ #[109, 3] ty #[.slice (some ⟨g, 0, none⟩) i cap, .int .i64 ((n : Int) + 1 - (i : Int))]).run Try.prog w = .ok (.slice (some ⟨w.heap.size, 0, none⟩) (n + 1) G) (w.drew.alloc (.cells ROW 113)) := fun ty => by
    have h := Lib.run_append_grow_zeros w 109 3 ty 113 i0 _ .i64 .i64 Try.underlying109 Try.underlying3 hi0 hz0 (some ⟨g, 0, none⟩) i cap (cs.take (i * 3)) hold (n + 1 - i) (by omega) (by rw [hzs]; decide) (by omega) (by omega) (by rw [hzb]; omega) (by rw [hzb, hik]; exact growslice_fits hroom (by omega))
    rw [hik, ← hG, ← hROW] at h
    rw [hkk]
    exact h
  obtain ⟨W1, hW1⟩ : ∃ W1, W1 = w.drew.alloc (.cells ROW 113) := ⟨_, rfl⟩
  rw [← hW1] at hrz
  have hR1 : W1.heap[w.heap.size]? = some (.cells ROW 113 (0, 0)) := by rw [hW1]; exact heap_alloc_new w.drew _
  have hg1 : W1.heap[g]? = some (.cells cur 113 (0, 0)) := by rw [hW1]; exact (heap_alloc_old w.drew _ hgw).trans hb
  have hv1 : W1.heap[vb]? = some (.cells ec.toArray 113 (0, 0)) := by rw [hW1]; exact (heap_alloc_old w.drew _ hvw).trans hv
  have hG1 : w.grownBy W1 (some g) := by rw [hW1]; exact World.grownBy.trans (grown_dr w (some g)) (World.grownBy_alloc _ _ _)
  have hcp1 : ∀ (W : World) ty dc, W.heap[w.heap.size]? = some (.cells ROW 113 (0, 0)) → W.heap[vb]? = some (.cells ec.toArray 113 (0, 0)) → (Builtin.copy_ #[109, 109] ty #[.slice (some ⟨w.heap.size, i * 3, none⟩) (n + 1 - i) dc, .slice (some ⟨vb, 0, none⟩) 1 1]).run Try.prog W = .ok (goInt (1 : Nat)) (W.setRow w.heap.size (ROW.toList.take (i * 3) ++ ec ++ ROW.toList.drop (i * 3 + ec.length)).toArray) := fun W ty dc hW hWv =>
    run_copyK W _ _ ty 113 w.heap.size (i * 3) (n + 1 - i) dc ⟨vb, 0, none⟩ 1 1 ROW 113 ec 3 1 Try.underlying109 sizeE hW (by simp only [Nat.min_def]; split <;> omega) (by omega) (fun j u hu => by
      have e : ((⟨vb, 0, none⟩ : Addr).add j) = ⟨vb, j, none⟩ := add_plain vb j
      rw [e, blk_cell hWv]
      simpa using hu) (by rw [hec, hRl]; omega) h1
  obtain ⟨cur1, hcur1⟩ : ∃ cur1 : Array Value, cur1 = (ROW.toList.take (i * 3) ++ ec ++ ROW.toList.drop (i * 3 + ec.length)).toArray := ⟨_, rfl⟩
  have hs1 : cur1.size = G * 3 := by
    rw [hcur1]
    simp only [List.size_toArray, List.length_append, List.length_take, List.length_drop, Array.length_toList, hec]
    omega
  rw [← hcur1] at hcp1
  have hcp2 : ∀ (W : World) ty dc sc, W.heap[w.heap.size]? = some (.cells cur1 113 (0, 0)) → W.heap[g]? = some (.cells cur 113 (0, 0)) → (Builtin.copy_ #[109, 109] ty #[.slice (some ⟨w.heap.size, (i + 1) * 3, none⟩) (n - i) dc, .slice (some ⟨g, i * 3, none⟩) (n - i) sc]).run Try.prog W = .ok (goInt (n - i : Nat)) (W.setRow w.heap.size (cur1.toList.take ((i + 1) * 3) ++ cs.drop (i * 3) ++ cur1.toList.drop ((i + 1) * 3 + (cs.drop (i * 3)).length)).toArray) := fun W ty dc sc hW hWg =>
    run_copyK W _ _ ty 113 w.heap.size ((i + 1) * 3) (n - i) dc ⟨g, i * 3, none⟩ (n - i) sc cur1 113 (cs.drop (i * 3)) 3 (n - i) Try.underlying109 sizeE hW (by simp only [Nat.min_def]; split <;> omega) hdl (fun j v hj => cells_at hWg ht _ j v hj) (by rw [hdl]; omega) (fun v hv => h1c v (List.mem_of_mem_drop hv))
  obtain ⟨cur2, hcur2⟩ : ∃ cur2 : Array Value, cur2 = (cur1.toList.take ((i + 1) * 3) ++ cs.drop (i * 3) ++ cur1.toList.drop ((i + 1) * 3 + (cs.drop (i * 3)).length)).toArray := ⟨_, rfl⟩
  rw [← hcur2] at hcp2
  have hlist := grow_list ROW.toList ec (cs.drop (i * 3)) (i * 3) 3 (by rw [hdl, Array.length_toList]; omega) hec
  have htk : ROW.toList.take (i * 3) = cs.take (i * 3) := by
    rw [hROW, Array.toList_append, Array.toList_append, List.append_assoc]
    exact List.take_left' (by rw [List.length_take, hcl]; omega)
  have hfin : ∀ W : World, w.grownBy W (some g) → W.heap[w.heap.size]? = some (.cells cur2 113 (0, 0)) → InsP w base (.slice (some ⟨g, 0, none⟩) n cap) n i cs ec (.returned (.slice (some ⟨w.heap.size, 0, none⟩) (n + 1) G)) W := fun W hGr hW => by
    refine ⟨_, rfl, ⟨?_, .inr ⟨w.heap.size, G, cur2, rfl, hbase, hW, hGn, by simpa [maxLen] using hG63, ?_, ?_⟩⟩, hGr, .inr ⟨_, rfl, Nat.le_refl _⟩⟩
    · simp only [List.length_append, List.length_take, hdl, hec, hcl]; omega
    · rw [hcur2]
      simp only [List.size_toArray, List.length_append, List.length_take, List.length_drop, Array.length_toList, hs1]
      omega
    · rw [← htk, ← hlist]
      have e : (n + 1) * 3 = i * 3 + 3 + (cs.drop (i * 3)).length := by rw [hdl]; omega
      rw [e, hcur2, hcur1]
      have e2 : (i + 1) * 3 = i * 3 + 3 := by omega
      rw [e2]
  have HF := Lib.hid hfin
  have HR := Lib.hid hR1; have HV := Lib.hid hv1; have HB := Lib.hid hg1; have HGR := Lib.hid hG1
  have HC1 := Lib.hid hcp1; have HC2 := Lib.hid hcp2; have HZ := Lib.hid hrz
  have hin : ¬ ((i : Int) = (n : Int)) := by omega
  have hw1 : IntKind.i64.wrap ((i : Int) + 1) = (i : Int) + 1 := by rw [IntKind.wrap_i64]; omega
  have hw4 : (0 : Int) ≤ (n : Int) + 1 - (i : Int) := by omega
  have hw2 : (0 : Int) ≤ (i : Int) + 1 := by omega
  have hw3 : ((i : Int) + 1).toNat = i + 1 := by omega
  have hb2 : ¬ (G = i + 1) := by omega
  have hb3 : ¬ (G = i) := by omega
  have hb4 : ¬ (cap = i) := by omega
  have hi1 : (i : Int) < (n : Int) := by omega
  have hi6 : (i : Int) ≤ (n : Int) := by omega
  have hi2 : (i : Int) + 1 ≤ (n : Int) + 1 := by omega
  have hi3 : (cap : Int) < (n : Int) + 1 := by omega
  have hi4 : (i : Int) ≤ (n : Int) + 1 := by omega
  have hi5 : (i : Int) ≤ (cap : Int) := by omega
  have hne1 : vb ≠ w.heap.size := by omega
  have hne2 : g ≠ w.heap.size := by omega
  have HN := Lib.hid (And.intro hne1 hne2)
  clear hfin hlist htk hcur1 hcur2 hs1 hdl hv hb hcp1 hcp2 ht hcl h1c h1 hec hR1 hg1 hv1 hG1 hrz hW1 hRl hROW hG hold hzc hkk hik hi0 hz0 hzs hzb hne1 hne2
  go_enter Try.func71, Try.ntmps71
  go_upto_region 10 with (at_builtin; refine Lib.wpList_append_run _ rfl _ _ _ _ rfl _ _ rfl rfl _ _ (HZ.out _) ?_)
  have HR1 : Hid ((W1.setRow w.heap.size cur1).heap[w.heap.size]? = some (.cells cur1 113 (0, 0))) := Lib.hid (setRow_heap W1 w.heap.size ROW cur1 _ _ HR.out)
  have HB1 : Hid ((W1.setRow w.heap.size cur1).heap[g]? = some (.cells cur 113 (0, 0))) := Lib.hid ((setRow_other W1 w.heap.size g cur1 HN.out.2).trans HB.out)
  go_wp2_with (refine wpList_copy_run _ rfl (.tmp 43) (.tmp 44) 109 109 rfl _ _ rfl rfl (HC1.out _ _ _ HR.out HV.out) ?_)
  go_region_law (refine step_copy_run rfl (.tmp 50) (.tmp 53) 109 109 rfl (.slice (some ⟨w.heap.size, (i + 1) * 3, none⟩) (n - i) (G - (i + 1))) (.slice (some ⟨g, i * 3, none⟩) (n - i) (cap - i)) (by simp [Act.eval, Act.put]) (by simp [Act.eval, Act.put]) (HC2.out _ _ _ _ HR1.out HB1.out) ?_)
  go_wp2_with fail
  go_ret
  refine HF.out _ ?_ (setRow_heap _ w.heap.size cur1 cur2 _ _ HR1.out)
  have k1 := grownBy_new W1 w.heap.size cur1 HGR.out (Nat.le_refl _)
  exact grownBy_new _ w.heap.size cur2 (World.grownBy.trans k1 (grown_dr _ _)) (Nat.le_refl _)
/-- Insert of one element into a row of the call's own. -/
theorem ins_calls (w : World) (base : Nat) (v : Value) (n i : Nat) (cs ec : List Value) (vb : Nat) (hown : w.ownsRow base 113 3 v n cs) (hbase : base ≤ w.heap.size) (hi : i ≤ n) (hn : n ≤ 1000000) (h1c : ∀ u ∈ cs, u.oneCell' = true)
    (hv : w.heap[vb]? = some (.cells ec.toArray 113 (0, 0))) (hec : ec.length = 3) (h1 : ∀ u ∈ ec, u.oneCell' = true) (hne : some vb ≠ v.ownBlock) :
    Calls Try.prog 71 #[v, .int .i64 i, .slice (some ⟨vb, 0, none⟩) 1 1] w (InsP w base v n i cs ec) := by
  by_cases he : i = n
  · subst he
    exact ins_end w base v i cs ec vb hown hbase hv hec h1 hn
  · have hown' := hown
    obtain ⟨hcl, hr⟩ := hown
    rcases hr with ⟨rfl, rfl⟩ | ⟨g, cap, cur, rfl, hg, hh, h2, h3, h4, h5⟩
    · omega
    · have hne' : vb ≠ g := fun e => hne (by rw [e]; rfl)
      by_cases hroom : n + 1 ≤ cap
      · exact ins_room w base g cap n i vb cur cs ec hg hh h4 (by simpa [maxLen] using h3) h5 hcl h1c (by omega) hroom hn hv hec h1 hne'
      · exact ins_grow w base g cap n i vb cur cs ec hbase hh h5 hcl h1c (by omega) h2 (by omega) hn hv hec h1
end Go.Proofs.Ytanhibhcmfmeeaa.Se
/- A row of sessions; the walk of slices.BinarySearchFunc over it. -/
namespace Go.Proofs.Ytanhibhcmfmeeaa.Se
open Go.RowKit Go.Proofs.YtanhibhcmfmeeaaW.PrintWords Go.Proofs.YtanhibhcmfmeeaaW.PrintMore Go.Proofs.Ytanhibhcmfmeeaa.Cut Go.Proofs.Ytanhibhcmfmeeaa.Fr Go.Proofs.Ytanhibhcmfmeeaa.SlK Go.Proofs.Ytanhibhcmfmeeaa.Flo
theorem encS_len (l : L4) : (l.flatMap encS).length = l.length * 3 := by
  induction l with
  | nil => rfl
  | cons x r ih => rw [List.flatMap_cons, List.length_append, ih]; simp [encS]; omega
theorem encS_get : ∀ (l : L4) (i : Nat) (x : S4), l[i]? = some x → (l.flatMap encS)[i * 3]? = some (.int .i64 x.key) ∧ (l.flatMap encS)[i * 3 + 1]? = some (.complex .f64 (wd x.fr) (wd x.to_)) ∧ (l.flatMap encS)[i * 3 + 2]? = some (.int .i64 x.val)
  | [], i, x, h => by simp at h
  | y :: r, 0, x, h => by
    obtain rfl : y = x := by simpa using h
    exact ⟨rfl, rfl, rfl⟩
  | y :: r, i + 1, x, h => by
    have h' := encS_get r i x (by simpa using h)
    rw [List.flatMap_cons]
    have e : ∀ j, j < 3 → (encS y ++ r.flatMap encS)[(i + 1) * 3 + j]? = (r.flatMap encS)[i * 3 + j]? := fun j _ => by
      rw [List.getElem?_append_right (by simp [encS]; omega)]
      have : (i + 1) * 3 + j - (encS y).length = i * 3 + j := by simp [encS]; omega
      rw [this]
    refine ⟨?_, ?_, ?_⟩
    · have := e 0 (by decide); simp only [Nat.add_zero] at this; rw [this]; exact h'.1
    · rw [e 1 (by decide)]; exact h'.2.1
    · rw [e 2 (by decide)]; exact h'.2.2
theorem encS_one (l : L4) : ∀ u ∈ l.flatMap encS, u.oneCell' = true := by
  intro u hu
  obtain ⟨x, _, hx⟩ := List.mem_flatMap.1 hu
  simp [encS] at hx
  rcases hx with rfl | rfl | rfl <;> rfl
theorem encS_take (l : L4) (i : Nat) : (l.flatMap encS).take (i * 3) = (l.take i).flatMap encS := by
  induction l generalizing i with
  | nil => simp
  | cons x r ih =>
    cases i with
    | zero => simp
    | succ i =>
      rw [List.take_succ_cons, List.flatMap_cons, List.flatMap_cons, ← ih i]
      have : (i + 1) * 3 = (encS x).length + i * 3 := by simp [encS]; omega
      rw [this, List.take_length_add_append]
theorem encS_drop (l : L4) (i : Nat) : (l.flatMap encS).drop (i * 3) = (l.drop i).flatMap encS := by
  induction l generalizing i with
  | nil => simp
  | cons x r ih =>
    cases i with
    | zero => simp
    | succ i =>
      rw [List.drop_succ_cons, List.flatMap_cons, ← ih i]
      have : (i + 1) * 3 = (encS x).length + i * 3 := by simp [encS]; omega
      rw [this, List.drop_length_add_append]
/-- A row of sessions, as it is read; wherever memory is made behind it. -/
theorem row_cells {w : World} {base : Nat} {v : Value} {l : L4} (h : w.ownsRow base 113 3 v l.length (l.flatMap encS)) : ∃ A c, v = .slice A l.length c ∧ l.length ≤ c ∧ ∀ i x, l[i]? = some x → ∃ g, A = some ⟨g, 0, none⟩ ∧ ∀ W, Below w.heap.size w W → W.cell? ⟨g, i * 3, none⟩ = some (.int .i64 x.key) ∧ W.cell? ⟨g, i * 3 + 1, none⟩ = some (.complex .f64 (wd x.fr) (wd x.to_)) ∧ W.cell? ⟨g, i * 3 + 2, none⟩ = some (.int .i64 x.val) := by
  rcases h.2 with ⟨rfl, h0⟩ | ⟨g, cap, cur, rfl, hg, hh, h1, h2, h3, h4⟩
  · refine ⟨none, 0, by rw [h0], by omega, fun i p hp => ?_⟩
    obtain rfl := List.eq_nil_of_length_eq_zero h0
    simp at hp
  · refine ⟨_, cap, rfl, h1, fun i x hp => ⟨g, rfl, fun W hW => ?_⟩⟩
    have hW' := (hW.block g (Array.getElem?_eq_some_iff.1 hh).1).trans hh
    obtain ⟨e1, e2, e3⟩ := encS_get l i x hp
    have hi := (List.getElem?_eq_some_iff.1 hp).1
    rw [← h4] at e1 e2 e3
    rw [List.getElem?_take_of_lt (by omega)] at e1 e2 e3
    exact ⟨by rw [blk_cell hW', ← Array.getElem?_toList]; exact e1, by rw [blk_cell hW', ← Array.getElem?_toList]; exact e2, by rw [blk_cell hW', ← Array.getElem?_toList]; exact e3⟩
set_option maxHeartbeats 16000000 in
set_option maxRecDepth 100000 in
theorem bs_calls {w : World} {base : Nat} {v : Value} {l : L4} (h : w.ownsRow base 113 3 v l.length (l.flatMap encS)) (hs : Sorted l) (hwf : ∀ x ∈ l, Wf x) (hl : l.length ≤ 1000000) (t : S4) (ht : Wf t) :
    Calls Try.prog 69 #[v, sesV t, .func (.func 70) #[] #[]] w fun e w' => e = .returned (.tuple #[.int .i64 (idx t.at l), .bool (has l t.at)]) ∧ Below w.heap.size w w' := by
  obtain ⟨A, c, rfl, hc, hcl⟩ := row_cells h
  obtain ⟨W0, hW0⟩ : ∃ W, W = w.alloc (sesRow t) := ⟨_, rfl⟩
  have hB0 : Below w.heap.size w W0 := by rw [hW0]; exact below_alloc (Below.refl _ _) _
  have hr0 : W0.heap[w.heap.size]? = some (sesRow t) := by rw [hW0]; exact (Go.MapKept.heap_alloc w _).1
  have hbx := Bx.of hr0
  have hw0 := (Array.getElem?_eq_some_iff.1 hr0).1
  have HC := Lib.hid hcl; have HS := Lib.hid hs; have HWF := Lib.hid hwf; have HBX := Lib.hid hbx
  obtain ⟨r1, hr1⟩ : ∃ r : Nat, r = idx t.at l := ⟨_, rfl⟩
  obtain ⟨r2, hr2⟩ : ∃ r : Bool, r = has l t.at := ⟨_, rfl⟩
  rw [← hr1, ← hr2]
  have HR := Lib.hid (And.intro hr1 hr2)
  obtain ⟨n, hn⟩ : ∃ n, n = l.length := ⟨_, rfl⟩
  rw [← hn] at hc hl ⊢
  have HN := Lib.hid hn; have HW0 := Lib.hid hW0; have HB0 := Lib.hid hB0; have HT := Lib.hid ht
  unfold sesV
  clear hcl hs hn h hwf hW0 hB0 hr0 hbx hr1 hr2 ht
  go_enter Try.func69, Try.ntmps69
  go_upto_region 1 with fail
  rw [← HW0.out]
  go_wp2_with fail
  go_loopw [9, 10] (fun i j wr => ∃ (a b : Nat), a ≤ b ∧ b ≤ n ∧ i = .int .i64 a ∧ j = .int .i64 b ∧ (∀ k x, k < a → l[k]? = some x → ltS x.at t.at) ∧ (∀ k x, b ≤ k → l[k]? = some x → ¬ ltS x.at t.at) ∧ Below W0.heap.size W0 wr) (fun i j _ => (intOf j).toNat - (intOf i).toNat)
  case atStart => exact ⟨0, n, Nat.zero_le _, Nat.le_refl _, rfl, rfl, fun k p hk => by omega, fun k p hk hp => by
    have := (List.getElem?_eq_some_iff.1 hp).1
    rw [← HN.out] at this; omega, Below.refl _ _⟩
  case round =>
    obtain ⟨a, b, hab, hbn, rfl, rfl, hlo, hhi, hB⟩ := hrel
    have HLO := Lib.hid hlo; have HHI := Lib.hid hhi; have HB := Lib.hid hB
    obtain ⟨t0, t1, t2⟩ := HBX.out.below hB
    clear hlo hhi hB
    by_cases hlt : a < b
    · obtain ⟨m, hm⟩ : ∃ m : Nat, m = (a + b) / 2 := ⟨_, rfl⟩
      have m1 : ((a : Int) + (b : Int)) / 2 = (m : Int) := by omega
      have m2 : m < n := by omega
      have m3 : a ≤ m := by omega
      have m4 : m < b := by omega
      have m5 : (m : Int) < (n : Int) := by omega
      have m6 : ((m : Int)).toNat = m := by omega
      have m7 : (0 : Int) ≤ (m : Int) := by omega
      have hml : m < l.length := by rw [← HN.out]; exact m2
      obtain ⟨g, rfl, hcell⟩ := HC.out m l[m] (List.getElem?_eq_getElem hml)
      obtain ⟨p0, p1, p2⟩ := hcell wr (below_then HB0.out HB0.out.size HB.out)
      have HP := Lib.hid (show l[m]? = some l[m] from List.getElem?_eq_getElem hml)
      have hxw : Wf l[m] := HWF.out _ (List.getElem_mem hml)
      generalize l[m] = x at p0 p1 p2 HP hxw
      have hcl := fun V => order_calls x t hxw HT.out V
      unfold sesV at hcl
      have hcs := ordF_cases x.at t.at
      obtain ⟨y, hy⟩ : ∃ y, y = ordF x.at t.at := ⟨_, rfl⟩
      rw [← hy] at hcl hcs
      have HM := Lib.hid hm; have HCS := Lib.hid hcs
      clear hcell hm HC hxw hcs hy
      go_upto_region 5 with fail
      go_cut [11, 31] (fun u11 u31 wx => u11 = .int .i64 m ∧ u31 = .bool (decide (y < 0)) ∧ Below W0.heap.size W0 wx)
      case first =>
        go_region_held3 (fun V => V.cell? ⟨g, m * 3, none⟩ = some (.int .i64 x.key) ∧ V.cell? ⟨g, m * 3 + 1, none⟩ = some (.complex .f64 (wd x.fr) (wd x.to_)) ∧ V.cell? ⟨g, m * 3 + 2, none⟩ = some (.int .i64 x.val) ∧ V.cell? ⟨w.heap.size, 0, none⟩ = some (.int .i64 t.key) ∧ V.cell? ⟨w.heap.size, 1, none⟩ = some (.complex .f64 (wd t.fr) (wd t.to_)) ∧ V.cell? ⟨w.heap.size, 2, none⟩ = some (.int .i64 t.val)) (go_keep)
          (first
          | (go_at_call 70; (with_reducible refine (hcl _).mono ?_); rintro e w4 ⟨rfl, hB4⟩; have HB4 := Lib.hid hB4; have k0 := keepB hB4 p0; have k1 := keepB hB4 p1; have k2 := keepB hB4 p2; have k3 := keepB hB4 t0; have k4 := keepB hB4 t1; have k5 := keepB hB4 t2; clear hB4))
        all_goals
          go_wp2_with fail
          go_meet
          case rel => exact ⟨rfl, rfl, below_then (below_then HB.out HB.out.size (below_drew (Below.refl wr.heap.size wr))) HB.out.size HB4.out⟩
      case rest =>
        obtain ⟨rfl, rfl, hBx⟩ := hcut
        rename World => wx
        have HBx := Lib.hid hBx
        clear hBx p0 p1 p2 t0 t1 t2 hcl
        rcases HCS.out with ⟨c1, c2⟩ | ⟨c1, c2⟩ | ⟨c1, c2⟩
        · have HL := Lib.hid c1
          have hyn : y < 0 := by omega
          clear c1 c2
          go_wp2_with fail
          go_roundw
          case rel =>
            refine ⟨m + 1, b, by omega, hbn, by go_num, rfl, fun k p hk hp => ?_, HHI.out, HBx.out⟩
            have hkm : k < m ∨ k = m := by omega
            rcases hkm with hkm | rfl
            · exact ltS_trans (pair_at HS.out hkm hp HP.out) HL.out
            · rw [HP.out] at hp
              obtain rfl := Option.some.inj hp
              exact HL.out
          case measure => simp [intOf]; omega
        all_goals
          have hge : ¬ ltS x.at t.at := by
            first
            | (rw [c1]; exact ltS_irr _)
            | exact fun e => ltS_irr _ (ltS_trans c1 e)
          have HL := Lib.hid hge
          have hyn : ¬ y < 0 := by omega
          clear c1 c2 hge
          go_wp2_with fail
          go_roundw
          case rel =>
            refine ⟨a, m, by omega, by omega, rfl, rfl, HLO.out, fun k p hk hp => ?_, HBx.out⟩
            have hkm : m < k ∨ m = k := by omega
            rcases hkm with hkm | rfl
            · intro hlt'
              exact HL.out (ltS_trans (pair_at HS.out hkm HP.out hp) hlt')
            · rw [HP.out] at hp
              obtain rfl := Option.some.inj hp
              exact HL.out
          case measure => simp [intOf]; omega
    · obtain rfl : a = b := by omega
      have hid : idx t.at l = a := idx_uniq (by rw [← HN.out]; exact hbn) HLO.out fun p hp => HHI.out a p (Nat.le_refl _) hp
      have hlk := has_idx (p := t.at) HS.out
      rw [hid] at hlk
      obtain rfl : r1 = a := HR.out.1.trans hid
      have hr2 := HR.out.2
      have hBw := below_then HB0.out HB0.out.size HB.out
      by_cases hlt2 : r1 < n
      · have hal : r1 < l.length := by rw [← HN.out]; exact hlt2
        obtain ⟨g, rfl, hcell⟩ := HC.out r1 l[r1] (List.getElem?_eq_getElem hal)
        obtain ⟨p0, p1, p2⟩ := hcell wr hBw
        rw [List.getElem?_eq_getElem hal, Option.any_some] at hlk
        have hxw : Wf l[r1] := HWF.out _ (List.getElem_mem hal)
        generalize l[r1] = x at p0 p1 p2 hlk hxw
        have hcl := fun V => order_calls x t hxw HT.out V
        unfold sesV at hcl
        have hlti : (r1 : Int) < (n : Int) := by omega
        have hi0 : (0 : Int) ≤ (r1 : Int) := by omega
        have hcs := ordF_cases x.at t.at
        obtain ⟨y, hy⟩ : ∃ y, y = ordF x.at t.at := ⟨_, rfl⟩
        rw [← hy] at hcl hcs
        have hyb : (y == 0) = r2 := by
          rw [hr2, hlk]
          rcases hcs with ⟨c1, c2⟩ | ⟨c1, c2⟩ | ⟨c1, c2⟩
          · rw [c2, decide_eq_false (fun e => ltS_irr _ (e ▸ c1))]; rfl
          · rw [c2, decide_eq_true c1]; rfl
          · rw [c2, decide_eq_false (fun e => ltS_irr _ (e ▸ c1))]; rfl
        have HBw := Lib.hid hBw
        clear hcell HC hlk hid hcs hy hxw hr2 hBw
        go_upto_region 8 with fail
        go_region_held3 (fun V => V.cell? ⟨g, r1 * 3, none⟩ = some (.int .i64 x.key) ∧ V.cell? ⟨g, r1 * 3 + 1, none⟩ = some (.complex .f64 (wd x.fr) (wd x.to_)) ∧ V.cell? ⟨g, r1 * 3 + 2, none⟩ = some (.int .i64 x.val) ∧ V.cell? ⟨w.heap.size, 0, none⟩ = some (.int .i64 t.key) ∧ V.cell? ⟨w.heap.size, 1, none⟩ = some (.complex .f64 (wd t.fr) (wd t.to_)) ∧ V.cell? ⟨w.heap.size, 2, none⟩ = some (.int .i64 t.val)) (go_keep)
          (first
          | (go_at_call 70; (with_reducible refine (hcl _).mono ?_); rintro e w4 ⟨rfl, hB4⟩; have HB4 := Lib.hid hB4; have k0 := keepB hB4 p0; have k1 := keepB hB4 p1; have k2 := keepB hB4 p2; have k3 := keepB hB4 t0; have k4 := keepB hB4 t1; have k5 := keepB hB4 t2; clear hB4))
        all_goals
          go_wp2_with fail
          go_ret2
          exact ⟨rfl, below_then (below_then HBw.out HBw.out.size (below_drew (Below.refl wr.heap.size wr))) HBw.out.size HB4.out⟩
      · obtain rfl : r1 = n := by omega
        rw [List.getElem?_eq_none (by rw [← HN.out]; exact Nat.le_refl _), Option.any_none] at hlk
        rw [hlk] at hr2
        subst hr2
        have HBw := Lib.hid hBw
        clear HC hlk hid hBw
        go_upto_region 8 with fail
        go_quiet (fail)
        go_wp2_with fail
        go_ret2
        exact ⟨rfl, pw_below_drewN HBw.out _⟩
end Go.Proofs.Ytanhibhcmfmeeaa.Se
/- A store of sessions in memory: New, insert. -/
namespace Go.Proofs.Ytanhibhcmfmeeaa.Se
open Go.RowKit Go.Proofs.YtanhibhcmfmeeaaW.PrintWords Go.Proofs.YtanhibhcmfmeeaaW.PrintMore Go.Proofs.Ytanhibhcmfmeeaa.Cut Go.Proofs.Ytanhibhcmfmeeaa.Fr Go.Proofs.Ytanhibhcmfmeeaa.SlK Go.Proofs.Ytanhibhcmfmeeaa.Flo
/-- A store lies at block s; its row is v. -/
structure Own (w : World) (B s : Nat) (room gap : Int) (l : L4) (v : Value) : Prop where
  row : w.heap[s]? = some (.cells #[.int .i64 room, .int .i64 gap, v] 115 (0, 0))
  ses : w.ownsRow B 113 3 v l.length (l.flatMap encS)
  sorted : Sorted l
  wf : ∀ x ∈ l, Wf x
  rng : 1 ≤ room ∧ room ≤ 1024 ∧ 1 ≤ gap ∧ gap ≤ 1048576
  fits : l.length ≤ 1024
  base : B ≤ s
/-- Its blocks. -/
def F (s : Nat) (v : Value) (k : Nat) : Prop := k = s ∨ some k = v.ownBlock
theorem Own.cells {w : World} {B s : Nat} {room gap : Int} {l : L4} {v : Value} (h : Own w B s room gap l v) : w.cell? ⟨s, 0, none⟩ = some (.int .i64 room) ∧ w.cell? ⟨s, 1, none⟩ = some (.int .i64 gap) ∧ w.cell? ⟨s, 2, none⟩ = some v := ⟨(blk_cell h.row 0).trans rfl, (blk_cell h.row 1).trans rfl, (blk_cell h.row 2).trans rfl⟩
theorem Own.lt {w : World} {B s : Nat} {room gap : Int} {l : L4} {v : Value} (h : Own w B s room gap l v) (k : Nat) (hk : F s v k) : B ≤ k ∧ k < w.heap.size := by
  rcases hk with rfl | hk
  · exact ⟨h.base, (Array.getElem?_eq_some_iff.1 h.row).1⟩
  · exact ⟨own_base h.ses k hk.symm, own_lt h.ses k hk.symm⟩
theorem Own.ne {w : World} {B s : Nat} {room gap : Int} {l : L4} {v : Value} (h : Own w B s room gap l v) : some s ≠ v.ownBlock := by
  intro e
  obtain ⟨cells, hc⟩ := own_typed h.ses s e.symm
  rw [h.row] at hc
  injection hc with hc
  injection hc with _ hc
  exact absurd hc (by decide)
theorem Own.kept {w w' : World} {B s : Nat} {room gap : Int} {l : L4} {v : Value} (h : Own w B s room gap l v) (hk : ∀ k, F s v k → w'.heap[k]? = w.heap[k]?) : Own w' B s room gap l v :=
  ⟨(hk s (.inl rfl)).trans h.row, own_move h.ses fun k e => hk k (.inr e.symm), h.sorted, h.wf, h.rng, h.fits, h.base⟩
theorem Own.mv {w w' : World} {B s : Nat} {room gap : Int} {l : L4} {v : Value} (h : Own w B s room gap l v) {G G' : Nat → Prop} (hm : Mv w w' G G') (hd : ∀ k, F s v k → ¬ G k) : Own w' B s room gap l v := h.kept fun k hk => hm.keep k (h.lt k hk).2 (hd k hk)
theorem Own.below {w w' : World} {B s : Nat} {room gap : Int} {l : L4} {v : Value} (h : Own w B s room gap l v) (hb : Below w.heap.size w w') : Own w' B s room gap l v := h.kept fun k hk => hb.block k (h.lt k hk).2
set_option maxHeartbeats 1000000 in
theorem new_calls (room gap : Int) (hr : 1 ≤ room ∧ room ≤ 1024 ∧ 1 ≤ gap ∧ gap ≤ 1048576) (B : Nat) (w : World) (hB : B ≤ w.heap.size) :
    Calls Try.prog 33 #[.int .i64 room, .int .i64 gap] w fun e w' => e = .returned (.tuple #[.pointer (some ⟨w.heap.size, 0, none⟩), .int .i64 0]) ∧ Own w' B w.heap.size room gap [] (.slice none 0 0) ∧ Below w.heap.size w w' := by
  obtain ⟨r1, r2, r3, r4⟩ := hr
  have n1 : ¬ room < 1 := by omega
  have n2 : ¬ 1024 < room := by omega
  have n3 : ¬ gap < 1 := by omega
  have n4 : ¬ 1048576 < gap := by omega
  have HB := Lib.hid hB
  clear hB
  go_enter Try.func33, Try.ntmps33
  go_wp2
  go_ret2
  exact ⟨rfl, ⟨(Go.MapKept.heap_alloc w _).1, own_nil _ _ _ _, List.Pairwise.nil, by simp, ⟨r1, r2, r3, r4⟩, by simp, HB.out⟩, below_alloc (Below.refl _ _) _⟩
def InsQ (w : World) (B s : Nat) (room gap : Int) (l : L4) (v : Value) (x : S4) (e : Ending) (w' : World) : Prop :=
  ∃ v', e = .returned (.tuple #[]) ∧ Own w' B s room gap (insS x l) v' ∧ Mv w w' (F s v) (F s v')
theorem mv_set {w W : World} {F F' : Nat → Prop} (h : Mv w W F F') {p : Addr} (hp : F p.block ∨ w.heap.size ≤ p.block) (u : Value) : Mv w (W.setCell p u) F F' := Kv.mv_set h hp u
theorem ins_list (x : S4) (l : L4) : (l.flatMap encS).take (idx x.at l * 3) ++ encS x ++ (l.flatMap encS).drop (idx x.at l * 3) = (insS x l).flatMap encS := by
  unfold insS
  rw [encS_take, encS_drop, List.flatMap_append, List.flatMap_cons, List.append_assoc]
/-- What insert leaves. -/
theorem ins_fin {w V w4 : World} {B s : Nat} {room gap : Int} {l : L4} {A A' : Option Addr} {c c' : Nat} {x : S4} (h : Own w B s room gap l (.slice A l.length c)) (hx : Wf x) (hn : has l x.at = false) (hf : l.length < 1024)
    (hbw : Below w.heap.size w V) (hown : w4.ownsRow B 113 3 (.slice A' (l.length + 1) c') (l.length + 1) ((l.flatMap encS).take (idx x.at l * 3) ++ encS x ++ (l.flatMap encS).drop (idx x.at l * 3)))
    (hg : V.grownBy w4 (Value.slice A l.length c).ownBlock) (hat : (Value.slice A' (l.length + 1) c').ownBlock = (Value.slice A l.length c).ownBlock ∨ ∃ b, (Value.slice A' (l.length + 1) c').ownBlock = some b ∧ V.heap.size ≤ b)
    (hrow : w4.heap[s]? = some (.cells #[.int .i64 room, .int .i64 gap, .slice A l.length c] 115 (0, 0))) :
    Own (w4.setCell ⟨s, 2, none⟩ (.slice A' (l.length + 1) c')) B s room gap (insS x l) (.slice A' (l.length + 1) c') ∧ Mv w (w4.setCell ⟨s, 2, none⟩ (.slice A' (l.length + 1) c')) (F s (.slice A l.length c)) (F s (.slice A' (l.length + 1) c')) := by
  rw [ins_list] at hown
  have hlen := len_ins x l
  constructor
  · refine ⟨blk_put hrow 2 _ rfl, ?_, sorted_ins h.sorted hn, fun y hy => ?_, h.rng, by omega, h.base⟩
    · rw [hlen]
      refine own_move hown fun k hk => Below.heap_setCell _ ⟨s, 2, none⟩ _ k fun e => ?_
      rw [show k = s from e] at hk
      obtain ⟨cells, hc⟩ := own_typed hown s hk
      rw [hrow] at hc
      injection hc with hc
      injection hc with _ hc
      exact absurd hc (by decide)
    · rcases (mem_ins x y l).1 hy with rfl | hy
      · exact hx
      · exact h.wf y hy
  · have hM : Mv w w4 (F s (.slice A l.length c)) (F s (.slice A' (l.length + 1) c')) := by
      refine (Mv.of_below (F s (.slice A l.length c)) hbw).trans (Mv.of_grown hg (fun k e => .inr e.symm) fun k hk => ?_)
      rcases hk with hk | hk
      · exact .inl (.inl hk)
      · rcases hat with hat | ⟨b, hb, hb2⟩
        · exact .inl (.inr (hat ▸ hk))
        · rw [hb] at hk
          injection hk with hk
          exact .inr (hk ▸ hb2)
    exact mv_set hM (.inl (.inl rfl)) _
set_option maxHeartbeats 16000000 in
set_option maxRecDepth 100000 in
theorem insert_calls {w : World} {B s : Nat} {room gap : Int} {l : L4} {v : Value} (h : Own w B s room gap l v) (x : S4) (hx : Wf x) (hn : has l x.at = false) (hf : l.length < 1024) :
    Calls Try.prog 59 #[.pointer (some ⟨s, 0, none⟩), sesV x] w (InsQ w B s room gap l v x) := by
  obtain ⟨W, hW⟩ : ∃ W, W = w.alloc (sesRow x) := ⟨_, rfl⟩
  have hB : Below w.heap.size w W := by rw [hW]; exact below_alloc (Below.refl _ _) _
  have hr : W.heap[w.heap.size]? = some (sesRow x) := by rw [hW]; exact (Go.MapKept.heap_alloc w _).1
  obtain ⟨x0, x1, x2⟩ := Bx.of hr
  have hO := h.below hB
  obtain ⟨c0, c1, c2⟩ := hO.cells
  have hbs := bs_calls (w := W.drew) (base := B) (v := v) (l := l) (hO.below (below_drew (Below.refl _ _))).ses h.sorted h.wf (by omega) x hx
  unfold sesV at hbs ⊢
  have hle := idx_le x.at l
  have HW := Lib.hid hW; have HB := Lib.hid hB; have HO := Lib.hid hO; have HR := Lib.hid hr; have H0 := Lib.hid (And.intro h (And.intro hx hn))
  obtain ⟨A, c, rfl, _, _⟩ := row_cells h.ses
  obtain ⟨i, hi⟩ : ∃ i, i = idx x.at l := ⟨_, rfl⟩
  rw [← hi] at hbs hle
  have HI := Lib.hid hi
  generalize has l x.at = o at hbs
  clear h hW hB hO hr hi hn c0 c1
  go_enter Try.func59, Try.ntmps59
  go_upto_region 1 with fail
  rw [← HW.out]
  go_cut [4] (fun u wx => u = .int .i64 i ∧ Below W.heap.size W wx)
  case first =>
    go_region_held3 (fun V => V.cell? ⟨s, 2, none⟩ = some (.slice A l.length c) ∧ V.cell? ⟨w.heap.size, 0, none⟩ = some (.int .i64 x.key) ∧ V.cell? ⟨w.heap.size, 1, none⟩ = some (.complex .f64 (wd x.fr) (wd x.to_)) ∧ V.cell? ⟨w.heap.size, 2, none⟩ = some (.int .i64 x.val)) (go_keep)
      (first
      | (go_at_call 69; (with_reducible refine hbs.mono ?_); rintro e w4 ⟨rfl, hB4⟩; have HB4 := Lib.hid hB4; have k0 := keepB hB4 c2; have k1 := keepB hB4 x0; have k2 := keepB hB4 x1; have k3 := keepB hB4 x2; clear hB4))
    all_goals
      go_wp2_with fail
      go_meet
      case rel => exact ⟨rfl, below_then (below_drew (Below.refl W.heap.size W)) (Nat.le_refl _) HB4.out⟩
  case rest =>
    obtain ⟨rfl, hBx⟩ := hcut
    rename World => wx
    have hOx := HO.out.below hBx
    obtain ⟨_, _, d2⟩ := hOx.cells
    obtain ⟨y0, y1, y2⟩ := (Bx.of HR.out).below hBx
    have hq := (hBx.block _ (Array.getElem?_eq_some_iff.1 HR.out).1).trans HR.out
    obtain ⟨V, hV⟩ : ∃ V, V = (wx.alloc (sesRow x)).drew := ⟨_, rfl⟩
    have hbV : Below wx.heap.size wx V := by rw [hV]; exact below_drew (below_alloc (Below.refl _ _) _)
    have hOV := hOx.below hbV
    have hvV : V.heap[wx.heap.size]? = some (sesRow x) := by rw [hV]; exact (Go.MapKept.heap_alloc wx _).1
    have hnV : some wx.heap.size ≠ (Value.slice A l.length c).ownBlock := fun e => by have := (hOx.lt wx.heap.size (.inr e)).2; omega
    have hins := ins_calls V B (.slice A l.length c) l.length i (l.flatMap encS) (encS x) wx.heap.size hOV.ses (by have := hOV.lt s (.inl rfl); omega) hle (by omega) (encS_one l) hvV rfl (by have := encS_one [x]; simpa using this) hnV
    unfold InsP at hins
    have hqV := (hbV.block _ (Array.getElem?_eq_some_iff.1 hq).1).trans hq
    have hsV := (hOV.lt s (.inl rfl)).2
    have e0 : V.cell? ⟨s, 2, none⟩ = some (.slice A l.length c) := hOV.cells.2.2
    subst hV
    unfold sesRow at hins
    have HOV := Lib.hid hOV; have HqV := Lib.hid hqV; have HbV := Lib.hid hbV; have HBx := Lib.hid hBx
    clear hOx hbV hOV hvV hnV hqV hq hBx hbs c2 x0 x1 x2
    go_upto_region 2 with fail
    go_region_with (first
      | (go_at_call 71; (with_reducible refine hins.mono ?_); rintro e w4 ⟨v', rfl, hown, hg, hat⟩; obtain ⟨A', c', rfl⟩ := own_slice hown; have hrow4 := (hg.block s hsV HOV.out.ne).trans HOV.out.row; have k2 : w4.cell? ⟨s, 2, none⟩ = some (.slice A l.length c) := (blk_cell hrow4 2).trans rfl; have f2 := blk_frozen hrow4 2; have HW4 := Lib.hid (And.intro hown (And.intro hg hat)); have HR4 := Lib.hid hrow4; clear hown hg hat hrow4))
    all_goals
      go_wp2_with fail
      go_end0
      have hbw := below_then (below_then HB.out HB.out.size HBx.out) (below_then HB.out HB.out.size HBx.out).size HbV.out
      have hown := HW4.out.1
      rw [HI.out] at hown
      obtain ⟨q1, q2⟩ := ins_fin H0.out.1 H0.out.2.1 H0.out.2.2 hf hbw hown HW4.out.2.1 HW4.out.2.2 HR4.out
      exact ⟨_, rfl, q1, q2⟩
end Go.Proofs.Ytanhibhcmfmeeaa.Se
/- Find, List. -/
namespace Go.Proofs.Ytanhibhcmfmeeaa.Se
open Go.RowKit Go.Proofs.YtanhibhcmfmeeaaW.PrintWords Go.Proofs.YtanhibhcmfmeeaaW.PrintMore Go.Proofs.Ytanhibhcmfmeeaa.Cut Go.Proofs.Ytanhibhcmfmeeaa.Fr Go.Proofs.Ytanhibhcmfmeeaa.SlK Go.Proofs.Ytanhibhcmfmeeaa.Flo
theorem run_store_complex {P : Program} {w : World} {a : Addr} (k : FloatKind) (re im : Nat) (m : Mode) : (store a (.complex k re im) m).run P w = stored P w a (.complex k re im) m := run_store P w a _ m rfl
attribute [local go_sem] run_store_complex
def encC (x : T5) : List Value := [.int .i64 x.1, .int .i64 x.2.1, .int .i64 x.2.2.1, .int .i64 x.2.2.2.1, .bool x.2.2.2.2]
abbrev K5 : Kd T5 := Kd.pair (Kd.int .i64) (Kd.pair (Kd.int .i64) (Kd.pair (Kd.int .i64) (Kd.pair (Kd.int .i64) Kd.bool)))
theorem K5_M (w : World) (base : Nat) (ok : Nat → Prop) (x : T5) : K5.M w base ok x (encC x) := ⟨[.int .i64 x.1], _, rfl, rfl, ⟨[.int .i64 x.2.1], _, rfl, rfl, ⟨[.int .i64 x.2.2.1], _, rfl, rfl, ⟨[.int .i64 x.2.2.2.1], _, rfl, rfl, rfl⟩⟩⟩⟩
abbrev Row5 (w : World) (base : Nat) (v : Value) (l : List T5) : Prop := K5.R 50 w base (fun _ => True) v l
set_option maxRecDepth 100000 in
theorem infoC : (Try.prog.info? 50).map (fun i => (i.zero, i.size, i.bytes)) = some (some (.agg #[.int .i64 0, .int .i64 0, .int .i64 0, .int .i64 0, .bool false]), 5, 40) := by kernel_rfl
theorem take_snoc {l : L4} {k : Nat} {x : S4} (h : l[k]? = some x) : l.take (k + 1) = l.take k ++ [x] := by
  obtain ⟨hl, rfl⟩ := List.getElem?_eq_some_iff.1 h
  exact List.take_succ_eq_append_getElem hl
theorem hits_yes {gap key time : Int} {l : L4} {x : S4} (h : touchB gap key time x = true) : hits gap key time (l ++ [x]) = hits gap key time l ++ [x] := by
  unfold hits
  rw [List.filter_append, List.filter_cons_of_pos h, List.filter_nil]
theorem hits_no {gap key time : Int} {l : L4} {x : S4} (h : touchB gap key time x = false) : hits gap key time (l ++ [x]) = hits gap key time l := by
  unfold hits
  rw [List.filter_append, List.filter_cons_of_neg (by rw [h]; decide), List.filter_nil, List.append_nil]
theorem hits_len (gap key time : Int) (l : L4) : (hits gap key time l).length ≤ l.length := List.length_filter_le _ _
def FindP (w : World) (gap key time : Int) (l : L4) (e : Ending) (w' : World) : Prop := ∃ u, e = .returned u ∧ Row5 w' w.heap.size u ((hits gap key time l).map chgT) ∧ Below w.heap.size w w'
set_option maxRecDepth 100000 in
set_option maxHeartbeats 8000000 in
theorem find_calls {w : World} {B s : Nat} {room gap : Int} {l : L4} {v : Value} (h : Own w B s room gap l v) (key time : Int) (ht : mayT time = true) :
    Calls Try.prog 37 #[.pointer (some ⟨s, 0, none⟩), .int .i64 key, .int .i64 time] w (FindP w gap key time l) := by
  have hm := may_calls time w
  rw [ht] at hm
  obtain ⟨c0, c1, c2⟩ := h.cells
  have hrg := h.rng
  have hfit := h.fits
  obtain ⟨A, c, rfl, hc, hcl⟩ := row_cells h.ses
  obtain ⟨n, hn⟩ : ∃ n, n = l.length := ⟨_, rfl⟩
  rw [← hn] at hc hfit c2
  have HN := Lib.hid hn; have HC := Lib.hid hcl; have HWF := Lib.hid h.wf; have HR := Lib.hid hrg; have C1 := Lib.hid c1
  clear h hn hcl hrg c0 c1
  go_enter Try.func37, Try.ntmps37
  go_wp2_with ((with_reducible refine hm.mono ?_); rintro e w1 ⟨rfl, rfl⟩)
  rename World => w
  clear hm c2
  go_loopw [7, 22] (fun u7 u22 wx => ∃ k : Nat, k ≤ n ∧ u22 = .int .i64 k ∧ Row5 wx w.heap.size u7 ((hits gap key time (l.take k)).map chgT) ∧ Below w.heap.size w wx) (fun _ u22 _ => n - (intOf u22).toNat)
  case atStart => exact ⟨0, Nat.zero_le _, rfl, Kd.R_nil _ _ _ _ _, Below.refl _ _⟩
  case round =>
    obtain ⟨k, hk, rfl, hR, hB⟩ := hrel
    by_cases hlt : k < n
    · have hlti : (k : Int) < (n : Int) := by omega
      have hk0 : (0 : Int) ≤ (k : Int) := by omega
      have hkl : k < l.length := by rw [← HN.out]; exact hlt
      have hx := List.getElem?_eq_getElem hkl
      have hxw := HWF.out _ (List.getElem_mem hkl)
      obtain ⟨g, rfl, hcell⟩ := HC.out k _ hx
      obtain ⟨p0, p1, p2⟩ := hcell wr hB
      have hts := take_snoc hx
      generalize l[k] = x at hx hxw p0 p1 p2 hts
      obtain ⟨W1, hW1⟩ : ∃ W, W = wr.alloc (sesRow x) := ⟨_, rfl⟩
      have hb1 : Below wr.heap.size wr W1 := by rw [hW1]; exact below_alloc (Below.refl _ _) _
      have hr1 : W1.heap[wr.heap.size]? = some (sesRow x) := by rw [hW1]; exact (Go.MapKept.heap_alloc wr _).1
      have HX := Lib.hid (Bx.of hr1)
      obtain ⟨x0, x1, x2⟩ := HX.out
      have htc := touches_calls (w := W1) (s := s) (keepB hb1 (keepB hB C1.out)) ⟨HR.out.2.2.1, HR.out.2.2.2⟩ x hxw key time
      unfold sesV at htc
      have HT := Lib.hid hts; have HW1 := Lib.hid hW1; have HA := Lib.hid (And.intro hR (And.intro hB hb1))
      have HXW := Lib.hid hxw
      clear hcell hx hR hB hW1 hb1 hr1 hts hxw HC
      cases hto : touchB gap key time x with
      | false =>
        rw [hto] at htc
        have HH := Lib.hid (hits_no (l := l.take k) hto)
        go_upto_region 7 with fail
        rw [← HW1.out]
        go_wp2_with fail
        refine htc.mono ?_
        rintro e w4 ⟨rfl, hB4⟩
        have HB4 := Lib.hid hB4
        clear htc hB4 x0 x1 x2 p0 p1 p2
        go_wp2_with fail
        go_roundw
        case rel => exact ⟨k + 1, by omega, by go_num, by rw [HT.out, HH.out]; exact Kd.R_below (Kd.R_below HA.out.1 HA.out.2.2) HB4.out, below_then (below_then HA.out.2.1 HA.out.2.1.size HA.out.2.2) (below_then HA.out.2.1 HA.out.2.1.size HA.out.2.2).size HB4.out⟩
        case measure => simp [intOf]; omega
      | true =>
        rw [hto] at htc
        have HH := Lib.hid (hits_yes (l := l.take k) hto)
        go_upto_region 7 with fail
        rw [← HW1.out]
        go_wp2_with fail
        refine htc.mono ?_
        rintro e w4 ⟨rfl, hB4⟩
        have hx4 := HX.out.below hB4
        obtain ⟨y0, y1, y2⟩ := hx4
        have hch := change_calls x HXW.out w4
        unfold sesV chgV at hch
        have hB5 := below_then (below_then HA.out.2.1 HA.out.2.1.size HA.out.2.2) (below_then HA.out.2.1 HA.out.2.1.size HA.out.2.2).size hB4
        have HA5 := Lib.hid (And.intro (Kd.R_below (Kd.R_below HA.out.1 HA.out.2.2) hB4) hB5)
        clear htc hB4 x0 x1 x2 p0 p1 p2 hB5 HA HX HW1
        go_wp2_with fail
        refine hch.mono ?_
        rintro e w5 ⟨rfl, hB5⟩
        have HR5 := Lib.hid (Kd.R_below HA5.out.1 hB5)
        have HB5 := Lib.hid (below_then HA5.out.2 HA5.out.2.size hB5)
        have hl40 : (((hits gap key time (l.take k)).map chgT).length + 1) * 40 ≤ 140737488355328 := by
          have h1 := hits_len gap key time (l.take k)
          have h2 := List.length_take_le k l
          rw [List.length_map]
          omega
        clear hch hB5 HA5 y0 y1 y2
        go_wp2_with (first
          | ((with_reducible refine gate_builtin (b := .append) (xs := #[.tmp 31, .tmp 34]) rfl ?_); at_builtin; refine Kd.R_append K5 (w0 := w) w.heap.size rfl (.tmp 31) (.tmp 34) 37 50 (.agg #[.int .i64 0, .int .i64 0, .int .i64 0, .int .i64 0, .bool false]) 40 rfl Try.underlying37 infoC rfl (by decide) (by decide) u7 ((hits gap key time (l.take k)).map chgT) (chgT x) (encC (chgT x)) (fun _ => True) (fun _ => False) rfl rfl (K5_M _ _ _ _) (fun _ hk => hk.elim) (fun _ _ => trivial) HR5.out HB5.out HB5.out.size hl40 ?_; intro v1 w6 hR6 hb6 hg6 hat6)
          | go_in)
        have hR7 : Row5 w6 w.heap.size v1 ((hits gap key time (l.take (k + 1))).map chgT) := by
          rw [HT.out, HH.out, List.map_append]; exact hR6
        have HF := Lib.hid (And.intro hR7 hb6)
        clear hR6 hb6 hg6 hat6 hR7 HR5 HB5
        go_wp2_with fail
        go_roundw
        case rel => exact ⟨k + 1, by omega, by go_num, HF.out.1, HF.out.2⟩
        case measure => simp [intOf]; omega
    · obtain rfl : k = n := by omega
      rw [HN.out, List.take_length] at hR
      have HF := Lib.hid (And.intro hR hB)
      clear hR hB
      go_wp2_with fail
      go_ret
      exact ⟨u7, rfl, HF.out.1, HF.out.2⟩
end Go.Proofs.Ytanhibhcmfmeeaa.Se

import Derived.Test.YtdfpcldoakbehaaProg
import Derived.Test.YtdfpcldoakbehaaWZeros
import Derived.Test.YtdfpcldoakbehaaWMore
import Derived.Test.YtdfpcldoakbehaaCut
import Derived.Lib.Hide
import Derived.BigQuiet
import Derived.Deep.QuietTactic
import Derived.Deep.DeepCutAuto
import Derived.Deep.RegionHeld3
import Derived.Laws.BitsAllLaws
import Derived.WalkMore
import Derived.ScopeJumps
import Derived.Outline
/- The walks of pack's reader. -/
namespace Go.Proofs.Ytdfpcldoakbehaa.Pack
open Go.RowKit Go.Proofs.YtdfpcldoakbehaaW.PrintWords Go.Proofs.Ytdfpcldoakbehaa.Cut
/-- The reader at g: what is left of its bytes. -/
structure Rdr (w : World) (g : Nat) (A : Option Addr) (c : Nat) (l : List Int) : Prop where
  blk : w.heap[g]? = some (.cells #[.slice A l.length c] 89 (0, 0))
  cap : l.length ≤ c
  rd : (Kd.int .u8).C w A l.length l
theorem blk_add (a : Addr) (i : Nat) : (a.add i).block = a.block := by unfold Addr.add; split <;> rfl
theorem C_block {k : IntKind} {w w' : World} {A : Option Addr} {xs : List Int} (h : (Kd.int k).C w A xs.length xs) (hb : ∀ a, A = some a → 0 < xs.length → w'.heap[a.block]? = w.heap[a.block]?) : (Kd.int k).C w' A xs.length xs := by
  obtain ⟨h1, h2, h3⟩ := h
  refine ⟨h1, h2, fun h0 => ?_⟩
  obtain ⟨a, ha, hc⟩ := h3 h0
  refine ⟨a, ha, fun j p hj => ?_⟩
  obtain ⟨cs, hk, hcs, hat⟩ := hc j p hj
  refine ⟨cs, hk, hcs, fun i u hu => ?_⟩
  rw [← hat i u hu]
  exact World.cell?_of_block (w := w) (by rw [blk_add]; exact hb a ha h0)
theorem at_byte {k : IntKind} {w : World} {A : Option Addr} {n : Nat} {l : List Int} (h : (Kd.int k).C w A n l) (i : Nat) (hi : i < n) : ∃ ad x, A = some ad ∧ l[i]? = some x ∧ x ∈ l ∧ w.cell? (ad.add i) = some (.int k x) := by
  obtain ⟨hl, _, h⟩ := h
  obtain ⟨ad, hA, hc⟩ := h (by omega)
  have hil : i < l.length := by omega
  obtain ⟨cs, _, hcs, hat⟩ := hc i (l[i]) (List.getElem?_eq_getElem hil)
  obtain rfl : cs = [.int k (l[i])] := hcs
  refine ⟨ad, l[i], hA, List.getElem?_eq_getElem hil, List.getElem_mem hil, ?_⟩
  have := hat 0 _ rfl
  have e1 : (Kd.int k).sz = 1 := rfl
  rwa [e1, Nat.mul_one, Nat.add_zero] at this
theorem Rdr.far {w : World} {g : Nat} {A : Option Addr} {c : Nat} {l : List Int} (h : Rdr w g A c l) {a : Addr} {xs : List Int} (hC : (Kd.int .u8).C w (some a) xs.length xs) (h0 : 0 < xs.length) : a.block ≠ g := by
  intro e
  obtain ⟨ad, x, hA, _, _, hc⟩ := at_byte hC 0 h0
  injection hA with hA; subst hA
  have hb := h.blk
  rw [← e] at hb
  have e0 : a.add 0 = a := by unfold Addr.add; simp
  rw [e0] at hc
  cases a with
  | mk b o s =>
    cases s with
    | none =>
      rw [blk_cell hb] at hc
      match o, hc with
      | 0, hc => simp at hc
      | o + 1, hc => simp at hc
    | some s =>
      simp [World.cell?, hb] at hc
theorem left_calls {w : World} {g : Nat} {A : Option Addr} {c : Nat} {l : List Int} (h : Rdr w g A c l) :
    Calls Try.prog 34 #[.pointer (some ⟨g, 0, none⟩)] w fun e w' => e = .returned (.int .i64 l.length) ∧ w = w' := by
  have c0 : w.cell? ⟨g, 0, none⟩ = some (.slice A l.length c) := blk_cell h.blk 0
  clear h
  go_enter Try.func34, Try.ntmps34
  go_wp2
  go_ret
  exact ⟨rfl, rfl⟩
/-- A number, read from place i on; x: what was read of it. What it is, the error, how many bytes it took. -/
def uintGo : Nat → List Int → Nat → Int → Int × Int × Nat
  | 0, l, i, _ => if i = l.length then (0, 5, 0) else (0, 5, 0)
  | k + 1, l, i, x =>
    if i = l.length then (0, 4, 0)
    else if i = 9 ∧ 1 < l.getD i 0 % 128 then (0, 5, 0)
    else if 128 ≤ l.getD i 0 then uintGo k l (i + 1) (x + l.getD i 0 % 128 * 2 ^ (7 * i))
    else if l.getD i 0 = 0 ∧ 0 < i then (0, 5, 0)
    else (x + l.getD i 0 % 128 * 2 ^ (7 * i), 0, i + 1)
def uintR (l : List Int) : Int × Int × Nat := uintGo 10 l 0 0
/-- A scope with one label, to which the run jumps back: the rest behind the label is walked once. -/
theorem scope_once {P : Program} {Q : Exit → Act → World → Prop} {a : Act} {w : World} {c rest : Code} (l : Nat) (J : Act → World → Prop) (μ : Act → World → Nat) (hf : findLabel c l = some (.seq .skip rest))
    (pass : ∀ a w, J a w → rest.wp P (Exit.jump l (fun a' w' => J a' w' ∧ μ a' w' < μ a w) Q) a w)
    (first : (∀ a w, J a w → rest.wp P (Exit.jump l J Q) a w) → c.wp P (Exit.jump l J Q) a w) : (Code.scope c).wp P Q a w := by
  refine wp_scope_jumps l J μ hf (first fun a w h => wp_mono (pass a w h) ?_) (fun a w h => wp_seq (wp_skip (pass a w h)))
  intro e a1 w1 hq
  cases e
  case goto l' => exact ⟨hq.1, hq.2.1⟩
  all_goals exact hq
/-- The frame at the label. -/
def UJ (g : Nat) (l : List Int) (w : World) (a' : Act) (w' : World) : Prop := ∃ (i : Nat) (x : Int), i ≤ 10 ∧ i ≤ l.length ∧ 0 ≤ x ∧ x < 2 ^ (7 * i) ∧ uintGo (10 - i) l i x = uintR l ∧ w' = w ∧ ∃ u6 u7 u8 u9 u10 u11 u12 u13 u14 u15 u16 u17 u18 u19 u20 u21 u22 u23 u24 u25 u26 u27 u28 u29 u30 u31 u32 u33 u34 u35 u36 u37 u38 u39 u40 u41 u42 u43 u44 u45 u46 u47 u48 u49 u50 u51 u52 u53 u54 u55 u56 u57 u58 u59 : Value, a' = { tmps := #[.pointer (some ⟨g, 0, none⟩), undef, .int .u64 0, .int .i64 0, .int .u64 x, .int .i64 i, u6, u7, u8, u9, u10, u11, u12, u13, u14, u15, u16, u17, u18, u19, u20, u21, u22, u23, u24, u25, u26, u27, u28, u29, u30, u31, u32, u33, u34, u35, u36, u37, u38, u39, u40, u41, u42, u43, u44, u45, u46, u47, u48, u49, u50, u51, u52, u53, u54, u55, u56, u57, u58, u59], defers := [] }
def Umu (a' : Act) (_ : World) : Nat := 10 - (intOf (a'.tmps.getD 5 undef)).toNat
theorem andNot128 (c : Int) (h0 : 0 ≤ c) (h1 : c ≤ 255) : ((c.toNat &&& (255 - (128 : Int).toNat) : Nat) : Int) = c % 128 := by
  obtain ⟨n, rfl⟩ := Int.eq_ofNat_of_zero_le h0
  rw [Int.toNat_natCast]
  show ((n &&& (2 ^ 7 - 1) : Nat) : Int) = _
  rw [Nat.and_two_pow_sub_one_eq_mod]; rfl
theorem and128 (c : Int) (h0 : 0 ≤ c) (h1 : c ≤ 255) : bits .and .u8 c 128 = if 128 ≤ c then 128 else 0 := by
  obtain ⟨n, rfl⟩ := Int.eq_ofNat_of_zero_le h0
  rw [u8_and n 128 h0 (by omega) (by omega) (by omega), Int.toNat_natCast]
  have h : ∀ m : Nat, m < 256 → ((m &&& 128 : Nat) : Int) = if (128 : Int) ≤ (m : Int) then 128 else 0 := by decide +kernel
  exact h n (by omega)
theorem or_uint (x p : Int) (i : Nat) (x0 : 0 ≤ x) (x1 : x < 2 ^ (7 * i)) (p0 : 0 ≤ p) (p1 : p ≤ 127) (hi : i ≤ 9) (h9 : ¬ (i = 9 ∧ 1 < p)) :
    bits .or .u64 x (IntKind.u64.wrap (p * 2 ^ (7 * i))) = x + p * 2 ^ (7 * i) ∧ 0 ≤ x + p * 2 ^ (7 * i) ∧ x + p * 2 ^ (7 * i) < 2 ^ (7 * (i + 1)) := by
  obtain ⟨n, rfl⟩ := Int.eq_ofNat_of_zero_le x0
  obtain ⟨q, rfl⟩ := Int.eq_ofNat_of_zero_le p0
  have hpow : ((2 : Int) ^ (7 * i)) = ((2 ^ (7 * i) : Nat) : Int) := by rw [Int.natCast_pow]; rfl
  have hpow' : ((2 : Int) ^ (7 * (i + 1))) = ((2 ^ (7 * (i + 1)) : Nat) : Int) := by rw [Int.natCast_pow]; rfl
  have hs : 2 ^ (7 * (i + 1)) = 128 * 2 ^ (7 * i) := by rw [show 7 * (i + 1) = 7 + 7 * i by omega, Nat.pow_add]
  rw [hpow] at x1
  rw [hpow, hpow', hs]
  have hn : n < 2 ^ (7 * i) := by omega
  have hq : q * 2 ^ (7 * i) ≤ 127 * 2 ^ (7 * i) := Nat.mul_le_mul_right _ (by omega)
  have hlt : q * 2 ^ (7 * i) ≤ 9223372036854775808 := by
    by_cases e : i = 9
    · subst e
      have : q ≤ 1 := by omega
      have := Nat.mul_le_mul_right (2 ^ 63) this
      omega
    · have : 2 ^ (7 * i) ≤ 2 ^ 56 := Nat.pow_le_pow_right (by omega) (by omega)
      omega
  have hnb : n < 9223372036854775808 := by
    have : 2 ^ (7 * i) ≤ 2 ^ 63 := Nat.pow_le_pow_right (by omega) (by omega)
    omega
  have ew : ((q : Int) * ((2 ^ (7 * i) : Nat) : Int)) = ((q * 2 ^ (7 * i) : Nat) : Int) := by rw [Int.natCast_mul]
  rw [ew, IntKind.wrap_u64]
  have em : ((q * 2 ^ (7 * i) : Nat) : Int) % 18446744073709551616 = ((q * 2 ^ (7 * i) : Nat) : Int) := by omega
  rw [em, u64_or_nat n (q * 2 ^ (7 * i)) (by omega) (by omega)]
  have ho : n ||| q * 2 ^ (7 * i) = n + q * 2 ^ (7 * i) := by
    rw [Nat.or_comm, ← Nat.shiftLeft_eq, ← Nat.shiftLeft_add_eq_or_of_lt hn, Nat.shiftLeft_eq, Nat.add_comm]
  rw [ho]
  refine ⟨by omega, by omega, by omega⟩
theorem info5 : (Try.prog.info? 5).map (fun i => (i.zero, i.size, i.bytes)) = some (some (.int .u8 0), 1, 1) := by kernel_rfl
set_option maxRecDepth 1000000 in
set_option maxHeartbeats 3200000 in
theorem uint_calls {w : World} {g : Nat} {A : Option Addr} {c : Nat} {l : List Int} (h : Rdr w g A c l) (hby : ∀ x ∈ l, 0 ≤ x ∧ x ≤ 255) :
    Calls Try.prog 33 #[.pointer (some ⟨g, 0, none⟩)] w fun e w' => e = .returned (.tuple #[.int .u64 (uintR l).1, .int .i64 (uintR l).2.1]) ∧ (∃ A' c', Rdr w' g A' c' (l.drop (uintR l).2.2)) ∧ w.grownBy w' (some g) := by
  have c0 : w.cell? ⟨g, 0, none⟩ = some (.slice A l.length c) := blk_cell h.blk 0
  have f0 : w.frozen? ⟨g, 0, none⟩ = false := blk_frozen h.blk 0
  have HR := Lib.hid h; have HBy := Lib.hid hby
  clear h hby
  go_enter Try.func33, Try.ntmps33
  go_wp2
  refine scope_once 0 (UJ g l w) Umu rfl ?_ ?_
  · intro a1 w1 hJ
    obtain ⟨i, x, hi10, hil, hx0, hx1, hgo, rfl, hJ⟩ := hJ
    obtain ⟨u6, hJ⟩ := hJ; obtain ⟨u7, hJ⟩ := hJ; obtain ⟨u8, hJ⟩ := hJ; obtain ⟨u9, hJ⟩ := hJ; obtain ⟨u10, hJ⟩ := hJ; obtain ⟨u11, hJ⟩ := hJ; obtain ⟨u12, hJ⟩ := hJ; obtain ⟨u13, hJ⟩ := hJ; obtain ⟨u14, hJ⟩ := hJ; obtain ⟨u15, hJ⟩ := hJ; obtain ⟨u16, hJ⟩ := hJ; obtain ⟨u17, hJ⟩ := hJ; obtain ⟨u18, hJ⟩ := hJ; obtain ⟨u19, hJ⟩ := hJ; obtain ⟨u20, hJ⟩ := hJ; obtain ⟨u21, hJ⟩ := hJ; obtain ⟨u22, hJ⟩ := hJ; obtain ⟨u23, hJ⟩ := hJ; obtain ⟨u24, hJ⟩ := hJ; obtain ⟨u25, hJ⟩ := hJ; obtain ⟨u26, hJ⟩ := hJ; obtain ⟨u27, hJ⟩ := hJ; obtain ⟨u28, hJ⟩ := hJ; obtain ⟨u29, hJ⟩ := hJ; obtain ⟨u30, hJ⟩ := hJ; obtain ⟨u31, hJ⟩ := hJ; obtain ⟨u32, hJ⟩ := hJ; obtain ⟨u33, hJ⟩ := hJ; obtain ⟨u34, hJ⟩ := hJ; obtain ⟨u35, hJ⟩ := hJ; obtain ⟨u36, hJ⟩ := hJ; obtain ⟨u37, hJ⟩ := hJ; obtain ⟨u38, hJ⟩ := hJ; obtain ⟨u39, hJ⟩ := hJ; obtain ⟨u40, hJ⟩ := hJ; obtain ⟨u41, hJ⟩ := hJ; obtain ⟨u42, hJ⟩ := hJ; obtain ⟨u43, hJ⟩ := hJ; obtain ⟨u44, hJ⟩ := hJ; obtain ⟨u45, hJ⟩ := hJ; obtain ⟨u46, hJ⟩ := hJ; obtain ⟨u47, hJ⟩ := hJ; obtain ⟨u48, hJ⟩ := hJ; obtain ⟨u49, hJ⟩ := hJ; obtain ⟨u50, hJ⟩ := hJ; obtain ⟨u51, hJ⟩ := hJ; obtain ⟨u52, hJ⟩ := hJ; obtain ⟨u53, hJ⟩ := hJ; obtain ⟨u54, hJ⟩ := hJ; obtain ⟨u55, hJ⟩ := hJ; obtain ⟨u56, hJ⟩ := hJ; obtain ⟨u57, hJ⟩ := hJ; obtain ⟨u58, hJ⟩ := hJ; obtain ⟨u59, hJ⟩ := hJ
    subst hJ
    have HX1 := Lib.hid hx1; have HGo := Lib.hid hgo
    clear hx1 hgo
    by_cases hend : i = l.length
    · have b1 : ((i : Int) == (l.length : Int)) = true := beq_iff_eq.2 (by omega)
      by_cases h10 : i = 10
      · have b2 : ((i : Int) == 10) = true := beq_iff_eq.2 (by omega)
        have HRes : Hid (uintR l = (0, 5, 0)) := Lib.hid (by rw [← HGo.out, h10]; simp [uintGo])
        clear hend h10
        go_wp2_with (go_at_call 34; refine (left_calls HR.out).mono ?_; rintro e w' ⟨rfl, rfl⟩)
        simp only [Exit.jump]
        go_ret2
        exact ⟨by rw [HRes.out]; rfl, ⟨A, c, by rw [HRes.out]; exact HR.out⟩, World.grownBy.refl _ _⟩
      · have b2 : ((i : Int) == 10) = false := beq_eq_false_iff_ne.2 (by omega)
        have HRes : Hid (uintR l = (0, 4, 0)) := Lib.hid (by
          obtain ⟨k, hk⟩ : ∃ k, 10 - i = k + 1 := ⟨9 - i, by omega⟩
          rw [← HGo.out, hk, uintGo, if_pos hend])
        clear hend h10
        go_wp2_with (go_at_call 34; refine (left_calls HR.out).mono ?_; rintro e w' ⟨rfl, rfl⟩)
        simp only [Exit.jump]
        go_ret2
        exact ⟨by rw [HRes.out]; rfl, ⟨A, c, by rw [HRes.out]; exact HR.out⟩, World.grownBy.refl _ _⟩
    · have hlt : i < l.length := by omega
      have b1 : ((i : Int) == (l.length : Int)) = false := beq_eq_false_iff_ne.2 (by omega)
      have hlti : (i : Int) < (l.length : Int) := by omega
      by_cases h10 : i = 10
      · have b2 : ((i : Int) == 10) = true := beq_iff_eq.2 (by omega)
        have HRes : Hid (uintR l = (0, 5, 0)) := Lib.hid (by rw [← HGo.out, h10]; simp [uintGo])
        clear hend h10
        go_wp2_with (go_at_call 34; refine (left_calls HR.out).mono ?_; rintro e w' ⟨rfl, rfl⟩)
        simp only [Exit.jump]
        go_ret2
        exact ⟨by rw [HRes.out]; rfl, ⟨A, c, by rw [HRes.out]; exact HR.out⟩, World.grownBy.refl _ _⟩
      · have b2 : ((i : Int) == 10) = false := beq_eq_false_iff_ne.2 (by omega)
        obtain ⟨ad, c1, hA, hc1, hcm, hcell⟩ := at_byte HR.out.rd i hlt
        subst hA
        obtain ⟨y0, y1⟩ := HBy.out c1 hcm
        have hgd : l.getD i 0 = c1 := by rw [List.getD_eq_getElem?_getD, hc1]; rfl
        obtain ⟨k, hk⟩ : ∃ k, 10 - i = k + 1 := ⟨9 - i, by omega⟩
        have hk' : k = 10 - (i + 1) := by omega
        have hgo := HGo.out
        rw [hk, uintGo, if_neg hend, hgd] at hgo
        obtain ⟨p, hp⟩ : ∃ p : Int, p = c1 % 128 := ⟨_, rfl⟩
        have hp0 : 0 ≤ p := by omega
        have hp1 : p ≤ 127 := by omega
        rw [← hp, hk'] at hgo
        have e1 : bits .andNot .u8 c1 128 = p := by
          rw [u8_andNot c1 128 y0 (by omega) (by omega) (by omega), hp]
          exact andNot128 c1 y0 y1
        clear hp hk hk' hgd hc1 hcm HGo
        by_cases hover : i = 9 ∧ 1 < p
        · rw [if_pos hover] at hgo
          have HRes := Lib.hid hgo
          obtain ⟨h9, hp9⟩ := hover
          have b3 : ((i : Int) == 9) = true := beq_iff_eq.2 (by omega)
          clear hgo h9 hend h10
          go_wp2_with (go_at_call 34; refine (left_calls HR.out).mono ?_; rintro e w' ⟨rfl, rfl⟩)
          simp only [Exit.jump]
          go_ret2
          exact ⟨by rw [← HRes.out]; rfl, ⟨_, c, by rw [← HRes.out]; exact HR.out⟩, World.grownBy.refl _ _⟩
        · rw [if_neg hover] at hgo
          have hor := or_uint x p i hx0 HX1.out hp0 hp1 (by omega) (by omega)
          have HOr := Lib.hid hor
          obtain ⟨n, hn⟩ : ∃ n, n = x + p * 2 ^ (7 * i) := ⟨_, rfl⟩
          rw [← hn] at hgo HOr
          clear hn hor
          have h7 : (7 : Int) * (i : Int) ≤ 63 := by omega
          have hor1 := HOr.out.1
          have tests : (i = 9 ∧ p ≤ 1) ∨ i < 9 := by omega
          have HT := Lib.hid tests
          clear tests hover hend h10
          by_cases hbig : 128 ≤ c1
          · rw [if_pos hbig] at hgo
            have HGo := Lib.hid hgo
            have e2 : (bits .and .u8 c1 128 != 0) = true := by rw [and128 c1 y0 y1, if_pos hbig]; rfl
            clear hgo hbig
            rcases HT.out with ⟨h9, hp9⟩ | h9
            · have b3 : ((i : Int) == 9) = true := beq_iff_eq.2 (by omega)
              clear h9
              go_wp2_with (go_at_call 34; refine (left_calls HR.out).mono ?_; rintro e w' ⟨rfl, rfl⟩)
              go_step3
              refine ⟨rfl, ⟨i + 1, n, by omega, by omega, HOr.out.2.1, HOr.out.2.2, HGo.out, rfl, _, _, _, _, _, _, _, _, _, _, _, _, _, _, _, _, _, _, _, _, _, _, _, _, _, _, _, _, _, _, _, _, _, _, _, _, _, _, _, _, _, _, _, _, _, _, _, _, _, _, _, _, _, _, rfl⟩, ?_⟩
              simp [Umu, intOf]; omega
            · have b3 : ((i : Int) == 9) = false := beq_eq_false_iff_ne.2 (by omega)
              go_wp2_with (go_at_call 34; refine (left_calls HR.out).mono ?_; rintro e w' ⟨rfl, rfl⟩)
              go_step3
              refine ⟨rfl, ⟨i + 1, n, by omega, by omega, HOr.out.2.1, HOr.out.2.2, HGo.out, rfl, _, _, _, _, _, _, _, _, _, _, _, _, _, _, _, _, _, _, _, _, _, _, _, _, _, _, _, _, _, _, _, _, _, _, _, _, _, _, _, _, _, _, _, _, _, _, _, _, _, _, _, _, _, _, rfl⟩, ?_⟩
              simp [Umu, intOf]; omega
          · rw [if_neg hbig] at hgo
            have e2 : (bits .and .u8 c1 128 != 0) = false := by rw [and128 c1 y0 y1, if_neg hbig]; rfl
            clear hbig
            by_cases hz : c1 = 0 ∧ 0 < i
            · rw [if_pos hz] at hgo
              have HRes := Lib.hid hgo
              obtain ⟨hz0, hz1⟩ := hz
              have b4 : (c1 == 0) = true := beq_iff_eq.2 hz0
              have b5 : (1 : Int) < (i : Int) + 1 := by omega
              clear hgo hz0
              rcases HT.out with ⟨h9, hp9⟩ | h9
              · have b3 : ((i : Int) == 9) = true := beq_iff_eq.2 (by omega)
                clear h9
                go_wp2_with (go_at_call 34; refine (left_calls HR.out).mono ?_; rintro e w' ⟨rfl, rfl⟩)
                simp only [Exit.jump]
                go_ret2
                exact ⟨by rw [← HRes.out]; rfl, ⟨_, c, by rw [← HRes.out]; exact HR.out⟩, World.grownBy.refl _ _⟩
              · have b3 : ((i : Int) == 9) = false := beq_eq_false_iff_ne.2 (by omega)
                go_wp2_with (go_at_call 34; refine (left_calls HR.out).mono ?_; rintro e w' ⟨rfl, rfl⟩)
                simp only [Exit.jump]
                go_ret2
                exact ⟨by rw [← HRes.out]; rfl, ⟨_, c, by rw [← HRes.out]; exact HR.out⟩, World.grownBy.refl _ _⟩
            · rw [if_neg hz] at hgo
              have HRes := Lib.hid hgo
              obtain ⟨A', R, hR, CR, hRc, hcut⟩ := tail_cut (P := Try.prog) (d := Kd.int .u8) 23 5 .i64 Try.underlying23 info5 rfl HR.out.rd HR.out.cap ((i : Int) + 1) (i + 1) (by omega) (by omega)
              have hfin : Rdr (w1.setCell ⟨g, 0, none⟩ (.slice A' R.length (c - (i + 1)))) g A' (c - (i + 1)) R := by
                refine ⟨heap_setCell_same w1 g 0 _ _ _ HR.out.blk, hRc, C_block CR fun a ha h0 => Below.heap_setCell w1 ⟨g, 0, none⟩ _ _ ?_⟩
                subst ha
                exact HR.out.far CR h0
              have hgs : w1.grownBy (w1.setCell ⟨g, 0, none⟩ (.slice A' R.length (c - (i + 1)))) (some g) := ⟨rfl, rfl, rfl, by simp, fun k _ hk => Below.heap_setCell w1 ⟨g, 0, none⟩ _ k (fun e => hk (by rw [e]))⟩
              have HFin := Lib.hid hfin; have HGs := Lib.hid hgs; have HRR := Lib.hid hR
              have htest : (c1 == 0) = false ∨ (c1 == 0) = true ∧ ¬ (1 : Int) < (i : Int) + 1 := by
                by_cases h0 : c1 = 0
                · exact .inr ⟨beq_iff_eq.2 h0, by omega⟩
                · exact .inl (beq_eq_false_iff_ne.2 h0)
              have HTest := Lib.hid htest
              clear hgo hz hfin hgs hR CR htest hRc
              rcases HT.out with ⟨h9, hp9⟩ | h9
              · have b3 : ((i : Int) == 9) = true := beq_iff_eq.2 (by omega)
                clear h9
                rcases HTest.out with b4 | ⟨b4, b5⟩
                all_goals
                  go_wp2_with (go_at_call 34; refine (left_calls HR.out).mono ?_; rintro e w' ⟨rfl, rfl⟩)
                  simp only [Exit.jump]
                  go_ret2
                  exact ⟨by rw [← HRes.out]; rfl, ⟨A', _, by rw [← HRes.out, ← HRR.out]; exact HFin.out⟩, HGs.out⟩
              · have b3 : ((i : Int) == 9) = false := beq_eq_false_iff_ne.2 (by omega)
                rcases HTest.out with b4 | ⟨b4, b5⟩
                all_goals
                  go_wp2_with (go_at_call 34; refine (left_calls HR.out).mono ?_; rintro e w' ⟨rfl, rfl⟩)
                  simp only [Exit.jump]
                  go_ret2
                  exact ⟨by rw [← HRes.out]; rfl, ⟨A', _, by rw [← HRes.out, ← HRR.out]; exact HFin.out⟩, HGs.out⟩
  · intro pass
    go_wp2
    go_step3
    rename_i K hK
    refine hK _ _ (pass _ _ ?_)
    exact ⟨0, 0, by omega, Nat.zero_le _, by omega, by omega, rfl, rfl, undef, undef, undef, undef, undef, undef, undef, undef, undef, undef, undef, undef, undef, undef, undef, undef, undef, undef, undef, undef, undef, undef, undef, undef, undef, undef, undef, undef, undef, undef, undef, undef, undef, undef, undef, undef, undef, undef, undef, undef, undef, undef, undef, undef, undef, undef, undef, undef, undef, undef, undef, undef, undef, undef, rfl⟩
end Go.Proofs.Ytdfpcldoakbehaa.Pack

import Derived.Test.YtdfpcldoakbehaaPackFrom
import Derived.Test.YtdfpcldoakbehaaCrcSum
import Derived.Test.YtdfpcldoakbehaaNeq4
import Derived.Deep.DrawnRows
/- The walk of crc.Open. -/
namespace Go.Proofs.Ytdfpcldoakbehaa.Crc
open Go.RowKit Go.Proofs.YtdfpcldoakbehaaW.PrintWords Go.Proofs.Ytdfpcldoakbehaa.Cut Go.Proofs.Ytdfpcldoakbehaa.Row Go.Proofs.Ytdfpcldoakbehaa.Pack
def fourL (a : Int) : List Int := [a % 256, a / 256 % 256, a / 65536 % 256, a / 16777216]
/-- What crc.Open answers. -/
def openF (l : List Int) : List Int × Int × Int :=
  let r := uintR l
  if r.2.1 ≠ 0 then ([], 0, r.2.1) else if 4096 < r.1 then ([], 0, 2) else if ((l.length - r.2.2 : Nat) : Int) < r.1 + 4 then ([], 0, 4)
  else if (l.drop (r.2.2 + r.1.toNat)).take 4 ≠ fourL (sumOf ((l.drop r.2.2).take r.1.toNat)) then ([], 0, 5)
  else ((l.drop r.2.2).take r.1.toNat, ((r.2.2 + r.1.toNat + 4 : Nat) : Int), 0)
/-- A row of bytes that a call hands back. -/
abbrev RB (w' w : World) (v : Value) (l : List Int) : Prop := Kd.R (Kd.int .u8) 5 w' w.heap.size (fun _ => True) v l
theorem arrayAt_four (W : World) (A : Option Addr) (n c : Nat) (h : 4 ≤ n) : (Instr.arrayAt 102 (.slice A n c)).run Try.prog W = .ok (.pointer A) W := by
  have h4 : ¬ n < 4 := by omega
  simp [Instr.arrayAt, run_underlying Try.underlying102, h4]
theorem four_calls (a : Int) (w : World) (h0 : 0 ≤ a) (h1 : a < 4294967296) :
    Calls Try.prog 53 #[.int .u32 a] w fun e w' => e = .returned (.slice (some ⟨w.heap.size, 0, none⟩) 4 4) ∧ w'.heap[w.heap.size]? = some (.cells (nums .u8 (fourL a)).toArray 5 (0, 0)) ∧ Below w.heap.size w w' := by
  go_enter Try.func53, Try.ntmps53
  go_wp2
  go_ret
  exact ⟨rfl, heap_alloc_new w _, (Below.refl _ _).alloc (Nat.le_refl _) _⟩
theorem uintGo_spec : ∀ (k : Nat) (l : List Int) (i : Nat) (x : Int), i ≤ l.length → 0 ≤ x → (uintGo k l i x).2.2 ≤ l.length ∧ 0 ≤ (uintGo k l i x).1 ∧ ((uintGo k l i x).2.1 = 0 ∨ (uintGo k l i x).2.1 = 4 ∨ (uintGo k l i x).2.1 = 5)
  | 0, l, i, x, _, _ => by unfold uintGo; split <;> simp
  | k + 1, l, i, x, hi, hx => by
    unfold uintGo
    split
    · simp
    · split
      · simp
      · have hp : (0 : Int) ≤ l.getD i 0 % 128 * 2 ^ (7 * i) := Int.mul_nonneg (by omega) (Int.pow_nonneg (by omega))
        split
        · exact uintGo_spec k l (i + 1) _ (by omega) (by omega)
        · split
          · simp
          · exact ⟨by show i + 1 ≤ l.length; omega, by show 0 ≤ x + l.getD i 0 % 128 * 2 ^ (7 * i); omega, .inl rfl⟩
theorem uintR_spec (l : List Int) : (uintR l).2.2 ≤ l.length ∧ 0 ≤ (uintR l).1 ∧ ((uintR l).2.1 = 0 ∨ (uintR l).2.1 = 4 ∨ (uintR l).2.1 = 5) := uintGo_spec 10 l 0 0 (Nat.zero_le _) (by omega)
/-- x[lo:hi] of a slice that is read. -/
theorem mid_cut {w : World} {A : Option Addr} {c : Nat} {xs : List Int} (hC : (Kd.int .u8).C w A xs.length xs) (hc : xs.length ≤ c) (lo hi : Int) (a b : Nat) (hlo : lo = a) (hhi : hi = (a + b : Nat)) (h : a + b ≤ xs.length) :
    ∃ (A' : Option Addr) (R : List Int), R = (xs.drop a).take b ∧ R.length = b ∧ (Kd.int .u8).C w A' R.length R ∧ ∀ W : World, (Instr.slice 23 (.slice A xs.length c) (some (.int .i64 lo)) (some (.int .i64 hi)) none).run Try.prog W = .ok (.slice A' b (c - a)) W := by
  obtain ⟨i5, hi5, hz5, hs5, hb5⟩ := info_parts info5
  have h1 := Kd.C_drop (m := a) hC (by omega) hc
  have e1 : (xs.drop a).length = xs.length - a := List.length_drop
  have h2 := Kd.C_take (m := b) h1 (by rw [e1]; omega)
  have hl : ((xs.drop a).take b).length = b := by rw [List.length_take, e1]; omega
  refine ⟨_, _, rfl, hl, h2, fun W => ?_⟩
  have hr := cut_mid (P := Try.prog) 23 5 .i64 .i64 Try.underlying23 hi5 1 hs5 A xs.length c lo hi (by omega) (by omega) (by omega) hc W
  rw [hr]
  have e2 : lo.toNat = a := by omega
  have e3 : hi.toNat - a = b := by omega
  rw [e2, e3]; rfl
theorem sumOf_range (X : List Int) : 0 ≤ sumOf X ∧ sumOf X < 4294967296 := by
  unfold sumOf bits
  simp only [IntKind.wrap_u32]
  omega
theorem four_of {Y : List Int} (h : Y.length = 4) : ∃ y0 y1 y2 y3, Y = [y0, y1, y2, y3] := by
  match Y, h with
  | [a, b, c, d], _ => exact ⟨a, b, c, d, rfl⟩
theorem four_cells {w : World} {A : Option Addr} {Y : List Int} {y0 y1 y2 y3 : Int} (h : (Kd.int .u8).C w A Y.length Y) (hY : Y = [y0, y1, y2, y3]) :
    ∃ ad, A = some ad ∧ w.cell? ad = some (.int .u8 y0) ∧ w.cell? ⟨ad.block, ad.off + 1, none⟩ = some (.int .u8 y1) ∧ w.cell? ⟨ad.block, ad.off + 2, none⟩ = some (.int .u8 y2) ∧ w.cell? ⟨ad.block, ad.off + 3, none⟩ = some (.int .u8 y3) := by
  subst hY
  obtain ⟨ad, x0, hA, e0, _, h0⟩ := at_byte h 0 (by simp)
  obtain ⟨ad1, x1, hA1, e1, _, h1⟩ := at_byte h 1 (by simp)
  obtain ⟨ad2, x2, hA2, e2, _, h2⟩ := at_byte h 2 (by simp)
  obtain ⟨ad3, x3, hA3, e3, _, h3⟩ := at_byte h 3 (by simp)
  subst hA
  injection hA1 with hA1; injection hA2 with hA2; injection hA3 with hA3
  subst hA1; subst hA2; subst hA3
  simp only [List.getElem?_cons_zero, List.getElem?_cons_succ, Option.some.injEq] at e0 e1 e2 e3
  subst e0; subst e1; subst e2; subst e3
  have e : ad.add 0 = ad := by unfold Addr.add; simp
  rw [e] at h0
  exact ⟨ad, rfl, h0, h1, h2, h3⟩
theorem four_ne (a b c d s : Int) : Value.bool (!a == s % 256 || (!b == s / 256 % 256 || (!c == s / 65536 % 256 || !d == s / 16777216))) = .bool (decide ([a, b, c, d] ≠ fourL s)) := by
  congr 1
  unfold fourL
  by_cases h1 : a = s % 256 <;> by_cases h2 : b = s / 256 % 256 <;> by_cases h3 : c = s / 65536 % 256 <;> by_cases h4 : d = s / 16777216 <;> simp [h1, h2, h3, h4]
theorem reads_int {k : IntKind} {w : World} {A : Option Addr} {xs : List Int} (h : (Kd.int k).C w A xs.length xs) : ReadsInt w k A xs.length xs := by
  refine ⟨rfl, h.2.1, fun h0 => ?_⟩
  obtain ⟨_, _, hh⟩ := h
  obtain ⟨ad, hA, _⟩ := hh h0
  subst hA
  refine ⟨ad, rfl, fun j hj => ?_⟩
  obtain ⟨ad', x, hA', hx, _, hc⟩ := at_byte (k := k) (w := w) (A := some ad) (n := xs.length) (l := xs) ⟨rfl, by omega, hh⟩ j hj
  injection hA' with hA'; subst hA'
  rw [List.getD_eq_getElem?_getD, hx]; exact hc
theorem kd_of_reads {k : IntKind} {w : World} {A : Option Addr} {n : Nat} {xs : List Int} (h : ReadsInt w k A n xs) : (Kd.int k).C w A n xs := by
  obtain ⟨h1, h2, h3⟩ := h
  refine ⟨h1, h2, fun h0 => ?_⟩
  obtain ⟨ad, hA, hc⟩ := h3 h0
  refine ⟨ad, hA, fun j p hj => ⟨[.int k p], rfl, rfl, fun i u hu => ?_⟩⟩
  obtain ⟨rfl, rfl⟩ : i = 0 ∧ u = .int k p := by
    cases i with
    | zero => exact ⟨rfl, by simpa using hu.symm⟩
    | succ i => simp at hu
  have hjl := (List.getElem?_eq_some_iff.1 hj).1
  have := hc j (by omega)
  rw [List.getD_eq_getElem?_getD, hj] at this
  have e1 : (Kd.int k).sz = 1 := rfl
  rw [e1, Nat.mul_one, Nat.add_zero]; exact this
/-- What crc.Open leaves. -/
def OpenP (w : World) (r : List Int × Int × Int) (e : Ending) (w' : World) : Prop := ∃ v, e = .returned (.tuple #[v, .int .i64 r.2.1, .int .i64 r.2.2]) ∧ RB w' w v r.1 ∧ Below w.heap.size w w'
theorem OpenP.err {w w' : World} (er : Int) (hb : Below w.heap.size w w') : OpenP w ([], 0, er) (.returned (.tuple #[.slice none 0 0, .int .i64 0, .int .i64 er])) w' := ⟨_, rfl, Kd.R_nil _ _ _ _ _, hb⟩
attribute [local go_sem ↓] Go.wp_at_zero Go.wp_at_succ
set_option maxRecDepth 1000000 in
set_option maxHeartbeats 1600000 in
theorem open_calls (A : Option Addr) (n c : Nat) (l : List Int) (w : World) (hl : l.length = n) (hnc : n ≤ c) (hn : n ≤ 140737488351232) (hC : (Kd.int .u8).C w A n l) (hby : ∀ x ∈ l, 0 ≤ x ∧ x ≤ 255) :
    Calls Try.prog 41 #[.slice A n c] w (OpenP w (openF l)) := by
  subst hl
  have HC := Lib.hid hC; have HBy := Lib.hid hby
  clear hC hby
  go_enter Try.func41, Try.ntmps41
  go_wp2_with fail
  refine (from_calls A l.length c l w rfl hn HC.out).mono ?_
  rintro e w1 ⟨g, rfl, hg, ⟨A1, c1, hr1⟩, hb1⟩
  have HR1 := Lib.hid hr1; have HB1 := Lib.hid hb1
  clear hr1 hb1
  go_wp2_with fail
  refine (uint_calls HR1.out HBy.out).mono ?_
  rintro e w2 ⟨rfl, ⟨A2, c2, hr2⟩, hg2⟩
  obtain ⟨sp1, sp2, sp3⟩ := uintR_spec l
  have hopen : openF l = openF l := rfl
  conv at hopen => rhs; unfold openF
  obtain ⟨⟨m, er, k⟩, hu⟩ : ∃ r, uintR l = r := ⟨_, rfl⟩
  rw [hu] at hr2 sp1 sp2 sp3 hopen ⊢
  simp only at hr2 sp1 sp2 sp3 hopen ⊢
  have HR2 := Lib.hid hr2
  have HB2 := Lib.hid (HB1.out.grown hg2 HB1.out.size (fun j hj => by injection hj with hj; omega))
  clear hr2 hg2 hu
  by_cases h1 : er = 0
  · subst h1
    rw [if_neg (by simp)] at hopen
    by_cases h2 : 4096 < m
    · rw [if_pos h2] at hopen
      have HO := Lib.hid hopen
      clear hopen
      go_wp2_with fail
      go_ret3
      rw [HO.out]
      exact OpenP.err _ HB2.out
    · rw [if_neg h2] at hopen
      obtain ⟨n, rfl⟩ := Int.eq_ofNat_of_zero_le sp2
      have hn4 : n ≤ 4096 := by omega
      have hdl : (l.drop k).length = l.length - k := List.length_drop
      obtain ⟨q, hq⟩ : ∃ q, q = l.length - k := ⟨_, rfl⟩
      rw [← hq] at hdl hopen
      have HDl := Lib.hid hdl; have HQ := Lib.hid hq
      have hqk : q + k = l.length := by omega
      have hq63 : (q : Int) ≤ 140737488351232 := by omega
      have hk63 : (k : Int) ≤ 140737488351232 := by omega
      have HQK := Lib.hid hqk
      by_cases h3 : (q : Int) < (n : Int) + 4
      · rw [if_pos h3] at hopen
        have HO := Lib.hid hopen
        clear hopen hdl hq hqk
        go_wp2_with fail
        refine (left_calls HR2.out).mono ?_
        rintro e w3 ⟨rfl, rfl⟩
        rw [HDl.out]
        go_wp2_with fail
        go_ret3
        rw [HO.out]
        exact OpenP.err _ HB2.out
      · rw [if_neg h3] at hopen
        have HO := Lib.hid hopen
        clear hopen hdl hq hqk
        go_wp2_with fail
        refine (left_calls HR2.out).mono ?_
        rintro e w3 ⟨rfl, rfl⟩
        rw [HDl.out]
        go_wp2_with fail
        refine (left_calls HR2.out).mono ?_
        rintro e w3 ⟨rfl, rfl⟩
        rw [HDl.out]
        have hat : (l.length : Int) - (q : Int) = (k : Int) := by have := HQK.out; omega
        rw [Int.toNat_natCast] at HO
        have hkn : k + n + 4 ≤ l.length := by have := HQK.out; omega
        obtain ⟨A3, X, hX, hXl, hXC, hcut3⟩ := mid_cut HC.out hnc (k : Int) ((k : Int) + (n : Int)) k n rfl (by omega) (by omega)
        obtain ⟨A5, Y, hY, hYl, hYC, hcut5⟩ := mid_cut HC.out hnc ((k : Int) + (n : Int)) ((k : Int) + (n : Int) + 4) (k + n) 4 (by omega) (by omega) hkn
        rw [← hX, ← hY] at HO
        have hXb : ∀ x ∈ X, 0 ≤ x ∧ x ≤ 255 := fun x hx => HBy.out x (List.mem_of_mem_drop (List.mem_of_mem_take (hX ▸ hx)))
        have hown0 := own_lit w2 w.heap.size 5 .u8 [] HB2.out.size (by simp)
        have hba := HB2.out.alloc HB2.out.size (.cells #[] 5)
        have hri := reads_int (Kd.C_below hXC hba)
        rw [hXl] at hri
        have HOwn := Lib.hid hown0; have HBa := Lib.hid hba; have HRi := Lib.hid hri
        have HX := Lib.hid hX; have HXl := Lib.hid hXl; have HXb := Lib.hid hXb; have HYC := Lib.hid hYC; have HYl := Lib.hid hYl
        clear hown0 hba hri hX hXC hY hXl hXb hYC hYl
        go_wp2_with (at_builtin; refine print_append_row (w0 := w) w.heap.size rfl _ _ 23 5 .u8 1 rfl Try.underlying23 info5 (by decide) _ [] X A3 n (c - k) rfl rfl HOwn.out HRi.out HBa.out HBa.out.size (by simp; omega) ?_; intro v1 w4 hown hb4 _ _)
        simp only [List.nil_append] at hown
        rw [HXl.out] at hown
        obtain ⟨A4, c4, rfl⟩ := own_slice hown
        have hC4 : (Kd.int .u8).C w4 A4 n X := by
          obtain ⟨A6, c6, he, hC6⟩ := own_reads hown
          injection he with q1 q2 q3
          subst q1
          exact kd_of_reads hC6
        have HX4 : Hid ((Kd.int .u8).C w4.drew A4 n X) := Lib.hid (Kd.C_below hC4 (Below.refl _ _).drew)
        have HW4 := Lib.hid hown; have HB4 := Lib.hid hb4
        clear hown hb4 hC4
        have hsum := sumOf_range X
        obtain ⟨hs0, hs1⟩ := hsum
        obtain ⟨y0, y1, y2, y3, hY4⟩ := four_of HYl.out
        have hYw := Kd.C_below HYC.out HB4.out
        have hcells := four_cells hYw hY4
        obtain ⟨ad5, rfl, d0, d1, d2, d3⟩ := hcells
        have ha1 := fun W => arrayAt_four W (some ad5) 4 (c - (k + n)) (Nat.le_refl _)
        go_cut [59] (fun t wx => t = .bool (decide (Y ≠ fourL (sumOf X))) ∧ Below w4.heap.size w4 wx)
        case first =>
          have hw1 : IntKind.i64.wrap ((k : Int) + (n : Int) + 4) = (k : Int) + (n : Int) + 4 := IntWalk.i64_in _ (by omega)
          have hq4 := eq_four y0 y1 y2 y3 (sumOf X % 256) (sumOf X / 256 % 256) (sumOf X / 65536 % 256) (sumOf X / 16777216)
          go_region_with (first
            | (go_at_call 54; refine (sum_calls A4 n c4 X _ HXl.out (by omega) HX4.out HXb.out).mono ?_; rintro e w5 ⟨rfl, hb5⟩; have HB5 := Lib.hid hb5; have u0 := pw_cell_below (below_step (Below.refl w4.heap.size w4).drew hb5) d0; have u1 := pw_cell_below (below_step (Below.refl w4.heap.size w4).drew hb5) d1; have u2 := pw_cell_below (below_step (Below.refl w4.heap.size w4).drew hb5) d2; have u3 := pw_cell_below (below_step (Below.refl w4.heap.size w4).drew hb5) d3; clear hb5)
            | (go_at_call 53; refine (four_calls _ _ hs0 hs1).mono ?_; rintro e w6 ⟨rfl, hh6, hb6⟩; have HB6 := Lib.hid hb6; have v0 := pw_cell_below hb6 u0; have v1 := pw_cell_below hb6 u1; have v2 := pw_cell_below hb6 u2; have v3 := pw_cell_below hb6 u3; have ha2 := fun W => arrayAt_four W (some ⟨w5.heap.size, 0, none⟩) 4 4 (Nat.le_refl _); have t0 : w6.cell? ⟨w5.heap.size, 0, none⟩ = some (.int .u8 (sumOf X % 256)) := blk_cell hh6 0; have t1 : w6.cell? ⟨w5.heap.size, 1, none⟩ = some (.int .u8 (sumOf X / 256 % 256)) := blk_cell hh6 1; have t2 : w6.cell? ⟨w5.heap.size, 2, none⟩ = some (.int .u8 (sumOf X / 65536 % 256)) := blk_cell hh6 2; have t3 : w6.cell? ⟨w5.heap.size, 3, none⟩ = some (.int .u8 (sumOf X / 16777216)) := blk_cell hh6 3; clear hh6 hb6))
          all_goals
            go_wp2
            go_meet
            case rel => exact ⟨by rw [hY4, four_ne], below_step (below_step (Below.refl w4.heap.size w4).drew HB5.out) HB6.out⟩
        case rest =>
          obtain ⟨rfl, hB⟩ := hcut
          have HB := Lib.hid (below_step HB4.out hB)
          have HWc := Lib.hid (pw_own_below HW4.out hB)
          clear hB
          by_cases hne : Y ≠ fourL (sumOf X)
          · have HO' : Hid (openF l = ([], 0, 5)) := Lib.hid (by rw [HO.out, if_pos hne])
            rw [decide_eq_true hne]
            clear hne
            go_wp2_with fail
            go_ret3
            rw [HO'.out]
            exact OpenP.err _ HB.out
          · have HO' : Hid (openF l = (X, ((k + n + 4 : Nat) : Int), 0)) := Lib.hid (by rw [HO.out, if_neg hne])
            rw [decide_eq_false hne]
            clear hne
            go_wp2_with fail
            go_ret3
            rw [HO'.out]
            refine ⟨_, rfl, ?_, HB.out⟩
            exact Kd.R_of_own (enc := Value.int .u8) (by rw [HXl.out]; exact HWc.out) (fun _ _ => trivial)
  · have hne : (er != 0) = true := bne_iff_ne.2 h1
    rw [if_pos h1] at hopen
    have HO := Lib.hid hopen
    clear hopen
    go_wp2_with fail
    go_ret3
    rw [HO.out]
    exact OpenP.err _ HB2.out
end Go.Proofs.Ytdfpcldoakbehaa.Crc

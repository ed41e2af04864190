import Derived.Test.YteihfipojnfnfaaPCrcSumsx3
/- CrcSums: the law's own walk, over the contracts of what it calls. -/
namespace Go.Proofs.Yteihfipojnfnfaa.PCrcSums
open Go.RowKit Go.Proofs.YteihfipojnfnfaaW.PrintWords Go.Proofs.YteihfipojnfnfaaW.PrintLast Go.Proofs.YteihfipojnfnfaaW.PrintMore
set_option maxHeartbeats 8000000 in
set_option maxRecDepth 100000 in
theorem sums_walk (k : Nat) (A0 : Option Addr) (c0 : Nat) (l0 : List Int) (w : World) (hr0 : Kd.C (Kd.int .u8) w A0 l0.length l0) (hc0 : l0.length ≤ c0) (X : List Int) (ex : Int) (Y : List Int) (pn pe : Int) (L : List (List Int)) (ie s : Int)
    (h1 : crc_Frame.f k l0 = some (X, ex)) (h2 : tidemillref02_Frame.f k l0 = some (X, ex)) (h3 : crc_Open.f l0 = some (Y, pn, pe)) (h4 : tidemillref02_Open.f k l0 = some (Y, pn, pe))
    (h5 : crc_Scan.f l0 = some (L, ie)) (h6 : tidemillref02_Scan.f k l0 = some (L, ie)) (h7 : crc_Sum.f l0 = some s) (h8 : tidemillref02_Sum.f k l0 = some s) :
    Calls Try.prog 5 #[.slice A0 l0.length c0] w fun e w' => e = .returned (.bool true) ∧ Below w.heap.size w w' := by
  have HC := Lib.hid hr0; have HL := Lib.hid hc0
  have H1 := Lib.hid h1; have H2 := Lib.hid h2; have H3 := Lib.hid h3; have H4 := Lib.hid h4
  have H5 := Lib.hid h5; have H6 := Lib.hid h6; have H7 := Lib.hid h7; have H8 := Lib.hid h8
  clear hr0 hc0 h1 h2 h3 h4 h5 h6 h7 h8
  go_enter Try.func5, Try.ntmps5
  go_wp2_with fail
  refine (tidemilllaw02_shown.calls true w rfl).mono ?_
  rintro e w1 ⟨rfl, hb1⟩
  have B1 := Lib.hid hb1
  have C1 := Lib.hid (Kd.C_below HC.out hb1)
  clear hb1
  go_wp2_with fail
  refine (crc_Frame.calls k A0 c0 l0 X ex w1 C1.out HL.out H1.out).mono ?_
  rintro e w2 ⟨v2, rfl, r2, hb2⟩
  obtain ⟨X1, x1, rfl⟩ := Kd.R_slice r2
  have B2 := Lib.hid (below_step B1.out hb2)
  have C2 := Lib.hid (Kd.C_below C1.out hb2)
  have R2 := Lib.hid (Kd.R_reads' r2).2.2
  clear r2 hb2
  go_wp2_with fail
  refine (tidemillref02_Frame.calls k A0 c0 l0 X ex w2 C2.out HL.out H2.out).mono ?_
  rintro e w3 ⟨v3, rfl, r3, hb3⟩
  obtain ⟨X2, x2, rfl⟩ := Kd.R_slice r3
  have B3 := Lib.hid (below_step B2.out hb3)
  have C3 := Lib.hid (Kd.C_below C2.out hb3)
  have R2' := Lib.hid (Kd.C_below R2.out hb3)
  have R3 := Lib.hid (Kd.R_reads' r3).2.2
  clear r3 hb3 R2
  go_wp2_with fail
  refine (crc_Open.calls A0 c0 l0 Y pn pe w3 C3.out HL.out H3.out).mono ?_
  rintro e w4 ⟨v4, rfl, r4, hb4⟩
  obtain ⟨Y1, y1, rfl⟩ := Kd.R_slice r4
  have B4 := Lib.hid (below_step B3.out hb4)
  have C4 := Lib.hid (Kd.C_below C3.out hb4)
  have R24 := Lib.hid (Kd.C_below R2'.out hb4)
  have R34 := Lib.hid (Kd.C_below R3.out hb4)
  have R4 := Lib.hid (Kd.R_reads' r4).2.2
  clear r4 hb4 R2' R3
  go_wp2_with fail
  refine (tidemillref02_Open.calls k (fun k => k < w4.heap.size) A0 c0 l0 Y pn pe w4 (Kd.V_mk HL.out (Kd.C_F (Kd.heap_int _) C4.out)) H4.out).mono ?_
  rintro e w5 ⟨v5, rfl, r5, hb5⟩
  obtain ⟨Y2, y2, rfl⟩ := Kd.V_slice r5
  have B5 := Lib.hid (below_step B4.out hb5)
  have C5 := Lib.hid (Kd.C_below C4.out hb5)
  have R25 := Lib.hid (Kd.C_below R24.out hb5)
  have R35 := Lib.hid (Kd.C_below R34.out hb5)
  have R45 := Lib.hid (Kd.C_below R4.out hb5)
  have R5 := Lib.hid (Kd.V_reads' r5).2.2
  clear r5 hb5 R24 R34 R4
  go_wp2_with fail
  refine (crc_Scan.calls A0 c0 l0 L ie w5 C5.out HL.out H5.out).mono ?_
  rintro e w6 ⟨v6, rfl, r6, hb6⟩
  obtain ⟨L1, n1, hv6, hln1, hL1⟩ := Kd.S_reads r6
  subst hv6
  have B6 := Lib.hid (below_step B5.out hb6)
  have C6 := Lib.hid (Kd.C_below C5.out hb6)
  have R26 := Lib.hid (Kd.C_below R25.out hb6)
  have R36 := Lib.hid (Kd.C_below R35.out hb6)
  have R46 := Lib.hid (Kd.C_below R45.out hb6)
  have R56 := Lib.hid (Kd.C_below R5.out hb6)
  have R6 := Lib.hid (And.intro hln1 hL1)
  clear r6 hb6 R25 R35 R45 R5 hln1 hL1
  go_wp2_with fail
  refine (tidemillref02_Scan.calls k (fun k => k < w6.heap.size) A0 c0 l0 L ie w6 (Kd.V_mk HL.out (Kd.C_F (Kd.heap_int _) C6.out)) H6.out).mono ?_
  rintro e w7 ⟨v7, rfl, r7, hb7⟩
  obtain ⟨L2, n2, rfl⟩ := Kd.N_slice r7
  obtain ⟨_, hln2, hL2⟩ := Kd.N_reads' r7
  have B7 := Lib.hid (below_step B6.out hb7)
  have C7 := Lib.hid (Kd.C_below C6.out hb7)
  have R27 := Lib.hid (Kd.C_below R26.out hb7)
  have R37 := Lib.hid (Kd.C_below R36.out hb7)
  have R47 := Lib.hid (Kd.C_below R46.out hb7)
  have R57 := Lib.hid (Kd.C_below R56.out hb7)
  have R67 := Lib.hid (And.intro R6.out.1 (Kd.C_below R6.out.2 hb7))
  have R7 := Lib.hid (And.intro hln2 hL2)
  clear r7 hb7 R26 R36 R46 R56 R6 hln2 hL2
  go_wp2_with fail
  refine (crc_Sum.calls A0 c0 l0 s w7 C7.out HL.out H7.out).mono ?_
  rintro e w8 ⟨rfl, hb8⟩
  have B8 := Lib.hid (below_step B7.out hb8)
  have C8 := Lib.hid (Kd.C_below C7.out hb8)
  have R28 := Lib.hid (Kd.C_below R27.out hb8)
  have R38 := Lib.hid (Kd.C_below R37.out hb8)
  have R48 := Lib.hid (Kd.C_below R47.out hb8)
  have R58 := Lib.hid (Kd.C_below R57.out hb8)
  have R68 := Lib.hid (And.intro R67.out.1 (Kd.C_below R67.out.2 hb8))
  have R78 := Lib.hid (And.intro R7.out.1 (Kd.C_below R7.out.2 hb8))
  clear hb8 R27 R37 R47 R57 R67 R7
  go_wp2_with fail
  refine (tidemillref02_Sum.calls k A0 c0 l0 s w8 C8.out HL.out H8.out).mono ?_
  rintro e w9 ⟨rfl, hd9⟩
  have hb9 := hd9.below
  have B9 := Lib.hid (below_step B8.out hb9)
  obtain ⟨S, hS⟩ : ∃ S, strOfNums X = S := ⟨_, rfl⟩
  obtain ⟨T, hT⟩ : ∃ S, strOfNums Y = S := ⟨_, rfl⟩
  have k1 := Crc.conv_here (c := x1) (Kd.C_below R28.out hb9) hS
  have k2 := Crc.conv_here (c := x2) (Kd.C_below R38.out hb9) hS
  have k3 := Crc.conv_here (c := y1) (Kd.C_below R48.out hb9) hT
  have k4 := Crc.conv_here (c := y2) (Kd.C_below R58.out hb9) hT
  have hli := tidemillref02_Lists.calls L1 n1 L L2 n2 L true w9 (Kd.C_below R68.out.2 hb9) R68.out.1 (Kd.C_below R78.out.2 hb9) R78.out.1 (by unfold tidemillref02_Lists.f Crc.sameB; rw [decide_eq_true rfl])
  clear hb9 hd9 hS hT
  go_wp2_with fail
  refine hli.mono ?_
  rintro e w10 ⟨rfl, hd10⟩
  have B10 := Lib.hid (below_step B9.out hd10.below)
  clear hd10 k1 k2 k3 k4 hli
  go_wp2_with fail
  go_ret
  exact ⟨by simp, B10.out⟩
end Go.Proofs.Yteihfipojnfnfaa.PCrcSums

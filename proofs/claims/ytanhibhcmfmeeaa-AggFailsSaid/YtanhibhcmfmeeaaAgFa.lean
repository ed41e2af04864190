import Derived.Test.YtanhibhcmfmeeaaAgTwo
/- A record that errs changes nothing. -/
namespace Go.Proofs.Ytanhibhcmfmeeaa.Ag
open Go.RowKit Go.Proofs.YtanhibhcmfmeeaaW.PrintWords Go.Proofs.YtanhibhcmfmeeaaW.PrintMore Go.Proofs.Ytanhibhcmfmeeaa.Cut Go.Proofs.Ytanhibhcmfmeeaa.Fr Go.Proofs.Ytanhibhcmfmeeaa.SlK Go.Proofs.Ytanhibhcmfmeeaa.Ex
open Go.Proofs.Ytanhibhcmfmeeaa.Win (St P2 startF)
open Go.Proofs.Ytanhibhcmfmeeaa.Se (L4 S4)
attribute [local go_sem high] eqRec
def failE : Ex := .mk 6 0 [.mk 5 0 [], .mk 9 0 [.mk 1 100 [], .mk 3 0 []]]
theorem fail_may : mayE failE = true := by decide +kernel
/-- Without a value it errs. -/
theorem fail_zero (key time acc : Int) : evalF ⟨key, 0, time, acc⟩ failE = (0, 10) := by
  unfold evalF
  rw [fail_may]
  rfl
abbrev failRow1 : Obj := .cells #[.int .i64 1, .int .i64 100, .slice none 0 0, .int .i64 3, .int .i64 0, .slice none 0 0] 31
abbrev failRow2 (g : Nat) : Obj := .cells #[.int .i64 5, .int .i64 0, .slice none 0 0, .int .i64 9, .int .i64 0, .slice (some ⟨g, 0, none⟩) 2 2] 31
theorem failV {W : World} {g b : Nat} (h1 : W.heap[g]? = some failRow1) (h2 : W.heap[b]? = some (failRow2 g)) : ExV W failE (.agg #[.int .i64 6, .int .i64 0, .slice (some ⟨b, 0, none⟩) 2 2]) := by
  refine ⟨_, _, rfl, by decide, by decide, by decide, ?_⟩
  refine kids_cons (leafR h2 0 rfl rfl rfl (by decide) (by decide)) ?_
  rw [add_plain]
  refine kids_cons ?_ (by unfold KidsR; trivial)
  unfold KidR
  refine ⟨(blk_cell h2 3).trans rfl, ?_, by decide, by decide, by simp, some ⟨g, 0, none⟩, 2, ?_, ?_⟩
  · exact (blk_cell h2 4).trans rfl
  · exact (blk_cell h2 5).trans rfl
  · refine kids_cons (leafR h1 0 rfl rfl rfl (by decide) (by decide)) ?_
    rw [add_plain]
    refine kids_cons (leafR h1 3 rfl rfl rfl (by decide) (by decide)) ?_
    unfold KidsR
    trivial
theorem kindU_cases (k : Int) : kindU k = 6 ∨ kindU k = 7 ∨ kindU k = 8 := by
  unfold kindU
  split
  · exact .inl rfl
  · split
    · exact .inr (.inl rfl)
    · exact .inr (.inr rfl)
theorem bad_apply (n : Int) (t : Tb) (key time : Int) : ∃ er, er ≠ 0 ∧ applyT n failE t key 0 time = ((0, 0, 0), [], er, t) := by
  unfold applyT
  cases h : mayT time with
  | false => exact ⟨2, by decide, by rw [if_pos rfl]⟩
  | true => exact ⟨10, by decide, by rw [if_neg (by decide), fail_zero, if_pos (by decide)]⟩
theorem fail_wf : WfE failE := by
  refine .mk _ _ _ (by decide) fun k hk => ?_
  simp only [List.mem_cons, List.not_mem_nil, or_false] at hk
  rcases hk with rfl | rfl
  · exact .mk _ _ _ (by decide) (by simp)
  · refine .mk _ _ _ (by decide) fun k hk => ?_
    simp only [List.mem_cons, List.not_mem_nil, or_false] at hk
    rcases hk with rfl | rfl
    · exact .mk _ _ _ (by decide) (by simp)
    · exact .mk _ _ _ (by decide) (by simp)
abbrev recRow3 (key val time : Int) : Obj := .cells #[.int .i64 key, .int .i64 val, .int .i64 time] 36
def FaR (w3 wx : World) (a1 a2 : Nat) (n : Int) (t : Tb) : Prop := ∃ F1 F2, Two w3 wx a1 a2 n failE t t F1 F2
set_option maxRecDepth 100000 in
set_option maxHeartbeats 16000000 in
theorem fails_walk (kd : Int) (hk0 : 0 ≤ kd ∧ kd ≤ 255) (n : Int) (hn0 : 0 ≤ n ∧ n ≤ 255) (A : Option Addr) (c : Nat) (l : List R3) (A' : Option Addr) (c' : Nat) (l' : List R3) (w : World)
    (hC : KRec.C w A l.length l) (hW : ∀ x ∈ l, Ex.W64 x.1 ∧ Ex.W64 x.2.1 ∧ Ex.W64 x.2.2) (hC' : KRec.C w A' l'.length l') (hW' : ∀ x ∈ l', Ex.W64 x.1) :
    Calls Try.prog 5 #[.int .u8 kd, .int .u8 n, .slice A l.length c, .slice A' l'.length c'] w fun e w' => e = .returned (.bool true) ∧ Below w.heap.size w w' := by
  have hsh := shown_calls w
  have hlm : l.length ≤ 9223372036854775807 := hC.2.1
  have hlm' : l'.length ≤ 9223372036854775807 := hC'.2.1
  have HC := Lib.hid (And.intro hC hC'); have HW := Lib.hid (And.intro hW hW')
  obtain ⟨m, hm⟩ : ∃ m, m = l.length := ⟨_, rfl⟩
  obtain ⟨m', hm'⟩ : ∃ m', m' = l'.length := ⟨_, rfl⟩
  rw [← hm, ← hm'] at HC
  rw [← hm] at hlm ⊢
  rw [← hm'] at hlm' ⊢
  clear hC hC' hW hW' hm hm'
  go_enter Try.func5, Try.ntmps5
  go_wp2_with fail
  refine hsh.mono ?_
  rintro e w1 ⟨rfl, hB1⟩
  have hu := usual_b kd n hk0 hn0 w1
  have HB1 := Lib.hid hB1
  clear hsh hB1
  go_wp2_with fail
  refine hu.mono ?_
  rintro e w2 ⟨q, rfl, hq, hqs, hB2⟩
  have hkc := kindU_cases kd
  obtain ⟨kk, hkk⟩ : ∃ kk, kk = kindU kd := ⟨_, rfl⟩
  rw [← hkk] at hkc ⊢
  have HK := Lib.hid (And.intro hkk hkc)
  obtain ⟨W3, hW3, hB3, hs3, h0, h1, h2⟩ := three_rows w2 (.cells #[.int .i64 kk, .slice none 0 0, .int .i64 6, .int .i64 0, .slice (some ⟨w2.heap.size + 1 + 1, 0, none⟩) 2 2, .int .i64 (1 + n)] 33) failRow1 (failRow2 (w2.heap.size + 1))
  have hv : VxV W3 kk (1 + n) failE (.agg #[.int .i64 kk, .slice none 0 0, .int .i64 6, .int .i64 0, .slice (some ⟨w2.heap.size + 1 + 1, 0, none⟩) 2 2, .int .i64 (1 + n)]) := ⟨none, 0, 0, some ⟨w2.heap.size + 1 + 1, 0, none⟩, 2, rfl, failV h1 h2⟩
  have hnew1 := new_o hv (Below.refl _ _) HK.out.2 (fun _ => ⟨by omega, by omega⟩) fail_may
  have HB3 := Lib.hid (below_then (below_then HB1.out HB1.out.size hB2) (below_then HB1.out HB1.out.size hB2).size hB3)
  obtain ⟨v0, v1, v2, v3, v4, v5⟩ : W3.cell? ⟨w2.heap.size, 0, none⟩ = some (.int .i64 kk) ∧ W3.cell? ⟨w2.heap.size, 1, none⟩ = some (.slice none 0 0) ∧ W3.cell? ⟨w2.heap.size, 2, none⟩ = some (.int .i64 6) ∧ W3.cell? ⟨w2.heap.size, 3, none⟩ = some (.int .i64 0) ∧ W3.cell? ⟨w2.heap.size, 4, none⟩ = some (.slice (some ⟨w2.heap.size + 1 + 1, 0, none⟩) 2 2) ∧ W3.cell? ⟨w2.heap.size, 5, none⟩ = some (.int .i64 (1 + n)) := ⟨(blk_cell h0 0).trans rfl, (blk_cell h0 1).trans rfl, (blk_cell h0 2).trans rfl, (blk_cell h0 3).trans rfl, (blk_cell h0 4).trans rfl, (blk_cell h0 5).trans rfl⟩
  have HV := Lib.hid hv; have HW3 := Lib.hid hW3
  clear hu hq hqs hB2 HB1 hkk hkc hW3 hB3 hs3 h0 h1 h2 hv
  go_upto_region 4 with fail
  rw [← HW3.out]
  go_wp2_with fail
  refine hnew1.mono ?_
  rintro e w4 ⟨a1, F1, rfl, hA1, _, _, hB4⟩
  have hnew2 := new_o HV.out hB4 HK.out.2 (fun _ => ⟨by omega, by omega⟩) fail_may
  obtain ⟨u0, u1, u2, u3, u4, u5⟩ : w4.cell? ⟨w2.heap.size, 0, none⟩ = some (.int .i64 kk) ∧ w4.cell? ⟨w2.heap.size, 1, none⟩ = some (.slice none 0 0) ∧ w4.cell? ⟨w2.heap.size, 2, none⟩ = some (.int .i64 6) ∧ w4.cell? ⟨w2.heap.size, 3, none⟩ = some (.int .i64 0) ∧ w4.cell? ⟨w2.heap.size, 4, none⟩ = some (.slice (some ⟨w2.heap.size + 1 + 1, 0, none⟩) 2 2) ∧ w4.cell? ⟨w2.heap.size, 5, none⟩ = some (.int .i64 (1 + n)) := ⟨keepB hB4 v0, keepB hB4 v1, keepB hB4 v2, keepB hB4 v3, keepB hB4 v4, keepB hB4 v5⟩
  have HA1 := Lib.hid hA1
  clear hnew1 v0 v1 v2 v3 v4 v5 hA1 hB4 HW3
  go_wp2_with fail
  refine hnew2.mono ?_
  rintro e w5 ⟨a2, F2, rfl, hA2, hF2, ha2, hB5⟩
  have HT := Lib.hid (show FaR W3 w5 a1 a2 (1 + n) (emptyT kk) from ⟨F1, F2, Two.start HA1.out hB5 hA2 hF2 ha2⟩)
  have HE := Lib.hid (And.intro (empty_len kk) (empty_vw kk))
  clear hnew2 u0 u1 u2 u3 u4 u5 hA2 hF2 ha2 hB5 HA1
  go_wp2_with fail
  go_loopw [15] (fun u15 wr => ∃ (j : Nat) (t : Tb), j ≤ m ∧ u15 = .int .i64 j ∧ t.len ≤ j ∧ j ≤ 100 ∧ t.Vw ∧ FaR W3 wr a1 a2 (1 + n) t) (fun u15 _ => m - (intOf u15).toNat)
  case atStart => exact ⟨0, emptyT kk, Nat.zero_le _, rfl, by rw [HE.out.1]; exact Nat.le_refl _, by decide, HE.out.2, HT.out⟩
  case round =>
    obtain ⟨j, t, hj, rfl, htl, hj2, hvw, hT⟩ := hrel
    clear HT HE
    by_cases hlt : j < m ∧ j < 100
    · obtain ⟨hl1, hl2⟩ := hlt
      have hli : (j : Int) < (m : Int) := by omega
      have hl2i : (j : Int) < 100 := by omega
      have HT := Lib.hid hT; have HV := Lib.hid hvw
      clear hT hvw
      go_upto_if 75 with fail
      go_cut [16] (fun _ wx => FaR W3 wx a1 a2 (1 + n) t)
      case first =>
        by_cases hjm : j < m'
        · have hji : (j : Int) < (m' : Int) := by omega
          obtain ⟨F1, F2, h2⟩ := HT.out
          have hBr := below_then HB3.out HB3.out.size h2.o1.low
          obtain ⟨ad, ⟨bk, bv, bt⟩, rfl, hx, d0, d1, d2⟩ := at_R3 (Kd.C_below HC.out.2 hBr) j hjm
          have hwk : Ex.W64 bk := HW.out.2 _ (List.mem_of_getElem? hx)
          obtain ⟨W1, hW1⟩ : ∃ W, W = wr.alloc (recRow3 bk 0 bt) := ⟨_, rfl⟩
          have hb1 : Below wr.heap.size wr W1 := by rw [hW1]; exact below_alloc (Below.refl _ _) _
          have hr1 : W1.heap[wr.heap.size]? = some (recRow3 bk 0 bt) := by rw [hW1]; exact (Go.MapKept.heap_alloc wr _).1
          have b0 : W1.cell? ⟨wr.heap.size, 0, none⟩ = some (.int .i64 bk) := (blk_cell hr1 0).trans rfl
          have b1 : W1.cell? ⟨wr.heap.size, 1, none⟩ = some (.int .i64 0) := (blk_cell hr1 1).trans rfl
          have b2 : W1.cell? ⟨wr.heap.size, 2, none⟩ = some (.int .i64 bt) := (blk_cell hr1 2).trans rfl
          obtain ⟨er, her, hap⟩ := bad_apply (1 + n) t bk bt
          have ha := apply_o (h2.o2.below hb1) HV.out bk 0 bt hwk (w64_of (by decide))
          rw [hap] at ha
          have ha : Calls Try.prog 12 #[.pointer (some ⟨a2, 0, none⟩), .agg #[.int .i64 bk, .int .i64 0, .int .i64 bt]] W1 (fun e w' => ∃ sl F', e = .returned (.tuple #[.agg #[.int .i64 0, .int .i64 0, .int .i64 0], sl, .int .i64 er]) ∧ Row5 w' W1.heap.size sl [] ∧ AgO W3 w' a2 (1 + n) failE t F' ∧ Mv W1 w' F2 F') := ha
          have hbe : (er == 0) = false := beq_eq_false_iff_ne.2 her
          have H2 := Lib.hid (h2.below hb1); have HW1 := Lib.hid hW1
          simp only at d0 d1 d2
          clear h2 hBr hx hwk hW1 hb1 hr1 her hap
          go_upto_region 14 with fail
          rw [← HW1.out]
          go_wp2_with fail
          refine ha.mono ?_
          rintro e w6 ⟨sl, F2', rfl, hR, hO, hM⟩
          obtain ⟨A6, c6, hsl, _, _⟩ := Kd.R_reads hR
          have hsl : sl = .slice A6 0 c6 := hsl
          subst hsl
          have HF := Lib.hid (show FaR W3 w6 a1 a2 (1 + n) t from ⟨F1, F2', H2.out.two hO hM⟩)
          clear ha hR hO hM H2 HW1 b0 b1 b2 d0 d1 d2
          go_wp2_with fail
          go_meet
          case rel =>
            obtain ⟨G1, G2, h⟩ := HF.out
            exact ⟨G1, G2, h.below (below_alloc (Below.refl _ _) _)⟩
        · have hji : (m' : Int) ≤ (j : Int) := by omega
          go_wp2_with fail
          go_meet
          case rel => exact HT.out
      case rest =>
        rename World => wx
        obtain ⟨F1, F2, h2⟩ := hcut
        have hBx := below_then HB3.out HB3.out.size h2.o1.low
        obtain ⟨ad, ⟨rk, rv, rt⟩, rfl, hx, d0, d1, d2⟩ := at_R3 (Kd.C_below HC.out.1 hBx) j hl1
        have hwx := HW.out.1 _ (List.mem_of_getElem? hx)
        obtain ⟨⟨⟨z1, z2, z3⟩, chs, er, t'⟩, hr⟩ : ∃ r, r = applyT (1 + n) failE t rk rv rt := ⟨_, rfl⟩
        have hok := applyT_ok (n := 1 + n) (x := failE) (key := rk) (val := rv) (time := rt) HV.out h2.o1.sd (evalF_w64 (q := ⟨rk, rv, rt, gathT (1 + n) t rk rt⟩) ⟨hwx.1, hwx.2.1, hwx.2.2, gathT_w64 HV.out rk rt⟩ fail_wf)
        rw [← hr] at hok
        have ha1 := apply_o h2.o1 HV.out rk rv rt hwx.1 hwx.2.1
        rw [← hr] at ha1
        have ha1 : Calls Try.prog 12 #[.pointer (some ⟨a1, 0, none⟩), .agg #[.int .i64 rk, .int .i64 rv, .int .i64 rt]] wx (fun e w' => ∃ sl F', e = .returned (.tuple #[.agg #[.int .i64 z1, .int .i64 z2, .int .i64 z3], sl, .int .i64 er]) ∧ Row5 w' wx.heap.size sl chs ∧ AgO W3 w' a1 (1 + n) failE t' F' ∧ Mv wx w' F1 F') := ha1
        have H2 := Lib.hid h2; have HR := Lib.hid hr; have HOK := Lib.hid hok; have HWX := Lib.hid hwx; have HX := Lib.hid hx
        simp only at d0 d1 d2
        clear h2 hBx hx hwx hr hok
        go_wp2_with fail
        refine ha1.mono ?_
        rintro e w6 ⟨sl, F1', rfl, hR1, hO1, hM1⟩
        obtain ⟨W6, hW6⟩ : ∃ W, W = w6.alloc (recRow3 z1 z2 z3) := ⟨_, rfl⟩
        have hb6 : Below w6.heap.size w6 W6 := by rw [hW6]; exact below_alloc (Below.refl _ _) _
        have hp6 : W6.heap[w6.heap.size]? = some (recRow3 z1 z2 z3) := by rw [hW6]; exact (Go.MapKept.heap_alloc w6 _).1
        have h6 := (H2.out.one hO1 hM1).below hb6
        have hB6 := below_then HB3.out HB3.out.size h6.o1.low
        obtain ⟨ad', ⟨yk, yv, yt⟩, had, hx', d0', d1', d2'⟩ := at_R3 (Kd.C_below HC.out.1 hB6) j hl1
        obtain rfl := Option.some.inj had
        rw [HX.out] at hx'
        obtain ⟨rfl, rfl, rfl⟩ : rk = yk ∧ rv = yv ∧ rt = yt := by
          have := Option.some.inj hx'
          simp only [Prod.mk.injEq] at this
          exact this
        have ha2 := apply_o h6.o2 HV.out rk rv rt HWX.out.1 HWX.out.2.1
        rw [← HR.out] at ha2
        have ha2 : Calls Try.prog 12 #[.pointer (some ⟨a2, 0, none⟩), .agg #[.int .i64 rk, .int .i64 rv, .int .i64 rt]] W6 (fun e w' => ∃ sl F', e = .returned (.tuple #[.agg #[.int .i64 z1, .int .i64 z2, .int .i64 z3], sl, .int .i64 er]) ∧ Row5 w' W6.heap.size sl chs ∧ AgO W3 w' a2 (1 + n) failE t' F' ∧ Mv W6 w' F2 F') := ha2
        have H6 := Lib.hid h6; have HW6 := Lib.hid hW6; have HP6 := Lib.hid hp6; have HR1 := Lib.hid (Kd.R_below hR1 hb6); have HM1 := Lib.hid hM1
        simp only at d0' d1' d2'
        clear ha1 d0 d1 d2 hR1 hO1 hM1 hW6 hb6 hp6 h6 hB6 had hx'
        go_upto_region 18 with fail
        rw [← HW6.out]
        go_wp2_with fail
        refine ha2.mono ?_
        rintro e w7 ⟨sl2, F2', rfl, hR2, hO2, hM2⟩
        have hp7 := (hM2.keep w6.heap.size (Array.getElem?_eq_some_iff.1 HP6.out).1 (H6.out.o2.far HP6.out (by decide))).trans HP6.out
        have hR17 := row5_mv HR1.out hM2 (fun k hk => (H2.out.o2.lt k hk).2)
        obtain ⟨W7, hW7⟩ : ∃ W, W = w7.alloc (recRow3 z1 z2 z3) := ⟨_, rfl⟩
        have hb7 : Below w7.heap.size w7 W7 := by rw [hW7]; exact below_alloc (Below.refl _ _) _
        have hq7 : W7.heap[w7.heap.size]? = some (recRow3 z1 z2 z3) := by rw [hW7]; exact (Go.MapKept.heap_alloc w7 _).1
        have hp7' := (hb7.block _ (Array.getElem?_eq_some_iff.1 hp7).1).trans hp7
        obtain ⟨A6, c6, rfl, hc6, hC6⟩ := Kd.R_reads (Kd.R_below hR17 hb7)
        obtain ⟨A7, c7, rfl, hc7, hC7⟩ := Kd.R_reads (Kd.R_below hR2 hb7)
        have hch := changes_calls hC6 hc6 hC7 hc7 (by have := HOK.out.2.2; omega)
        rw [decide_eq_true rfl] at hch
        have p0 : W7.cell? ⟨w6.heap.size, 0, none⟩ = some (.int .i64 z1) := (blk_cell hp7' 0).trans rfl
        have p1 : W7.cell? ⟨w6.heap.size, 1, none⟩ = some (.int .i64 z2) := (blk_cell hp7' 1).trans rfl
        have p2 : W7.cell? ⟨w6.heap.size, 2, none⟩ = some (.int .i64 z3) := (blk_cell hp7' 2).trans rfl
        have q0 : W7.cell? ⟨w7.heap.size, 0, none⟩ = some (.int .i64 z1) := (blk_cell hq7 0).trans rfl
        have q1 : W7.cell? ⟨w7.heap.size, 1, none⟩ = some (.int .i64 z2) := (blk_cell hq7 1).trans rfl
        have q2 : W7.cell? ⟨w7.heap.size, 2, none⟩ = some (.int .i64 z3) := (blk_cell hq7 2).trans rfl
        have H7 := Lib.hid ((H6.out.two hO2 hM2).below hb7); have HW7 := Lib.hid hW7
        clear ha2 d0' d1' d2' hR2 hO2 hM2 hp7 hR17 hW7 hb7 hq7 hp7' hC6 hC7 HR1 HM1 HP6 HW6 H6 H2
        go_upto_region 19 with fail
        rw [← HW7.out]
        go_wp2_with ((with_reducible refine hch.mono ?_); rintro e w8 ⟨rfl, q, rfl⟩)
        go_roundw
        case rel => exact ⟨j + 1, t', by omega, by go_num, by have := HOK.out.2.1; omega, by omega, HOK.out.1, F1', F2', H7.out.below (pw_below_drewN (Below.refl _ _) _)⟩
        case measure => simp [intOf]; omega
    · obtain ⟨F1, F2, h2⟩ := hT
      have hl1 := list_o h2.o1
      have hl2 := fun V (hV : Below wr.heap.size wr V) => list_o (h2.o2.below hV)
      have hBr := below_then HB3.out HB3.out.size h2.o1.low
      have hlen : (listT (1 + n) t).length ≤ 1000000 := by rw [listT_len]; omega
      unfold ListR at hl1 hl2
      generalize listT (1 + n) t = ys at hl1 hl2 hlen
      have HL2 := Lib.hid hl2; have HB := Lib.hid hBr
      clear h2 hl2 hBr hvw
      by_cases hk1 : j < m
      all_goals
        try have hk2 : (100 : Int) ≤ (j : Int) := by omega
        try have hk3 : (m : Int) ≤ (j : Int) := by omega
        try have hk4 : (j : Int) < (m : Int) := by omega
        clear hlt
        go_wp2_with fail
        refine hl1.mono ?_
        rintro e w6 ⟨u, rfl, hR6, hB6⟩
        have hl2 := HL2.out w6 hB6
        have HR6 := Lib.hid hR6; have HB6 := Lib.hid (below_then HB.out HB.out.size hB6)
        clear hl1 hR6 hB6
        go_wp2_with fail
        refine hl2.mono ?_
        rintro e w7 ⟨u', rfl, hR7, hB7⟩
        obtain ⟨A6, c6, rfl, hc6, hC6⟩ := Kd.R_reads (Kd.R_below HR6.out hB7)
        obtain ⟨A7, c7, rfl, hc7, hC7⟩ := Kd.R_reads hR7
        have hch := changes_calls hC6 hc6 hC7 hc7 hlen
        rw [decide_eq_true rfl] at hch
        have HB7 := Lib.hid (below_then HB6.out HB6.out.size hB7)
        clear hl2 hR7 hB7 hC6 hC7
        go_wp2_with ((with_reducible refine hch.mono ?_); rintro e w8 ⟨rfl, q, rfl⟩)
        go_ret
        exact ⟨rfl, pw_below_drewN HB7.out _⟩
end Go.Proofs.Ytanhibhcmfmeeaa.Ag

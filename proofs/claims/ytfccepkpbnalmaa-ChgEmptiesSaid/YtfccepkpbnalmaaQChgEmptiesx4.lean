-- Written by a turned copy of the print, with contracts that this session proved by hand.
import Derived.Test.YtfccepkpbnalmaaPChgEmptiesx0
import Derived.Test.YtfccepkpbnalmaaPChgEmptiesx3
namespace Go.Proofs.Ytfccepkpbnalmaa.PChgEmpties
open Go.RowKit Go.Proofs.YtfccepkpbnalmaaW.PrintWords Go.Proofs.YtfccepkpbnalmaaW.PrintLast Go.Proofs.YtfccepkpbnalmaaW.PrintMore
attribute [local go_sem] max2_int min2_int max_two min_two max_three min_three max_four min_four   -- for this text's walks alone
set_option linter.unusedVariables false
set_option linter.unusedSimpArgs false

/-! ### tidemilllaw15_ChgEmpties: function 5 -/
mutual
def tidemilllaw15_ChgEmpties.l0 : Nat → List (S30) → Int → Bool → List (S30) → Int → Option (Bool)
  | 0, _, _, _, _, _ => none
  | k + 1, x0, x1, x5, x6, x7 => if x7 < (x0.length : Int) then (if 0 ≤ x7 then (if ((rd_T30 x0 x7).f0) = x1 then (if x6.length < 3518437208883 then (tidemilllaw15_ChgEmpties.l0 k x0 x1 x5 (x6 ++ [(⟨(rd_T30 x0 x7).f0, (rd_T30 x0 x7).f1, (rd_T30 x0 x7).f2, (rd_T30 x0 x7).f3, true⟩ : S30)]) (wrap64 (x7 + 1))) else (none)) else (tidemilllaw15_ChgEmpties.l0 k x0 x1 x5 x6 (wrap64 (x7 + 1)))) else (none)) else ((chg_Last.f x0).bind fun t145 => ((chg_Last.f x6).bind fun t148 => (tidemilllaw15_ChgEmpties.l1 k x1 x5 t145 t148 ([] : List (S30)) 0)))
def tidemilllaw15_ChgEmpties.l1 : Nat → Int → Bool → List (S30) → List (S30) → List (S30) → Int → Option (Bool)
  | 0, _, _, _, _, _, _ => none
  | k + 1, x1, x5, x9, x10, x11, x12 => if x12 < (x9.length : Int) then (if 0 ≤ x12 then (if ((rd_T30 x9 x12).f0) = x1 then (tidemilllaw15_ChgEmpties.l1 k x1 x5 x9 x10 x11 (wrap64 (x12 + 1))) else (if x11.length < 3518437208883 then (tidemilllaw15_ChgEmpties.l1 k x1 x5 x9 x10 (x11 ++ [(⟨(rd_T30 x9 x12).f0, (rd_T30 x9 x12).f1, (rd_T30 x9 x12).f2, (rd_T30 x9 x12).f3, (rd_T30 x9 x12).f4⟩ : S30)]) (wrap64 (x12 + 1))) else (none))) else (none)) else (if x5 = true then ((tidemillref12_Changes.f k x10 x11).bind fun t156 => (some t156)) else (some false))
end
def tidemilllaw15_ChgEmpties.f (k : Nat) (l0 : List (S30)) (a1 : Int) : Option (Bool) := (tidemilllaw15_shown.f k).bind fun t129 => ((tidemilllaw15_few.f l0).bind fun t130 => ((some (([] : List (S30)) : List (S30))).bind fun y133 => (if y133.length + t130.length < 3518437208883 then (tidemilllaw15_ChgEmpties.l0 k t130 a1 t129 (y133 ++ t130) 0) else (none))))
theorem tidemilllaw15_ChgEmpties.mono_l : ∀ k, (∀ y0 y1 y2 y3 y4, LeO (tidemilllaw15_ChgEmpties.l0 k y0 y1 y2 y3 y4) (tidemilllaw15_ChgEmpties.l0 (k + 1) y0 y1 y2 y3 y4)) ∧ (∀ y0 y1 y2 y3 y4 y5, LeO (tidemilllaw15_ChgEmpties.l1 k y0 y1 y2 y3 y4 y5) (tidemilllaw15_ChgEmpties.l1 (k + 1) y0 y1 y2 y3 y4 y5))
  | 0 => ⟨fun _ _ _ _ _ r h => by simp [tidemilllaw15_ChgEmpties.l0] at h, fun _ _ _ _ _ _ r h => by simp [tidemilllaw15_ChgEmpties.l1] at h⟩
  | k + 1 => by
    obtain ⟨ih0, ih1⟩ := tidemilllaw15_ChgEmpties.mono_l k
    refine ⟨?_, ?_⟩
    · intro y0 y1 y2 y3 y4
      unfold tidemilllaw15_ChgEmpties.l0
      repeat' first
      | (with_reducible exact ih0 _ _ _ _ _)
      | (with_reducible exact ih1 _ _ _ _ _ _)
      | (with_reducible exact tidemilllaw15_shown.mono _)
      | (with_reducible exact tidemillref12_Changes.mono _ _ _)
      | (with_reducible exact LeO.refl _)
      | (with_reducible exact LeO.none _)
      | (with_reducible refine LeO.ite ?_ ?_)
      | (with_reducible refine LeO.bind ?_ (fun _ => ?_))
      | exact ih0 _ _ _ _ _
      | exact ih1 _ _ _ _ _ _
      | exact tidemilllaw15_shown.mono _
      | exact tidemillref12_Changes.mono _ _ _
      | exact LeO.none _
      | refine LeO.ite ?_ ?_
      | refine LeO.bind ?_ (fun _ => ?_)
    · intro y0 y1 y2 y3 y4 y5
      unfold tidemilllaw15_ChgEmpties.l1
      repeat' first
      | (with_reducible exact ih0 _ _ _ _ _)
      | (with_reducible exact ih1 _ _ _ _ _ _)
      | (with_reducible exact tidemilllaw15_shown.mono _)
      | (with_reducible exact tidemillref12_Changes.mono _ _ _)
      | (with_reducible exact LeO.refl _)
      | (with_reducible exact LeO.none _)
      | (with_reducible refine LeO.ite ?_ ?_)
      | (with_reducible refine LeO.bind ?_ (fun _ => ?_))
      | exact ih0 _ _ _ _ _
      | exact ih1 _ _ _ _ _ _
      | exact tidemilllaw15_shown.mono _
      | exact tidemillref12_Changes.mono _ _ _
      | exact LeO.none _
      | refine LeO.ite ?_ ?_
      | refine LeO.bind ?_ (fun _ => ?_)
theorem tidemilllaw15_ChgEmpties.mono : ∀ a0 a1 k, LeO (tidemilllaw15_ChgEmpties.f k a0 a1) (tidemilllaw15_ChgEmpties.f (k + 1) a0 a1) := by
  intro a0 a1 k
  obtain ⟨ih0, ih1⟩ := tidemilllaw15_ChgEmpties.mono_l k
  unfold tidemilllaw15_ChgEmpties.f
  repeat' first
      | (with_reducible exact ih0 _ _ _ _ _)
      | (with_reducible exact ih1 _ _ _ _ _ _)
      | (with_reducible exact tidemilllaw15_shown.mono _)
      | (with_reducible exact tidemillref12_Changes.mono _ _ _)
      | (with_reducible exact LeO.refl _)
      | (with_reducible exact LeO.none _)
      | (with_reducible refine LeO.ite ?_ ?_)
      | (with_reducible refine LeO.bind ?_ (fun _ => ?_))
      | exact ih0 _ _ _ _ _
      | exact ih1 _ _ _ _ _ _
      | exact tidemilllaw15_shown.mono _
      | exact tidemillref12_Changes.mono _ _ _
      | exact LeO.none _
      | refine LeO.ite ?_ ?_
      | refine LeO.bind ?_ (fun _ => ?_)
set_option maxHeartbeats 8000000 in
set_option maxRecDepth 100000 in
theorem tidemilllaw15_ChgEmpties.calls (k : Nat) (A0 : Option Addr) (c0 : Nat) (l0 : List (S30)) (a1 : Int) (r : Bool) (w : World) (hr0 : Kd.C k30 w A0 l0.length l0) (hc0 : l0.length ≤ c0) (h : tidemilllaw15_ChgEmpties.f k l0 a1 = some r) :
    Calls Try.prog 5 #[.slice A0 l0.length c0, .int .i64 a1] w fun e w' => e = .returned (.bool r) ∧ Below w.heap.size w w' := by
  have hu30 := Try.underlying30
  have HR0 := Aside0.mk hr0
  have HC0 := Aside0.mk hc0
  clear hr0 hc0
  have HB := Aside0.mk (Below.refl w.heap.size w)
  have H : ((tidemilllaw15_shown.f k).bind fun t129 => ((tidemilllaw15_few.f l0).bind fun t130 => ((some (([] : List (S30)) : List (S30))).bind fun y133 => (if y133.length + t130.length < 3518437208883 then (tidemilllaw15_ChgEmpties.l0 k t130 a1 t129 (y133 ++ t130) 0) else (none))))) = some r := h
  clear h
  replace H := Option.bind_eq_some_iff.mp H
  obtain ⟨t129, A30, H⟩ := H
  replace H : ((tidemilllaw15_few.f l0).bind fun t130 => ((some (([] : List (S30)) : List (S30))).bind fun y133 => (if y133.length + t130.length < 3518437208883 then (tidemilllaw15_ChgEmpties.l0 k t130 a1 t129 (y133 ++ t130) 0) else (none)))) = some r := H
  have A3 := Aside0.mk A30
  clear A30
  replace H := Option.bind_eq_some_iff.mp H
  obtain ⟨t130, A40, H⟩ := H
  replace H : ((some (([] : List (S30)) : List (S30))).bind fun y133 => (if y133.length + t130.length < 3518437208883 then (tidemilllaw15_ChgEmpties.l0 k t130 a1 t129 (y133 ++ t130) 0) else (none))) = some r := H
  have A4 := Aside0.mk A40
  clear A40
  obtain ⟨y133, hy133⟩ : ∃ y_ : List (S30), y_ = (([] : List (S30))) := ⟨_, rfl⟩
  replace H : (if y133.length + t130.length < 3518437208883 then (tidemilllaw15_ChgEmpties.l0 k t130 a1 t129 (y133 ++ t130) 0) else (none)) = some r := by first | (rw [hy133]; with_reducible exact H) | (have H2_ := (Option.bind_some _ _).symm.trans H; rw [hy133]; with_reducible exact H2_) | (have H2_ := (Option.bind_some _ _).symm.trans H; with_reducible exact H2_) | with_reducible exact H | (rw [hy133]; exact H) | exact H
  have Ny133 := Aside0.mk hy133
  clear hy133
  by_cases c5 : y133.length + t130.length < 3518437208883
  · rw [if_pos c5] at H
    have LMc5 := Aside0.mk c5
    clear c5
    obtain ⟨y136, hy136⟩ : ∃ y_ : List (S30), y_ = (y133 ++ t130) := ⟨_, rfl⟩
    replace H : (tidemilllaw15_ChgEmpties.l0 k t130 a1 t129 y136 0) = some r := by first | (rw [hy136]; with_reducible exact H) | (have H2_ := (Option.bind_some _ _).symm.trans H; rw [hy136]; with_reducible exact H2_) | (have H2_ := (Option.bind_some _ _).symm.trans H; with_reducible exact H2_) | with_reducible exact H | (rw [hy136]; exact H) | exact H
    have Ny136 := Aside0.mk hy136
    clear hy136
    have H' := Aside0.mk H
    clear H
    go_enter Try.func5, Try.ntmps5
    go_wp2_with (first | ((with_reducible refine gate_callee (f := 7) rfl ?_); refine goesL_ (some 13) rfl rfl Try.func7 (by kernel_rfl) rfl #[] rfl (by (try simp only [List.map_toArray, List.map_cons, List.map_nil]); first | done | rfl | (simp only [List.length_drop, List.length_take]; rfl)) ?_; (with_reducible refine (tidemilllaw15_shown.calls k  t129 _ A3.out).mono ?_); rintro e w6 ⟨rfl, hb⟩; refine ⟨_, rfl, ?_⟩; have n0_ := Aside0.mk (below_step (by repeat (first | (with_reducible first | exact HB.out | apply below_alloc | apply pw_below_drewN | apply below_drew1) | exact HB.out)) hb); clear HB; have HB := n0_; clear n0_; (try clear hb); (try clear hb2); (try clear hk); (try clear hi)) | ((with_reducible refine gate_callee (f := 8) rfl ?_); refine goesL_ (some 15) rfl rfl Try.func8 (by kernel_rfl) rfl #[.slice A0 l0.length c0] rfl (by (try simp only [List.map_toArray, List.map_cons, List.map_nil]); first | done | rfl | (simp only [List.length_drop, List.length_take]; rfl)) ?_; (with_reducible refine (tidemilllaw15_few.calls (fun k_ => k_ < w.heap.size) _ _ l0 t130 _ ?side1 A4.out).mono ?_); (case side1 => exact Kd.V_mk HC0.out (Kd.F_below (Kd.C_F k30_heap HR0.out) (by repeat (first | (with_reducible first | exact HB.out | apply below_alloc | apply pw_below_drewN | apply below_drew1) | exact HB.out)))); rintro e w7 ⟨v131, rfl, ho0, hb⟩; refine ⟨_, rfl, ?_⟩; have n0_ := Aside0.mk (Kd.V_lower (Kd.V_mono (ok' := fun k_ => True) ho0 (fun k_ hk_ => trivial)) (below_size (by repeat (first | (with_reducible first | exact HB.out | apply below_alloc | apply pw_below_drewN | apply below_drew1) | exact HB.out)))); have n1_ := Aside0.mk (below_step (by repeat (first | (with_reducible first | exact HB.out | apply below_alloc | apply pw_below_drewN | apply below_drew1) | exact HB.out)) hb); clear HB; have HO132 := n0_; have HB := n1_; clear n0_ n1_; (try clear hb); (try clear hb2); (try clear hk); (try clear hi); (try clear ho0)) | ((with_reducible refine gate_dst (N := 16) rfl ?_); refine Kd.R_lit k30 _ 30 ?hg (N := 16) ?hd (xs := ([] : List (S30))) (inner := []) (ok := fun _ => True) (okp := fun _ => True) ?hr ?hp (fun _ hk => hk) trivial (Below.refl _ _) (Nat.le_refl _) (by simp) ?_; (case hd => rfl); (case hg => rfl); (case hr => first | (go_simp; done) | (go_simp; rfl)); (case hp => exact (Reps.none _ _)); intro v134 w8 ho9 hb hg_ hnew_; clear hg_ hnew_; (first | rw [← Ny133.out] at ho9 | (simp only [Int.reduceToNat] at ho9; rw [← Ny133.out] at ho9)); have n0_ := Aside0.mk (Kd.V_elder' (by (with_reducible repeat (first | apply Kd.V_alloc | apply Kd.V_drewN | apply Kd.V_drew)); exact HO132.out) (Kd.R_base ho9) hb); have n1_ := Aside0.mk (Kd.R_lower ho9 (below_size (by repeat (first | (with_reducible first | exact HB.out | apply below_alloc | apply pw_below_drewN | apply below_drew1) | exact HB.out)))); have n2_ := Aside0.mk (below_step (by repeat (first | (with_reducible first | exact HB.out | apply below_alloc | apply pw_below_drewN | apply below_drew1) | exact HB.out)) hb); clear HO132; clear HB; have HO132 := n0_; have HO135 := n1_; have HB := n2_; clear n0_ n1_ n2_; clear hb ho9; obtain ⟨Ao11, co11, eo11⟩ := Kd.V_slice HO132.out; subst eo11) | ((with_reducible refine gate_builtin (b := .append) (xs := #[.tmp 16, .tmp 17]) rfl ?_); at_builtin; refine Kd.R_append_rows k30 (w0 := w) w.heap.size rfl (.tmp 16) (.tmp 17) 22 30 (.agg #[(.int .i64 0), (.int .i64 0), (.int .i64 0), (.int .i64 0), (.bool false)]) 40 rfl Try.underlying22 info30 rfl (by decide) (by omega) v134 y133 t130 _ _ _ (fun _ => True) (fun _ => False) rfl rfl ?aO ?aR (fun _ _ h => h) (fun _ h => h.elim) ?aF ?aB ?aS ?aL ?_; (case aR => repeat (first | exact (Kd.V_reads' HO132.out).2.2 | (with_reducible refine Kd.C_alloc ?_ _) | (with_reducible refine Kd.C_drewN ?_ _) | (with_reducible refine Kd.C_drew ?_))); (case aB => exact (by repeat (first | (with_reducible first | exact HB.out | apply below_alloc | apply pw_below_drewN | apply below_drew1) | exact HB.out))); (case aF => exact (fun _ _ => trivial)); (case aO => exact (by (with_reducible repeat (first | apply Kd.R_alloc | apply Kd.R_drewN | apply Kd.R_drew)); exact HO135.out)); (case aS => exact (below_size (by repeat (first | (with_reducible first | exact HB.out | apply below_alloc | apply pw_below_drewN | apply below_drew1) | exact HB.out)))); (case aL => have := LMc5.out; omega); intro v137 w10 ho hb hg hat; rw [← Ny136.out] at ho; have n0_ := Aside0.mk (Kd.V_afterv (ok := (fun _ => True)) (by (with_reducible repeat (first | apply Kd.V_alloc | apply Kd.V_drewN | apply Kd.V_drew)); exact HO132.out) hg hat); have n1_ := Aside0.mk (hb); have n2_ := Aside0.mk (ho); clear HO132; clear HB; clear HO135; have HO132 := n0_; have HB := n1_; have HO138 := n2_; clear n0_ n1_ n2_; clear ho hb hg hat))
    go_loopg [6, 7] k (fun kq v6 v7 w' => ∃ (x6_1 : List (S30)) (x7_1 : Int), v7 = .int .i64 x7_1 ∧ Aside0 (tidemilllaw15_ChgEmpties.l0 kq t130 a1 t129 x6_1 x7_1 = some r) ∧ Aside0 (kq ≤ k) ∧ Aside0 (Kd.V k30 30 w' w.heap.size (fun k_ => some k_ ≠ (v6 : Value).ownBlock) (.slice Ao11 t130.length co11) t130) ∧ Aside0 (Kd.R k30 30 w' w.heap.size (fun _ => True) v6 x6_1) ∧ Aside0 (Below w.heap.size w w'))
    case atStart => exact ⟨(y136), (0), (by first | rfl | (simp; done) | (simp [*]; done)), H', ⟨Nat.le_refl _⟩, ⟨by (with_reducible repeat (first | apply Kd.V_alloc | apply Kd.V_drewN | apply Kd.V_drew)); exact Kd.V_mono HO132.out (fun _ hk => hk.2)⟩, ⟨by (with_reducible repeat (first | apply Kd.R_alloc | apply Kd.R_drewN | apply Kd.R_drew)); exact HO138.out⟩, ⟨by repeat (first | (with_reducible first | exact HB.out | apply below_alloc | apply pw_below_drewN | apply below_drew1) | exact HB.out)⟩⟩
    case round =>
      clear H'
      try clear p2
      try clear c5
      try clear c7
      try clear c8
      obtain ⟨x6_1, x7_1, rfl, HA, HK1, HO_0, HO_6, HB⟩ := hrel
      cases gk with
      | zero => exact absurd HA.out (by simp [tidemilllaw15_ChgEmpties.l0])
      | succ k1 =>
        have H := HA.out
        clear HA
        simp only [tidemilllaw15_ChgEmpties.l0] at H
        by_cases c12 : x7_1 < (t130.length : Int)
        · rw [if_pos c12] at H
          have c12b0 : decide (x7_1 < (t130.length : Int)) = true := decide_eq_true c12
          clear c12
          by_cases c13 : 0 ≤ x7_1
          · rw [if_pos c13] at H
            have c13b0 : decide (0 ≤ x7_1) = true := decide_eq_true c13
            clear c13
            by_cases c14 : ((rd_T30 t130 x7_1).f0) = a1
            · rw [if_pos c14] at H
              have c14b0 : (((rd_T30 t130 x7_1).f0) == a1) = true := beq_iff_eq.mpr c14
              have c14b1 : (((rd_T30 t130 x7_1).f0) != a1) = false := bne_eq_false_iff_eq.mpr c14
              clear c14
              by_cases c15 : x6_1.length < 3518437208883
              · rw [if_pos c15] at H
                have LMc15 := Aside0.mk c15
                clear c15
                obtain ⟨y142, hy142⟩ : ∃ y_ : List (S30), y_ = (x6_1 ++ [(⟨(rd_T30 t130 x7_1).f0, (rd_T30 t130 x7_1).f1, (rd_T30 t130 x7_1).f2, (rd_T30 t130 x7_1).f3, true⟩ : S30)]) := ⟨_, rfl⟩
                replace H : (tidemilllaw15_ChgEmpties.l0 k1 t130 a1 t129 y142 (wrap64 (x7_1 + 1))) = some r := by first | (rw [hy142]; with_reducible exact H) | (have H2_ := (Option.bind_some _ _).symm.trans H; rw [hy142]; with_reducible exact H2_) | (have H2_ := (Option.bind_some _ _).symm.trans H; with_reducible exact H2_) | with_reducible exact H | (rw [hy142]; exact H) | exact H
                have Ny142 := Aside0.mk hy142
                clear hy142
                have H' := Aside0.mk H
                clear H
                have p139 : 0 ≤ (x7_1 : Int) := of_decide_eq_true (by first | (with_reducible assumption) | assumption)
                have q139 : x7_1 < (t130.length : Int) := of_decide_eq_true (by first | (with_reducible assumption) | assumption)
                obtain ⟨ad139, e139, hx139_0, hx139_1, hx139_2, hx139_3, hx139_4⟩ := at_T30 (Kd.V_reads' HO_0.out).2.2 x7_1 p139 q139
                cases e139
                replace p139 := eq_true p139
                replace q139 := eq_true q139
                have p140 : 0 ≤ (x7_1 : Int) := of_decide_eq_true (by first | (with_reducible assumption) | assumption)
                have q140 : x7_1 < (t130.length : Int) := of_decide_eq_true (by first | (with_reducible assumption) | assumption)
                obtain ⟨ad140, e140, hx140_0, hx140_1, hx140_2, hx140_3, hx140_4⟩ := at_T30 (Kd.V_reads' HO_0.out).2.2 x7_1 p140 q140
                obtain rfl : ad139 = ad140 := (by injection e140)
                replace p140 := eq_true p140
                replace q140 := eq_true q140
                go_upto_region 10 with (fail)
                have f0 := Chg.cells_alloc5 wr (rd_T30 t130 x7_1).f0 (rd_T30 t130 x7_1).f1 (rd_T30 t130 x7_1).f2 (rd_T30 t130 x7_1).f3 true 30
                have hR1 := Kd.R_alloc HO_6.out (.cells #[.int .i64 (rd_T30 t130 x7_1).f0, .int .i64 (rd_T30 t130 x7_1).f1, .int .i64 (rd_T30 t130 x7_1).f2, .int .i64 (rd_T30 t130 x7_1).f3, .bool true] 30)
                have hV1 := Kd.V_alloc HO_0.out (.cells #[.int .i64 (rd_T30 t130 x7_1).f0, .int .i64 (rd_T30 t130 x7_1).f1, .int .i64 (rd_T30 t130 x7_1).f2, .int .i64 (rd_T30 t130 x7_1).f3, .bool true] 30)
                have hB1 := below_alloc HB.out (.cells #[.int .i64 (rd_T30 t130 x7_1).f0, .int .i64 (rd_T30 t130 x7_1).f1, .int .i64 (rd_T30 t130 x7_1).f2, .int .i64 (rd_T30 t130 x7_1).f3, .bool true] 30)
                generalize wr.alloc (.cells #[.int .i64 (rd_T30 t130 x7_1).f0, .int .i64 (rd_T30 t130 x7_1).f1, .int .i64 (rd_T30 t130 x7_1).f2, .int .i64 (rd_T30 t130 x7_1).f3, .bool true] 30) = W1 at f0 hR1 hV1 hB1 ⊢
                obtain ⟨f0, f1, f2, f3, f4⟩ := f0
                have HR1 := Aside0.mk hR1
                have HV1 := Aside0.mk hV1
                have HB1 := Aside0.mk hB1
                clear hR1 hV1 hB1 HO_6 HO_0 HB hx139_0 hx139_1 hx139_2 hx139_3 hx139_4
                go_wp2_with (first | ((with_reducible refine gate_builtin (b := .append) (xs := #[.tmp 37, .tmp 39]) rfl ?_); at_builtin; refine Kd.R_append k30 (w0 := w) w.heap.size rfl (.tmp 37) (.tmp 39) 22 30 (.agg #[(.int .i64 0), (.int .i64 0), (.int .i64 0), (.int .i64 0), (.bool false)]) 40 rfl Try.underlying22 info30 rfl (by decide) (by omega) u6 x6_1 (⟨(rd_T30 t130 x7_1).f0, (rd_T30 t130 x7_1).f1, (rd_T30 t130 x7_1).f2, (rd_T30 t130 x7_1).f3, true⟩ : S30) [.int .i64 ((rd_T30 t130 x7_1).f0), .int .i64 ((rd_T30 t130 x7_1).f1), .int .i64 ((rd_T30 t130 x7_1).f2), .int .i64 ((rd_T30 t130 x7_1).f3), .bool true] (fun _ => True) (fun _ => False) rfl rfl (k30_mkM _ _ _ (⟨(rd_T30 t130 x7_1).f0, (rd_T30 t130 x7_1).f1, (rd_T30 t130 x7_1).f2, (rd_T30 t130 x7_1).f3, true⟩ : S30)) (fun _ hk => hk.elim) (fun _ _ => trivial) HR1.out HB1.out (below_size HB1.out) (by have := LMc15.out; omega) ?_; intro v143 w18 ho hb hg hat; rw [← Ny142.out] at ho; have HO_0 := Aside0.mk (Kd.V_afterv (ok := fun _ => True) (Kd.V_mono HV1.out (fun _ hk => ⟨trivial, hk⟩)) hg hat); have HO144 := Aside0.mk ho; have HB := Aside0.mk hb; clear HV1 HR1 HB1 ho hb hg hat))
                go_roundg k1
                case measure => have := HK1.out; omega
                case rel => exact ⟨(y142), (wrap64 (x7_1 + 1)), (by first | rfl | (simp; done) | (simp [*]; done)), H', ⟨by have := HK1.out; omega⟩, ⟨by (with_reducible repeat (first | apply Kd.V_alloc | apply Kd.V_drewN | apply Kd.V_drew)); exact Kd.V_mono HO_0.out (fun _ hk => hk.2)⟩, ⟨by (with_reducible repeat (first | apply Kd.R_alloc | apply Kd.R_drewN | apply Kd.R_drew)); exact Kd.R_mono HO144.out (fun _ hk => trivial)⟩, ⟨by repeat (first | (with_reducible first | exact HB.out | apply below_alloc | apply pw_below_drewN | apply below_drew1 | refine below_set ?_ GE141.out) | exact HB.out)⟩⟩
              · rw [if_neg c15] at H
                exact absurd H (by simp)
            · rw [if_neg c14] at H
              have c14b0 : (((rd_T30 t130 x7_1).f0) == a1) = false := beq_eq_false_iff_ne.mpr c14
              have c14b1 : (((rd_T30 t130 x7_1).f0) != a1) = true := bne_iff_ne.mpr c14
              have H' := Aside0.mk H
              clear H
              have p139 : 0 ≤ (x7_1 : Int) := of_decide_eq_true (by first | (with_reducible assumption) | assumption)
              have q139 : x7_1 < (t130.length : Int) := of_decide_eq_true (by first | (with_reducible assumption) | assumption)
              obtain ⟨ad139, e139, hx139_0, hx139_1, hx139_2, hx139_3, hx139_4⟩ := at_T30 (Kd.V_reads' HO_0.out).2.2 x7_1 p139 q139
              cases e139
              replace p139 := eq_true p139
              replace q139 := eq_true q139
              go_wp2
              go_roundg k1
              case measure => have := HK1.out; omega
              case rel => exact ⟨(x6_1), (wrap64 (x7_1 + 1)), (by first | rfl | (simp; done) | (simp [*]; done)), H', ⟨by have := HK1.out; omega⟩, ⟨by (with_reducible repeat (first | apply Kd.V_alloc | apply Kd.V_drewN | apply Kd.V_drew)); exact HO_0.out⟩, ⟨by (with_reducible repeat (first | apply Kd.R_alloc | apply Kd.R_drewN | apply Kd.R_drew)); exact HO_6.out⟩, ⟨by repeat (first | (with_reducible first | exact HB.out | apply below_alloc | apply pw_below_drewN | apply below_drew1) | exact HB.out)⟩⟩
          · rw [if_neg c13] at H
            exact absurd H (by simp)
        · rw [if_neg c12] at H
          have c12b0 : decide (x7_1 < (t130.length : Int)) = false := decide_eq_false c12
          clear c12
          replace H := Option.bind_eq_some_iff.mp H
          obtain ⟨t145, A190, H⟩ := H
          replace H : ((chg_Last.f x6_1).bind fun t148 => (tidemilllaw15_ChgEmpties.l1 k1 a1 t129 t145 t148 ([] : List (S30)) 0)) = some r := H
          have A19 := Aside0.mk A190
          clear A190
          replace H := Option.bind_eq_some_iff.mp H
          obtain ⟨t148, A200, H⟩ := H
          replace H : (tidemilllaw15_ChgEmpties.l1 k1 a1 t129 t145 t148 ([] : List (S30)) 0) = some r := H
          have A20 := Aside0.mk A200
          clear A200
          have H' := Aside0.mk H
          clear H
          go_wp2_with (first | ((with_reducible refine gate_callee (f := 10) rfl ?_); refine goesL_ (some 42) rfl rfl Try.func10 (by kernel_rfl) rfl #[.slice Ao11 t130.length co11] rfl (by (try simp only [List.map_toArray, List.map_cons, List.map_nil]); first | done | rfl | (simp only [List.length_drop, List.length_take]; rfl)) ?_; (with_reducible refine (chg_Last.calls _ _ t130 t145 _ ?side1 ?side2 A19.out).mono ?_); (case side1 => repeat (first | exact (Kd.V_reads' HO_0.out).2.2 | (with_reducible refine Kd.C_alloc ?_ _) | (with_reducible refine Kd.C_drewN ?_ _) | (with_reducible refine Kd.C_drew ?_))); (case side2 => exact (Kd.V_reads' HO_0.out).2.1); rintro e w21 ⟨v146, rfl, ho0, hb⟩; refine ⟨_, rfl, ?_⟩; have n0_ := Aside0.mk (Kd.V_elder' (by (with_reducible repeat (first | apply Kd.V_alloc | apply Kd.V_drewN | apply Kd.V_drew)); exact HO_0.out) (Kd.R_base ho0) hb); have n1_ := Aside0.mk (Kd.R_elder' (by (with_reducible repeat (first | apply Kd.R_alloc | apply Kd.R_drewN | apply Kd.R_drew)); exact HO_6.out) (Kd.R_base ho0) hb); have n2_ := Aside0.mk (Kd.R_lower (Kd.R_new' ho0 (Kd.R_lt (by (with_reducible repeat (first | apply Kd.R_alloc | apply Kd.R_drewN | apply Kd.R_drew)); exact HO_6.out))) (below_size (by repeat (first | (with_reducible first | exact HB.out | apply below_alloc | apply pw_below_drewN | apply below_drew1) | exact HB.out)))); have n3_ := Aside0.mk (below_step (by repeat (first | (with_reducible first | exact HB.out | apply below_alloc | apply pw_below_drewN | apply below_drew1) | exact HB.out)) hb); clear HO_0; clear HO_6; clear HB; have HO_0 := n0_; have HO_6 := n1_; have HO147 := n2_; have HB := n3_; clear n0_ n1_ n2_ n3_; (try clear hb); (try clear hb2); (try clear hk); (try clear hi); (try clear ho0); obtain ⟨Ao22, co22, eo22⟩ := Kd.R_slice HO_6.out; subst eo22) | ((with_reducible refine gate_callee (f := 10) rfl ?_); refine goesL_ (some 44) rfl rfl Try.func10 (by kernel_rfl) rfl #[.slice Ao22 x6_1.length co22] rfl (by (try simp only [List.map_toArray, List.map_cons, List.map_nil]); first | done | rfl | (simp only [List.length_drop, List.length_take]; rfl)) ?_; (with_reducible refine (chg_Last.calls _ _ x6_1 t148 _ ?side1 ?side2 A20.out).mono ?_); (case side1 => repeat (first | exact (Kd.R_reads' HO_6.out).2.2 | (with_reducible refine Kd.C_alloc ?_ _) | (with_reducible refine Kd.C_drewN ?_ _) | (with_reducible refine Kd.C_drew ?_))); (case side2 => exact (Kd.R_reads' HO_6.out).2.1); rintro e w23 ⟨v149, rfl, ho0, hb⟩; refine ⟨_, rfl, ?_⟩; have n0_ := Aside0.mk (Kd.V_elder' (by (with_reducible repeat (first | apply Kd.V_alloc | apply Kd.V_drewN | apply Kd.V_drew)); exact HO_0.out) (Kd.R_base ho0) hb); have n1_ := Aside0.mk (Kd.R_elder' (by (with_reducible repeat (first | apply Kd.R_alloc | apply Kd.R_drewN | apply Kd.R_drew)); exact HO_6.out) (Kd.R_base ho0) hb); have n2_ := Aside0.mk (Kd.R_elder' (by (with_reducible repeat (first | apply Kd.R_alloc | apply Kd.R_drewN | apply Kd.R_drew)); exact HO147.out) (Kd.R_base ho0) hb); have n3_ := Aside0.mk (Kd.R_lower (Kd.R_new' (Kd.R_new' ho0 (Kd.R_lt (by (with_reducible repeat (first | apply Kd.R_alloc | apply Kd.R_drewN | apply Kd.R_drew)); exact HO_6.out))) (Kd.R_lt (by (with_reducible repeat (first | apply Kd.R_alloc | apply Kd.R_drewN | apply Kd.R_drew)); exact HO147.out))) (below_size (by repeat (first | (with_reducible first | exact HB.out | apply below_alloc | apply pw_below_drewN | apply below_drew1) | exact HB.out)))); have n4_ := Aside0.mk (below_step (by repeat (first | (with_reducible first | exact HB.out | apply below_alloc | apply pw_below_drewN | apply below_drew1) | exact HB.out)) hb); clear HO_0; clear HO_6; clear HO147; clear HB; have HO_0 := n0_; have HO_6 := n1_; have HO147 := n2_; have HO150 := n3_; have HB := n4_; clear n0_ n1_ n2_ n3_ n4_; (try clear hb); (try clear hb2); (try clear hk); (try clear hi); (try clear ho0)))
          go_loopg [11, 12] k1 (fun kq v11 v12 w' => ∃ (x11_2 : List (S30)) (x12_2 : Int), v12 = .int .i64 x12_2 ∧ Aside0 (tidemilllaw15_ChgEmpties.l1 kq a1 t129 t145 t148 x11_2 x12_2 = some r) ∧ Aside0 (kq ≤ k1) ∧ Aside0 (Kd.R k30 30 w' w.heap.size (fun k_ => some k_ ≠ (v149 : Value).ownBlock ∧ some k_ ≠ (v11 : Value).ownBlock) v146 t145) ∧ Aside0 (Kd.R k30 30 w' w.heap.size (fun k_ => some k_ ≠ (v146 : Value).ownBlock ∧ some k_ ≠ (v11 : Value).ownBlock) v149 t148) ∧ Aside0 (Kd.R k30 30 w' w.heap.size (fun k_ => some k_ ≠ (v146 : Value).ownBlock ∧ some k_ ≠ (v149 : Value).ownBlock) v11 x11_2) ∧ Aside0 (Below w.heap.size w w'))
          case atStart => exact ⟨(([] : List (S30))), (0), (by first | rfl | (simp; done) | (simp [*]; done)), H', ⟨Nat.le_refl _⟩, ⟨by (with_reducible repeat (first | apply Kd.R_alloc | apply Kd.R_drewN | apply Kd.R_drew)); exact Kd.R_mono HO147.out (fun _ hk => ⟨hk.2, (by simp [Value.ownBlock])⟩)⟩, ⟨by (with_reducible repeat (first | apply Kd.R_alloc | apply Kd.R_drewN | apply Kd.R_drew)); exact Kd.R_mono HO150.out (fun _ hk => ⟨hk.2, (by simp [Value.ownBlock])⟩)⟩, ⟨by first | exact Kd.R_nil _ _ _ _ _ | exact Kd.N_nil _ _ _ _ _ | exact Kd.V_nil _ _ _ _ _ | exact Kd.Q_nil _ _ _ _ _ | exact Kd.S_nil _ _ _ _ _⟩, ⟨by repeat (first | (with_reducible first | exact HB.out | apply below_alloc | apply pw_below_drewN | apply below_drew1) | exact HB.out)⟩⟩
          case round =>
            clear H'
            try clear c1
            try clear p1
            try clear q1
            try clear hx1
            try clear p2
            try clear c5
            try clear p6
            try clear c7
            try clear c8
            try clear c10
            try clear c12
            try clear c12b0
            try clear c13
            try clear c13b0
            try clear p13
            try clear q13
            try clear hx13
            try clear c14
            try clear c14b0
            try clear c14b1
            try clear p14
            try clear q14
            try clear hx14
            try clear c15
            try clear hcz17_0
            try clear hcz17_1
            try clear hcz17_2
            try clear hcz17_3
            try clear hcz17_4
            try clear hfz17_0
            try clear hfz17_1
            try clear hfz17_2
            try clear hfz17_3
            try clear hfz17_4
            try clear hx139_0
            try clear hx139_1
            try clear hx139_2
            try clear hx139_3
            try clear hx139_4
            try clear hx140_0
            try clear hx140_1
            try clear hx140_2
            try clear hx140_3
            try clear hx140_4
            try clear p139
            try clear p140
            try clear p2
            try clear q139
            try clear q140
            obtain ⟨x11_2, x12_2, rfl, HA, HK2, HO_9, HO_10, HO_11, HB⟩ := hrel
            cases gk with
            | zero => exact absurd HA.out (by simp [tidemilllaw15_ChgEmpties.l1])
            | succ k2 =>
              have H := HA.out
              clear HA
              simp only [tidemilllaw15_ChgEmpties.l1] at H
              by_cases c24 : x12_2 < (t145.length : Int)
              · rw [if_pos c24] at H
                have c24b0 : decide (x12_2 < (t145.length : Int)) = true := decide_eq_true c24
                clear c24
                by_cases c25 : 0 ≤ x12_2
                · rw [if_pos c25] at H
                  have c25b0 : decide (0 ≤ x12_2) = true := decide_eq_true c25
                  clear c25
                  by_cases c26 : ((rd_T30 t145 x12_2).f0) = a1
                  · rw [if_pos c26] at H
                    have c26b0 : (((rd_T30 t145 x12_2).f0) == a1) = true := beq_iff_eq.mpr c26
                    have c26b1 : (((rd_T30 t145 x12_2).f0) != a1) = false := bne_eq_false_iff_eq.mpr c26
                    clear c26
                    have H' := Aside0.mk H
                    clear H
                    obtain ⟨Ao27, co27, eo27⟩ := Kd.R_slice HO_9.out
                    subst eo27
                    have p151 : 0 ≤ (x12_2 : Int) := of_decide_eq_true (by first | (with_reducible assumption) | assumption)
                    have q151 : x12_2 < (t145.length : Int) := of_decide_eq_true (by first | (with_reducible assumption) | assumption)
                    obtain ⟨ad151, e151, hx151_0, hx151_1, hx151_2, hx151_3, hx151_4⟩ := at_T30 (Kd.R_reads' HO_9.out).2.2 x12_2 p151 q151
                    cases e151
                    replace p151 := eq_true p151
                    replace q151 := eq_true q151
                    go_wp2
                    go_roundg k2
                    case measure => have := HK1.out; have := HK2.out; omega
                    case rel => exact ⟨(x11_2), (wrap64 (x12_2 + 1)), (by first | rfl | (simp; done) | (simp [*]; done)), H', ⟨by have := HK1.out; have := HK2.out; omega⟩, ⟨by (with_reducible repeat (first | apply Kd.R_alloc | apply Kd.R_drewN | apply Kd.R_drew)); exact HO_9.out⟩, ⟨by (with_reducible repeat (first | apply Kd.R_alloc | apply Kd.R_drewN | apply Kd.R_drew)); exact HO_10.out⟩, ⟨by (with_reducible repeat (first | apply Kd.R_alloc | apply Kd.R_drewN | apply Kd.R_drew)); exact HO_11.out⟩, ⟨by repeat (first | (with_reducible first | exact HB.out | apply below_alloc | apply pw_below_drewN | apply below_drew1) | exact HB.out)⟩⟩
                  · rw [if_neg c26] at H
                    have c26b0 : (((rd_T30 t145 x12_2).f0) == a1) = false := beq_eq_false_iff_ne.mpr c26
                    have c26b1 : (((rd_T30 t145 x12_2).f0) != a1) = true := bne_iff_ne.mpr c26
                    by_cases c28 : x11_2.length < 3518437208883
                    · rw [if_pos c28] at H
                      have LMc28 := Aside0.mk c28
                      clear c28
                      obtain ⟨y153, hy153⟩ : ∃ y_ : List (S30), y_ = (x11_2 ++ [(⟨(rd_T30 t145 x12_2).f0, (rd_T30 t145 x12_2).f1, (rd_T30 t145 x12_2).f2, (rd_T30 t145 x12_2).f3, (rd_T30 t145 x12_2).f4⟩ : S30)]) := ⟨_, rfl⟩
                      replace H : (tidemilllaw15_ChgEmpties.l1 k2 a1 t129 t145 t148 y153 (wrap64 (x12_2 + 1))) = some r := by first | (rw [hy153]; with_reducible exact H) | (have H2_ := (Option.bind_some _ _).symm.trans H; rw [hy153]; with_reducible exact H2_) | (have H2_ := (Option.bind_some _ _).symm.trans H; with_reducible exact H2_) | with_reducible exact H | (rw [hy153]; exact H) | exact H
                      have Ny153 := Aside0.mk hy153
                      clear hy153
                      have H' := Aside0.mk H
                      clear H
                      obtain ⟨Ao29, co29, eo29⟩ := Kd.R_slice HO_9.out
                      subst eo29
                      have p151 : 0 ≤ (x12_2 : Int) := of_decide_eq_true (by first | (with_reducible assumption) | assumption)
                      have q151 : x12_2 < (t145.length : Int) := of_decide_eq_true (by first | (with_reducible assumption) | assumption)
                      obtain ⟨ad151, e151, hx151_0, hx151_1, hx151_2, hx151_3, hx151_4⟩ := at_T30 (Kd.R_reads' HO_9.out).2.2 x12_2 p151 q151
                      cases e151
                      replace p151 := eq_true p151
                      replace q151 := eq_true q151
                      have p152 : 0 ≤ (x12_2 : Int) := of_decide_eq_true (by first | (with_reducible assumption) | assumption)
                      have q152 : x12_2 < (t145.length : Int) := of_decide_eq_true (by first | (with_reducible assumption) | assumption)
                      obtain ⟨ad152, e152, hx152_0, hx152_1, hx152_2, hx152_3, hx152_4⟩ := at_T30 (Kd.R_reads' HO_9.out).2.2 x12_2 p152 q152
                      obtain rfl : ad151 = ad152 := (by injection e152)
                      replace p152 := eq_true p152
                      replace q152 := eq_true q152
                      go_wp2_with (first | ((with_reducible refine gate_builtin (b := .append) (xs := #[.tmp 58, .tmp 63]) rfl ?_); at_builtin; refine Kd.R_append k30 (w0 := w) w.heap.size rfl (.tmp 58) (.tmp 63) 22 30 (.agg #[(.int .i64 0), (.int .i64 0), (.int .i64 0), (.int .i64 0), (.bool false)]) 40 rfl Try.underlying22 info30 rfl (by decide) (by omega) u11 x11_2 (⟨(rd_T30 t145 x12_2).f0, (rd_T30 t145 x12_2).f1, (rd_T30 t145 x12_2).f2, (rd_T30 t145 x12_2).f3, (rd_T30 t145 x12_2).f4⟩ : S30) [.int .i64 ((rd_T30 t145 x12_2).f0), .int .i64 ((rd_T30 t145 x12_2).f1), .int .i64 ((rd_T30 t145 x12_2).f2), .int .i64 ((rd_T30 t145 x12_2).f3), .bool ((rd_T30 t145 x12_2).f4)] (fun k_ => some k_ ≠ (.slice (some ad151) t145.length co29 : Value).ownBlock ∧ some k_ ≠ (v149 : Value).ownBlock) (fun _ => False) rfl rfl ?aP (fun _ hk => hk.elim) ?aF ?aO ?aB ?aS ?aL ?_; (case aP => exact k30_mkM _ _ _ (⟨(rd_T30 t145 x12_2).f0, (rd_T30 t145 x12_2).f1, (rd_T30 t145 x12_2).f2, (rd_T30 t145 x12_2).f3, (rd_T30 t145 x12_2).f4⟩ : S30)); (case aB => exact (by repeat (first | (with_reducible first | exact HB.out | apply below_alloc | apply pw_below_drewN | apply below_drew1) | exact HB.out))); (case aF => exact (fun k_ hk => ⟨Kd.fresh' (Kd.R_lt (by (with_reducible repeat (first | apply Kd.R_alloc | apply Kd.R_drewN | apply Kd.R_drew)); exact HO_9.out)) k_ hk, Kd.fresh' (Kd.R_lt (by (with_reducible repeat (first | apply Kd.R_alloc | apply Kd.R_drewN | apply Kd.R_drew)); exact HO_10.out)) k_ hk⟩)); (case aO => exact (by (with_reducible repeat (first | apply Kd.R_alloc | apply Kd.R_drewN | apply Kd.R_drew)); exact HO_11.out)); (case aS => exact (below_size (by repeat (first | (with_reducible first | exact HB.out | apply below_alloc | apply pw_below_drewN | apply below_drew1) | exact HB.out)))); (case aL => have := LMc28.out; omega); intro v154 w30 ho hb hg hat; rw [← Ny153.out] at ho; have n0_ := Aside0.mk (Kd.R_after (ok := (fun k_ => some k_ ≠ (v149 : Value).ownBlock)) (by (with_reducible repeat (first | apply Kd.R_alloc | apply Kd.R_drewN | apply Kd.R_drew)); exact HO_9.out) hg hat); have n1_ := Aside0.mk (Kd.R_after (ok := (fun k_ => some k_ ≠ (.slice (some ad151) t145.length co29 : Value).ownBlock)) (by (with_reducible repeat (first | apply Kd.R_alloc | apply Kd.R_drewN | apply Kd.R_drew)); exact HO_10.out) hg hat); have n2_ := Aside0.mk (hb); have n3_ := Aside0.mk (ho); clear HO_9; clear HO_10; clear HB; clear HO_11; have HO_9 := n0_; have HO_10 := n1_; have HB := n2_; have HO155 := n3_; clear n0_ n1_ n2_ n3_; clear ho hb hg hat))
                      go_roundg k2
                      case measure => have := HK1.out; have := HK2.out; omega
                      case rel => exact ⟨(y153), (wrap64 (x12_2 + 1)), (by first | rfl | (simp; done) | (simp [*]; done)), H', ⟨by have := HK1.out; have := HK2.out; omega⟩, ⟨by (with_reducible repeat (first | apply Kd.R_alloc | apply Kd.R_drewN | apply Kd.R_drew)); exact HO_9.out⟩, ⟨by (with_reducible repeat (first | apply Kd.R_alloc | apply Kd.R_drewN | apply Kd.R_drew)); exact HO_10.out⟩, ⟨by (with_reducible repeat (first | apply Kd.R_alloc | apply Kd.R_drewN | apply Kd.R_drew)); exact HO155.out⟩, ⟨by repeat (first | (with_reducible first | exact HB.out | apply below_alloc | apply pw_below_drewN | apply below_drew1) | exact HB.out)⟩⟩
                    · rw [if_neg c28] at H
                      exact absurd H (by simp)
                · rw [if_neg c25] at H
                  exact absurd H (by simp)
              · rw [if_neg c24] at H
                have c24b0 : decide (x12_2 < (t145.length : Int)) = false := decide_eq_false c24
                clear c24
                by_cases c31 : t129 = true
                · subst c31
                  have H1 : ((tidemillref12_Changes.f k2 t148 x11_2).bind fun t156 => (some t156)) = some r := by rw [if_pos rfl] at H; exact H
                  clear H
                  have H := H1
                  clear H1
                  replace H := Option.bind_eq_some_iff.mp H
                  obtain ⟨t156, A320, H⟩ := H
                  replace H : (some t156) = some r := H
                  have A32 := Aside0.mk A320
                  clear A320
                  obtain rfl := Option.some.inj H
                  obtain ⟨Ao33, co33, eo33⟩ := Kd.R_slice HO_9.out
                  subst eo33
                  obtain ⟨Ao34, co34, eo34⟩ := Kd.R_slice HO_10.out
                  subst eo34
                  obtain ⟨Ao35, co35, eo35⟩ := Kd.R_slice HO_11.out
                  subst eo35
                  go_wp2_with (first | (go_at_call 9; (with_reducible refine (tidemillref12_Changes.calls k2 _ _ t148 _ _ x11_2 t156 _ ?side1 ?side2 ?side3 ?side4 A32.out).mono ?_); (case side1 => repeat (first | exact (Kd.R_reads' HO_10.out).2.2 | (with_reducible refine Kd.C_alloc ?_ _) | (with_reducible refine Kd.C_drewN ?_ _) | (with_reducible refine Kd.C_drew ?_))); (case side2 => exact (Kd.R_reads' HO_10.out).2.1); (case side3 => repeat (first | exact (Kd.R_reads' HO_11.out).2.2 | (with_reducible refine Kd.C_alloc ?_ _) | (with_reducible refine Kd.C_drewN ?_ _) | (with_reducible refine Kd.C_drew ?_))); (case side4 => exact (Kd.R_reads' HO_11.out).2.1); rintro e w' ⟨rfl, ⟨nd, rfl⟩⟩))
                  go_ret
                  exact ⟨by first | rfl | (simp [errW_none, errW_some] <;> rfl) | (simp [*, errW_none, errW_some] <;> rfl), by repeat (first | (with_reducible first | exact HB.out | apply below_alloc | apply pw_below_drewN | apply below_drew1) | exact HB.out)⟩
                · replace c31 := Bool.eq_false_iff.mpr c31
                  subst c31
                  have H1 : (some false) = some r := by rw [if_neg (show ¬ (false = true) by decide)] at H; exact H
                  clear H
                  have H := H1
                  clear H1
                  obtain rfl := Option.some.inj H
                  obtain ⟨Ao36, co36, eo36⟩ := Kd.R_slice HO_9.out
                  subst eo36
                  go_wp2
                  go_ret
                  exact ⟨by first | rfl | (simp [errW_none, errW_some] <;> rfl) | (simp [*, errW_none, errW_some] <;> rfl), by repeat (first | (with_reducible first | exact HB.out | apply below_alloc | apply pw_below_drewN | apply below_drew1) | exact HB.out)⟩
  · rw [if_neg c5] at H
    exact absurd H (by simp)

end Go.Proofs.Ytfccepkpbnalmaa.PChgEmpties

-- Written by a turned copy of the print, with contracts that this session proved by hand.
import Derived.Test.YteihfipojnfnfaaPCrcRestx0
import Derived.Test.YteihfipojnfnfaaPCrcRestx1
namespace Go.Proofs.Yteihfipojnfnfaa.PCrcRest
open Go.RowKit Go.Proofs.YteihfipojnfnfaaW.PrintWords Go.Proofs.YteihfipojnfnfaaW.PrintLast Go.Proofs.YteihfipojnfnfaaW.PrintMore
attribute [local go_sem] max2_int min2_int max_two min_two max_three min_three max_four min_four   -- for this text's walks alone
set_option linter.unusedVariables false
set_option linter.unusedSimpArgs false

/-! ### tidemilllaw02_CrcRest: function 8 -/
mutual
def tidemilllaw02_CrcRest.l0 : Nat → List (List Int) → Int → Bool → List Int → List Int → Int → Option (Bool)
  | 0, _, _, _, _, _, _ => none
  | k + 1, x0, x1, x5, x6, x7, x8 => if x8 < (x0.length : Int) then (tidemilllaw02_CrcRest.j1 k x0 x1 x5 x6 x7 x8 (decide (x8 < 20))) else (tidemilllaw02_CrcRest.j1 k x0 x1 x5 x6 x7 x8 false)
def tidemilllaw02_CrcRest.j1 : Nat → List (List Int) → Int → Bool → List Int → List Int → Int → Bool → Option (Bool)
  | 0, _, _, _, _, _, _, _ => none
  | k + 1, x0, x1, x5, x6, x7, x8, x23 => if x23 = true then (if 0 ≤ x8 then (if x8 < (x0.length : Int) then ((crc_Frame.f k (rd_L1 x0 x8)).bind fun bt141 => (if bt141.2 = 0 then (if (bt141.1.length : Int) < 5 then (if x5 = true then (some (decide (((rd_L1 x0 x8).length : Int) > 4096))) else (some false)) else (if x7.length < 17592186044416 then (if x6.length + bt141.1.length < 140737488355328 then (tidemilllaw02_CrcRest.l0 k x0 x1 x5 (x6 ++ bt141.1) (x7 ++ [(x6.length : Int)]) (wrap64 (x8 + 1))) else (none)) else (none))) else (if x5 = true then (some (decide (((rd_L1 x0 x8).length : Int) > 4096))) else (some false)))) else (none)) else (none)) else (if (x7.length : Int) = 0 then (some x5) else (if (wrap64 ((Int.tmod (wrap64 (x1)) (x7.length : Int)) + 1)) < (x7.length : Int) then (if 0 ≤ (wrap64 ((Int.tmod (wrap64 (x1)) (x7.length : Int)) + 1)) then (if 0 ≤ (wrap64 ((rd x7 (wrap64 ((Int.tmod (wrap64 (x1)) (x7.length : Int)) + 1))) - 1)) then (if (wrap64 ((rd x7 (wrap64 ((Int.tmod (wrap64 (x1)) (x7.length : Int)) + 1))) - 1)) < (x6.length : Int) then ((crc_Scan.f (x6.set ((wrap64 ((rd x7 (wrap64 ((Int.tmod (wrap64 (x1)) (x7.length : Int)) + 1))) - 1)) : Int).toNat (Go.bits .xor .u8 (rd x6 (wrap64 ((rd x7 (wrap64 ((Int.tmod (wrap64 (x1)) (x7.length : Int)) + 1))) - 1))) 1))).bind fun bt156 => (if x5 = true then (if 0 ≤ (Int.tmod (wrap64 (x1)) (x7.length : Int)) then (if (Int.tmod (wrap64 (x1)) (x7.length : Int)) < (x7.length : Int) then (if bt156.2 = (rd x7 (Int.tmod (wrap64 (x1)) (x7.length : Int))) then (if (Int.tmod (wrap64 (x1)) (x7.length : Int)) ≤ (x0.length : Int) then ((tidemillref02_Lists.f bt156.1 (x0.take ((Int.tmod (wrap64 (x1)) (x7.length : Int)) : Int).toNat)).bind fun t165 => (some t165)) else (none)) else (some false)) else (none)) else (none)) else (some false))) else (none)) else (none)) else (none)) else (if 0 ≤ (wrap64 ((x6.length : Int) - 1)) then (if (wrap64 ((x6.length : Int) - 1)) < (x6.length : Int) then ((crc_Scan.f (x6.set ((wrap64 ((x6.length : Int) - 1)) : Int).toNat (Go.bits .xor .u8 (rd x6 (wrap64 ((x6.length : Int) - 1))) 1))).bind fun bt168 => (if x5 = true then (if 0 ≤ (Int.tmod (wrap64 (x1)) (x7.length : Int)) then (if (Int.tmod (wrap64 (x1)) (x7.length : Int)) < (x7.length : Int) then (if bt168.2 = (rd x7 (Int.tmod (wrap64 (x1)) (x7.length : Int))) then (if (Int.tmod (wrap64 (x1)) (x7.length : Int)) ≤ (x0.length : Int) then ((tidemillref02_Lists.f bt168.1 (x0.take ((Int.tmod (wrap64 (x1)) (x7.length : Int)) : Int).toNat)).bind fun t177 => (some t177)) else (none)) else (some false)) else (none)) else (none)) else (some false))) else (none)) else (none))))
end
def tidemilllaw02_CrcRest.f (k : Nat) (l0 : List (List Int)) (a1 : Int) : Option (Bool) := (tidemilllaw02_shown.f).bind fun t139 => (tidemilllaw02_CrcRest.l0 k l0 a1 t139 ([] : List Int) ([] : List Int) 0)
theorem tidemilllaw02_CrcRest.mono_l : ∀ k, (∀ y0 y1 y2 y3 y4 y5, LeO (tidemilllaw02_CrcRest.l0 k y0 y1 y2 y3 y4 y5) (tidemilllaw02_CrcRest.l0 (k + 1) y0 y1 y2 y3 y4 y5)) ∧ (∀ y0 y1 y2 y3 y4 y5 y6, LeO (tidemilllaw02_CrcRest.j1 k y0 y1 y2 y3 y4 y5 y6) (tidemilllaw02_CrcRest.j1 (k + 1) y0 y1 y2 y3 y4 y5 y6))
  | 0 => ⟨fun _ _ _ _ _ _ r h => by simp [tidemilllaw02_CrcRest.l0] at h, fun _ _ _ _ _ _ _ r h => by simp [tidemilllaw02_CrcRest.j1] at h⟩
  | k + 1 => by
    obtain ⟨ih0, ih1⟩ := tidemilllaw02_CrcRest.mono_l k
    refine ⟨?_, ?_⟩
    · intro y0 y1 y2 y3 y4 y5
      unfold tidemilllaw02_CrcRest.l0
      repeat' first
      | (with_reducible exact ih0 _ _ _ _ _ _)
      | (with_reducible exact ih1 _ _ _ _ _ _ _)
      | (with_reducible exact crc_Frame.mono _ _)
      | (with_reducible exact LeO.refl _)
      | (with_reducible exact LeO.none _)
      | (with_reducible refine LeO.ite ?_ ?_)
      | (with_reducible refine LeO.bind ?_ (fun _ => ?_))
      | exact ih0 _ _ _ _ _ _
      | exact ih1 _ _ _ _ _ _ _
      | exact crc_Frame.mono _ _
      | exact LeO.none _
      | refine LeO.ite ?_ ?_
      | refine LeO.bind ?_ (fun _ => ?_)
    · intro y0 y1 y2 y3 y4 y5 y6
      unfold tidemilllaw02_CrcRest.j1
      repeat' first
      | (with_reducible exact ih0 _ _ _ _ _ _)
      | (with_reducible exact ih1 _ _ _ _ _ _ _)
      | (with_reducible exact crc_Frame.mono _ _)
      | (with_reducible exact LeO.refl _)
      | (with_reducible exact LeO.none _)
      | (with_reducible refine LeO.ite ?_ ?_)
      | (with_reducible refine LeO.bind ?_ (fun _ => ?_))
      | exact ih0 _ _ _ _ _ _
      | exact ih1 _ _ _ _ _ _ _
      | exact crc_Frame.mono _ _
      | exact LeO.none _
      | refine LeO.ite ?_ ?_
      | refine LeO.bind ?_ (fun _ => ?_)
theorem tidemilllaw02_CrcRest.mono : ∀ a0 a1 k, LeO (tidemilllaw02_CrcRest.f k a0 a1) (tidemilllaw02_CrcRest.f (k + 1) a0 a1) := by
  intro a0 a1 k
  obtain ⟨ih0, ih1⟩ := tidemilllaw02_CrcRest.mono_l k
  unfold tidemilllaw02_CrcRest.f
  repeat' first
      | (with_reducible exact ih0 _ _ _ _ _ _)
      | (with_reducible exact ih1 _ _ _ _ _ _ _)
      | (with_reducible exact crc_Frame.mono _ _)
      | (with_reducible exact LeO.refl _)
      | (with_reducible exact LeO.none _)
      | (with_reducible refine LeO.ite ?_ ?_)
      | (with_reducible refine LeO.bind ?_ (fun _ => ?_))
      | exact ih0 _ _ _ _ _ _
      | exact ih1 _ _ _ _ _ _ _
      | exact crc_Frame.mono _ _
      | exact LeO.none _
      | refine LeO.ite ?_ ?_
      | refine LeO.bind ?_ (fun _ => ?_)
set_option maxHeartbeats 8000000 in
set_option maxRecDepth 100000 in
theorem tidemilllaw02_CrcRest.calls (k : Nat) (A0 : Option Addr) (c0 : Nat) (l0 : List (List Int)) (a1 : Int) (r : Bool) (w : World) (hr0 : Kd.C (Kd.slice 5 (Kd.int .u8)) w A0 l0.length l0) (hc0 : l0.length ≤ c0) (h : tidemilllaw02_CrcRest.f k l0 a1 = some r) :
    Calls Try.prog 8 #[.slice A0 l0.length c0, .int .u16 a1] w fun e w' => e = .returned (.bool r) ∧ Below w.heap.size w w' := by
  have HR0 := Aside0.mk hr0
  have HC0 := Aside0.mk hc0
  clear hr0 hc0
  have HB := Aside0.mk (Below.refl w.heap.size w)
  have H : ((tidemilllaw02_shown.f).bind fun t139 => (tidemilllaw02_CrcRest.l0 k l0 a1 t139 ([] : List Int) ([] : List Int) 0)) = some r := h
  clear h
  replace H := Option.bind_eq_some_iff.mp H
  obtain ⟨t139, A30, H⟩ := H
  replace H : (tidemilllaw02_CrcRest.l0 k l0 a1 t139 ([] : List Int) ([] : List Int) 0) = some r := H
  have A3 := Aside0.mk A30
  clear A30
  have H' := Aside0.mk H
  clear H
  go_enter Try.func8, Try.ntmps8
  go_wp2_with (first | ((with_reducible refine gate_callee (f := 9) rfl ?_); refine goesL_ (some 15) rfl rfl Try.func9 (by kernel_rfl) rfl #[] rfl (by (try simp only [List.map_toArray, List.map_cons, List.map_nil]); first | done | rfl | (simp only [List.length_drop, List.length_take]; rfl)) ?_; (with_reducible refine (tidemilllaw02_shown.calls  t139 _ A3.out).mono ?_); rintro e w4 ⟨rfl, hb⟩; refine ⟨_, rfl, ?_⟩; have n0_ := Aside0.mk (below_step (by repeat (first | (with_reducible first | exact HB.out | apply below_alloc | apply pw_below_drewN | apply below_drew1) | exact HB.out)) hb); clear HB; have HB := n0_; clear n0_; (try clear hb); (try clear hb2); (try clear hk); (try clear hi)))
  go_loopg [6, 7, 8] k (fun kq v6 v7 v8 w' => ∃ (x6_1 : List Int) (x7_1 : List Int) (x8_1 : Int), v8 = .int .i64 x8_1 ∧ Aside0 (tidemilllaw02_CrcRest.l0 kq l0 a1 t139 x6_1 x7_1 x8_1 = some r) ∧ Aside0 (kq ≤ k) ∧ Aside0 (Kd.R (Kd.int .u8) 5 w' w.heap.size (fun _ => True) v6 x6_1) ∧ Aside0 (Kd.R (Kd.int .i64) 3 w' w.heap.size (fun _ => True) v7 x7_1) ∧ Aside0 (Below w.heap.size w w'))
  case atStart => exact ⟨(([] : List Int)), (([] : List Int)), (0), (by first | rfl | (simp; done) | (simp [*]; done)), H', ⟨Nat.le_refl _⟩, ⟨by first | exact Kd.R_nil _ _ _ _ _ | exact Kd.N_nil _ _ _ _ _ | exact Kd.V_nil _ _ _ _ _ | exact Kd.Q_nil _ _ _ _ _ | exact Kd.S_nil _ _ _ _ _⟩, ⟨by first | exact Kd.R_nil _ _ _ _ _ | exact Kd.N_nil _ _ _ _ _ | exact Kd.V_nil _ _ _ _ _ | exact Kd.Q_nil _ _ _ _ _ | exact Kd.S_nil _ _ _ _ _⟩, ⟨by repeat (first | (with_reducible first | exact HB.out | apply below_alloc | apply pw_below_drewN | apply below_drew1) | exact HB.out)⟩⟩
  case round =>
    clear H'
    try clear p2
    obtain ⟨x6_1, x7_1, x8_1, rfl, HA, HK1, HO_6, HO_7, HB⟩ := hrel
    cases gk with
    | zero => exact absurd HA.out (by simp [tidemilllaw02_CrcRest.l0])
    | succ k1 =>
      have H := HA.out
      clear HA
      simp only [tidemilllaw02_CrcRest.l0] at H
      have HC5 := Aside0.mk H
      clear H
      go_upto_region 5 with (fail)
      go_cut [23] (fun v23 wc => ∃ (kq : Nat) (x23_4 : Bool), v23 = .bool x23_4 ∧ Aside0 (tidemilllaw02_CrcRest.j1 kq l0 a1 t139 x6_1 x7_1 x8_1 x23_4 = some r) ∧ Aside0 (kq ≤ k1) ∧ Aside0 (Kd.R (Kd.int .u8) 5 wc w.heap.size (fun _ => True) u6 x6_1) ∧ Aside0 (Kd.R (Kd.int .i64) 3 wc w.heap.size (fun _ => True) u7 x7_1) ∧ Aside0 (Below w.heap.size w wc))
      case first =>
        have H := HC5.out
        clear HC5
        by_cases c6 : x8_1 < (l0.length : Int)
        · rw [if_pos c6] at H
          have c6b0 : decide (x8_1 < (l0.length : Int)) = true := decide_eq_true c6
          clear c6
          (first | rw [c6b0] | (simp only [i64_w, i32_w]; rw [c6b0]) | skip)
          have H' := Aside0.mk H
          clear H
          go_wp2
          go_meet
          case rel => exact ⟨_, (decide (x8_1 < 20)), (by first | rfl | (simp; done) | (simp [*]; done)), H', ⟨by have := HK1.out; first | omega | exact Nat.le_refl _⟩, ⟨by (with_reducible repeat (first | apply Kd.R_alloc | apply Kd.R_drewN | apply Kd.R_drew)); exact HO_6.out⟩, ⟨by (with_reducible repeat (first | apply Kd.R_alloc | apply Kd.R_drewN | apply Kd.R_drew)); exact HO_7.out⟩, ⟨by repeat (first | (with_reducible first | exact HB.out | apply below_alloc | apply pw_below_drewN | apply below_drew1) | exact HB.out)⟩⟩
        · rw [if_neg c6] at H
          have c6b0 : decide (x8_1 < (l0.length : Int)) = false := decide_eq_false c6
          clear c6
          (first | rw [c6b0] | (simp only [i64_w, i32_w]; rw [c6b0]) | skip)
          have H' := Aside0.mk H
          clear H
          go_wp2
          go_meet
          case rel => exact ⟨_, (false), (by first | rfl | (simp; done) | (simp [*]; done)), H', ⟨by have := HK1.out; first | omega | exact Nat.le_refl _⟩, ⟨by (with_reducible repeat (first | apply Kd.R_alloc | apply Kd.R_drewN | apply Kd.R_drew)); exact HO_6.out⟩, ⟨by (with_reducible repeat (first | apply Kd.R_alloc | apply Kd.R_drewN | apply Kd.R_drew)); exact HO_7.out⟩, ⟨by repeat (first | (with_reducible first | exact HB.out | apply below_alloc | apply pw_below_drewN | apply below_drew1) | exact HB.out)⟩⟩
      case rest =>
        clear HC5
        try clear p2
        try clear c6
        try clear c6b0
        try clear p2
        obtain ⟨kq, x23_4, rfl, HA, HJ4, HO_6, HO_7, HB⟩ := hcut
        cases kq with
        | zero => exact absurd HA.out (by simp [tidemilllaw02_CrcRest.j1])
        | succ kj4 =>
          have H := HA.out
          clear HA
          simp only [tidemilllaw02_CrcRest.j1] at H
          by_cases c7 : x23_4 = true
          · subst c7
            have H1 : (if 0 ≤ x8_1 then (if x8_1 < (l0.length : Int) then ((crc_Frame.f kj4 (rd_L1 l0 x8_1)).bind fun bt141 => (if bt141.2 = 0 then (if (bt141.1.length : Int) < 5 then (if t139 = true then (some (decide (((rd_L1 l0 x8_1).length : Int) > 4096))) else (some false)) else (if x7_1.length < 17592186044416 then (if x6_1.length + bt141.1.length < 140737488355328 then (tidemilllaw02_CrcRest.l0 kj4 l0 a1 t139 (x6_1 ++ bt141.1) (x7_1 ++ [(x6_1.length : Int)]) (wrap64 (x8_1 + 1))) else (none)) else (none))) else (if t139 = true then (some (decide (((rd_L1 l0 x8_1).length : Int) > 4096))) else (some false)))) else (none)) else (none)) = some r := by rw [if_pos rfl] at H; exact H
            clear H
            have H := H1
            clear H1
            by_cases c8 : 0 ≤ x8_1
            · rw [if_pos c8] at H
              have c8b0 : decide (0 ≤ x8_1) = true := decide_eq_true c8
              clear c8
              by_cases c9 : x8_1 < (l0.length : Int)
              · rw [if_pos c9] at H
                have c9b0 : decide (x8_1 < (l0.length : Int)) = true := decide_eq_true c9
                clear c9
                replace H := Option.bind_eq_some_iff.mp H
                obtain ⟨⟨t141, t142⟩, A100, H⟩ := H
                replace H : (if t142 = 0 then (if (t141.length : Int) < 5 then (if t139 = true then (some (decide (((rd_L1 l0 x8_1).length : Int) > 4096))) else (some false)) else (if x7_1.length < 17592186044416 then (if x6_1.length + t141.length < 140737488355328 then (tidemilllaw02_CrcRest.l0 kj4 l0 a1 t139 (x6_1 ++ t141) (x7_1 ++ [(x6_1.length : Int)]) (wrap64 (x8_1 + 1))) else (none)) else (none))) else (if t139 = true then (some (decide (((rd_L1 l0 x8_1).length : Int) > 4096))) else (some false))) = some r := H
                have A10 := Aside0.mk A100
                clear A100
                by_cases c11 : t142 = 0
                · rw [if_pos c11] at H
                  have c11b0 : (t142 == 0) = true := beq_iff_eq.mpr c11
                  have c11b1 : (t142 != 0) = false := bne_eq_false_iff_eq.mpr c11
                  clear c11
                  by_cases c12 : (t141.length : Int) < 5
                  · rw [if_pos c12] at H
                    have c12b0 : decide ((t141.length : Int) < 5) = true := decide_eq_true c12
                    have c12b1 : decide (t141.length < 5) = true := decide_eq_true (by omega)
                    clear c12
                    by_cases c13 : t139 = true
                    · subst c13
                      have H1 : (some (decide (((rd_L1 l0 x8_1).length : Int) > 4096))) = some r := by rw [if_pos rfl] at H; exact H
                      clear H
                      have H := H1
                      clear H1
                      obtain rfl := Option.some.inj H
                      have p140 : 0 ≤ (x8_1 : Int) := of_decide_eq_true (by first | (with_reducible assumption) | assumption)
                      have q140 : x8_1 < (l0.length : Int) := of_decide_eq_true (by first | (with_reducible assumption) | assumption)
                      obtain ⟨ad140, A140_0, c140_0, e140, hx140_0, hl140_0, hi140_0⟩ := at_L1 HR0.out x8_1 p140 q140
                      cases e140
                      replace hx140_0 := (HB.out.cell (World.block_lt_of_cell? w _ hx140_0)).trans hx140_0
                      have HR140_0 := Aside0.mk hi140_0
                      have HC140_0 := Aside0.mk hl140_0
                      clear hi140_0 hl140_0
                      replace p140 := eq_true p140
                      replace q140 := eq_true q140
                      go_wp2_with (first | ((with_reducible refine gate_callee (f := 10) rfl ?_); refine goesL_ (some 31) rfl rfl Try.func10 (by kernel_rfl) rfl #[.slice A140_0 (rd_L1 l0 x8_1).length c140_0] rfl (by (try simp only [List.map_toArray, List.map_cons, List.map_nil]); first | done | rfl | (simp only [List.length_drop, List.length_take]; rfl)) ?_; (with_reducible refine (crc_Frame.calls kj4 _ _ (rd_L1 l0 x8_1) t141 t142 _ ?side1 ?side2 A10.out).mono ?_); (case side1 => repeat (first | exact (Kd.C_below HR140_0.out HB.out) | (with_reducible refine Kd.C_alloc ?_ _) | (with_reducible refine Kd.C_drewN ?_ _) | (with_reducible refine Kd.C_drew ?_))); (case side2 => exact HC140_0.out); rintro e w14 ⟨v143, rfl, ho0, hb⟩; refine ⟨_, rfl, ?_⟩; have n0_ := Aside0.mk (Kd.R_elder' (by (with_reducible repeat (first | apply Kd.R_alloc | apply Kd.R_drewN | apply Kd.R_drew)); exact HO_6.out) (Kd.R_base ho0) hb); have n1_ := Aside0.mk (Kd.R_below (by (with_reducible repeat (first | apply Kd.R_alloc | apply Kd.R_drewN | apply Kd.R_drew)); exact HO_7.out) hb); have n2_ := Aside0.mk (Kd.R_lower (Kd.R_new' ho0 (Kd.R_lt (by (with_reducible repeat (first | apply Kd.R_alloc | apply Kd.R_drewN | apply Kd.R_drew)); exact HO_6.out))) (below_size (by repeat (first | (with_reducible first | exact HB.out | apply below_alloc | apply pw_below_drewN | apply below_drew1) | exact HB.out)))); have n3_ := Aside0.mk (below_step (by repeat (first | (with_reducible first | exact HB.out | apply below_alloc | apply pw_below_drewN | apply below_drew1) | exact HB.out)) hb); clear HO_6; clear HO_7; clear HB; have HO_6 := n0_; have HO_7 := n1_; have HO144 := n2_; have HB := n3_; clear n0_ n1_ n2_ n3_; (try clear hb); (try clear hb2); (try clear hk); (try clear hi); (try clear ho0); obtain ⟨Ao15, co15, eo15⟩ := Kd.R_slice HO144.out; subst eo15; have p145 : 0 ≤ (x8_1 : Int) := of_decide_eq_true (by first | (with_reducible assumption) | assumption); have q145 : x8_1 < (l0.length : Int) := of_decide_eq_true (by first | (with_reducible assumption) | assumption); obtain ⟨ad145, A145_0, c145_0, e145, hx145_0, hl145_0, hi145_0⟩ := at_L1 HR0.out x8_1 p145 q145; obtain rfl : ad140 = ad145 := (by injection e145); replace hx145_0 := (HB.out.cell (World.block_lt_of_cell? w _ hx145_0)).trans hx145_0; have HR145_0 := Aside0.mk hi145_0; have HC145_0 := Aside0.mk hl145_0; clear hi145_0 hl145_0; replace p145 := eq_true p145; replace q145 := eq_true q145))
                      go_ret
                      exact ⟨by first | rfl | (simp [errW_none, errW_some] <;> rfl) | (simp [*, errW_none, errW_some] <;> rfl), by repeat (first | (with_reducible first | exact HB.out | apply below_alloc | apply pw_below_drewN | apply below_drew1) | exact HB.out)⟩
                    · replace c13 := Bool.eq_false_iff.mpr c13
                      subst c13
                      have H1 : (some false) = some r := by rw [if_neg (show ¬ (false = true) by decide)] at H; exact H
                      clear H
                      have H := H1
                      clear H1
                      obtain rfl := Option.some.inj H
                      have p140 : 0 ≤ (x8_1 : Int) := of_decide_eq_true (by first | (with_reducible assumption) | assumption)
                      have q140 : x8_1 < (l0.length : Int) := of_decide_eq_true (by first | (with_reducible assumption) | assumption)
                      obtain ⟨ad140, A140_0, c140_0, e140, hx140_0, hl140_0, hi140_0⟩ := at_L1 HR0.out x8_1 p140 q140
                      cases e140
                      replace hx140_0 := (HB.out.cell (World.block_lt_of_cell? w _ hx140_0)).trans hx140_0
                      have HR140_0 := Aside0.mk hi140_0
                      have HC140_0 := Aside0.mk hl140_0
                      clear hi140_0 hl140_0
                      replace p140 := eq_true p140
                      replace q140 := eq_true q140
                      go_wp2_with (first | ((with_reducible refine gate_callee (f := 10) rfl ?_); refine goesL_ (some 31) rfl rfl Try.func10 (by kernel_rfl) rfl #[.slice A140_0 (rd_L1 l0 x8_1).length c140_0] rfl (by (try simp only [List.map_toArray, List.map_cons, List.map_nil]); first | done | rfl | (simp only [List.length_drop, List.length_take]; rfl)) ?_; (with_reducible refine (crc_Frame.calls kj4 _ _ (rd_L1 l0 x8_1) t141 t142 _ ?side1 ?side2 A10.out).mono ?_); (case side1 => repeat (first | exact (Kd.C_below HR140_0.out HB.out) | (with_reducible refine Kd.C_alloc ?_ _) | (with_reducible refine Kd.C_drewN ?_ _) | (with_reducible refine Kd.C_drew ?_))); (case side2 => exact HC140_0.out); rintro e w16 ⟨v143, rfl, ho0, hb⟩; refine ⟨_, rfl, ?_⟩; have n0_ := Aside0.mk (Kd.R_elder' (by (with_reducible repeat (first | apply Kd.R_alloc | apply Kd.R_drewN | apply Kd.R_drew)); exact HO_6.out) (Kd.R_base ho0) hb); have n1_ := Aside0.mk (Kd.R_below (by (with_reducible repeat (first | apply Kd.R_alloc | apply Kd.R_drewN | apply Kd.R_drew)); exact HO_7.out) hb); have n2_ := Aside0.mk (Kd.R_lower (Kd.R_new' ho0 (Kd.R_lt (by (with_reducible repeat (first | apply Kd.R_alloc | apply Kd.R_drewN | apply Kd.R_drew)); exact HO_6.out))) (below_size (by repeat (first | (with_reducible first | exact HB.out | apply below_alloc | apply pw_below_drewN | apply below_drew1) | exact HB.out)))); have n3_ := Aside0.mk (below_step (by repeat (first | (with_reducible first | exact HB.out | apply below_alloc | apply pw_below_drewN | apply below_drew1) | exact HB.out)) hb); clear HO_6; clear HO_7; clear HB; have HO_6 := n0_; have HO_7 := n1_; have HO144 := n2_; have HB := n3_; clear n0_ n1_ n2_ n3_; (try clear hb); (try clear hb2); (try clear hk); (try clear hi); (try clear ho0); obtain ⟨Ao17, co17, eo17⟩ := Kd.R_slice HO144.out; subst eo17))
                      go_ret
                      exact ⟨by first | rfl | (simp [errW_none, errW_some] <;> rfl) | (simp [*, errW_none, errW_some] <;> rfl), by repeat (first | (with_reducible first | exact HB.out | apply below_alloc | apply pw_below_drewN | apply below_drew1) | exact HB.out)⟩
                  · rw [if_neg c12] at H
                    have c12b0 : decide ((t141.length : Int) < 5) = false := decide_eq_false c12
                    have c12b1 : decide (t141.length < 5) = false := decide_eq_false (by omega)
                    clear c12
                    by_cases c18 : x7_1.length < 17592186044416
                    · rw [if_pos c18] at H
                      have LMc18 := Aside0.mk c18
                      clear c18
                      obtain ⟨y146, hy146⟩ : ∃ y_ : List Int, y_ = (x7_1 ++ [(x6_1.length : Int)]) := ⟨_, rfl⟩
                      replace H : (if x6_1.length + t141.length < 140737488355328 then (tidemilllaw02_CrcRest.l0 kj4 l0 a1 t139 (x6_1 ++ t141) y146 (wrap64 (x8_1 + 1))) else (none)) = some r := by first | (rw [hy146]; with_reducible exact H) | (have H2_ := (Option.bind_some _ _).symm.trans H; rw [hy146]; with_reducible exact H2_) | (have H2_ := (Option.bind_some _ _).symm.trans H; with_reducible exact H2_) | with_reducible exact H | (rw [hy146]; exact H) | exact H
                      have Ny146 := Aside0.mk hy146
                      clear hy146
                      by_cases c19 : x6_1.length + t141.length < 140737488355328
                      · rw [if_pos c19] at H
                        have LMc19 := Aside0.mk c19
                        clear c19
                        obtain ⟨y149, hy149⟩ : ∃ y_ : List Int, y_ = (x6_1 ++ t141) := ⟨_, rfl⟩
                        replace H : (tidemilllaw02_CrcRest.l0 kj4 l0 a1 t139 y149 y146 (wrap64 (x8_1 + 1))) = some r := by first | (rw [hy149]; with_reducible exact H) | (have H2_ := (Option.bind_some _ _).symm.trans H; rw [hy149]; with_reducible exact H2_) | (have H2_ := (Option.bind_some _ _).symm.trans H; with_reducible exact H2_) | with_reducible exact H | (rw [hy149]; exact H) | exact H
                        have Ny149 := Aside0.mk hy149
                        clear hy149
                        have H' := Aside0.mk H
                        clear H
                        have p140 : 0 ≤ (x8_1 : Int) := of_decide_eq_true (by first | (with_reducible assumption) | assumption)
                        have q140 : x8_1 < (l0.length : Int) := of_decide_eq_true (by first | (with_reducible assumption) | assumption)
                        obtain ⟨ad140, A140_0, c140_0, e140, hx140_0, hl140_0, hi140_0⟩ := at_L1 HR0.out x8_1 p140 q140
                        cases e140
                        replace hx140_0 := (HB.out.cell (World.block_lt_of_cell? w _ hx140_0)).trans hx140_0
                        have HR140_0 := Aside0.mk hi140_0
                        have HC140_0 := Aside0.mk hl140_0
                        clear hi140_0 hl140_0
                        replace p140 := eq_true p140
                        replace q140 := eq_true q140
                        go_wp2_with (first | ((with_reducible refine gate_callee (f := 10) rfl ?_); refine goesL_ (some 31) rfl rfl Try.func10 (by kernel_rfl) rfl #[.slice A140_0 (rd_L1 l0 x8_1).length c140_0] rfl (by (try simp only [List.map_toArray, List.map_cons, List.map_nil]); first | done | rfl | (simp only [List.length_drop, List.length_take]; rfl)) ?_; (with_reducible refine (crc_Frame.calls kj4 _ _ (rd_L1 l0 x8_1) t141 t142 _ ?side1 ?side2 A10.out).mono ?_); (case side1 => repeat (first | exact (Kd.C_below HR140_0.out HB.out) | (with_reducible refine Kd.C_alloc ?_ _) | (with_reducible refine Kd.C_drewN ?_ _) | (with_reducible refine Kd.C_drew ?_))); (case side2 => exact HC140_0.out); rintro e w20 ⟨v143, rfl, ho0, hb⟩; refine ⟨_, rfl, ?_⟩; have n0_ := Aside0.mk (Kd.R_elder' (by (with_reducible repeat (first | apply Kd.R_alloc | apply Kd.R_drewN | apply Kd.R_drew)); exact HO_6.out) (Kd.R_base ho0) hb); have n1_ := Aside0.mk (Kd.R_below (by (with_reducible repeat (first | apply Kd.R_alloc | apply Kd.R_drewN | apply Kd.R_drew)); exact HO_7.out) hb); have n2_ := Aside0.mk (Kd.R_lower (Kd.R_new' ho0 (Kd.R_lt (by (with_reducible repeat (first | apply Kd.R_alloc | apply Kd.R_drewN | apply Kd.R_drew)); exact HO_6.out))) (below_size (by repeat (first | (with_reducible first | exact HB.out | apply below_alloc | apply pw_below_drewN | apply below_drew1) | exact HB.out)))); have n3_ := Aside0.mk (below_step (by repeat (first | (with_reducible first | exact HB.out | apply below_alloc | apply pw_below_drewN | apply below_drew1) | exact HB.out)) hb); clear HO_6; clear HO_7; clear HB; have HO_6 := n0_; have HO_7 := n1_; have HO144 := n2_; have HB := n3_; clear n0_ n1_ n2_ n3_; (try clear hb); (try clear hb2); (try clear hk); (try clear hi); (try clear ho0); obtain ⟨Ao21, co21, eo21⟩ := Kd.R_slice HO144.out; subst eo21; obtain ⟨Ao22, co22, eo22⟩ := Kd.R_slice HO_6.out; subst eo22) | ((with_reducible refine gate_builtin (b := .append) (xs := #[.tmp 50, .tmp 53]) rfl ?_); (try (refine gate_guard (by rfl) ?_; dsimp only)); at_builtin; refine Kd.R_append (Kd.int .i64) (w0 := w) w.heap.size rfl (.tmp 50) (.tmp 53) 43 3 (.int .i64 0) 8 rfl Try.underlying43 info3 rfl (by decide) (by omega) u7 x7_1 (x6_1.length : Int) [.int .i64 (x6_1.length : Int)] (fun _ => True) (fun _ => False) rfl rfl ?aP (fun _ hk => hk.elim) ?aF ?aO ?aB ?aS ?aL ?_; (case aP => exact rfl); (case aB => exact (by repeat (first | (with_reducible first | exact HB.out | apply below_alloc | apply pw_below_drewN | apply below_drew1) | exact HB.out))); (case aF => exact (fun _ _ => trivial)); (case aO => exact (by (with_reducible repeat (first | apply Kd.R_alloc | apply Kd.R_drewN | apply Kd.R_drew)); exact HO_7.out)); (case aS => exact (below_size (by repeat (first | (with_reducible first | exact HB.out | apply below_alloc | apply pw_below_drewN | apply below_drew1) | exact HB.out)))); (case aL => have := LMc18.out; omega); intro v147 w23 ho hb hg hat; rw [← Ny146.out] at ho; have n0_ := Aside0.mk (Kd.R_over' (by (with_reducible repeat (first | apply Kd.R_alloc | apply Kd.R_drewN | apply Kd.R_drew)); exact HO_6.out) (Kd.R_typed (by (with_reducible repeat (first | apply Kd.R_alloc | apply Kd.R_drewN | apply Kd.R_drew)); exact HO_7.out)) (by decide) hg); have n1_ := Aside0.mk (Kd.R_over' (by (with_reducible repeat (first | apply Kd.R_alloc | apply Kd.R_drewN | apply Kd.R_drew)); exact HO144.out) (Kd.R_typed (by (with_reducible repeat (first | apply Kd.R_alloc | apply Kd.R_drewN | apply Kd.R_drew)); exact HO_7.out)) (by decide) hg); have n2_ := Aside0.mk (hb); have n3_ := Aside0.mk (ho); clear HO_6; clear HO144; clear HB; clear HO_7; have HO_6 := n0_; have HO144 := n1_; have HB := n2_; have HO148 := n3_; clear n0_ n1_ n2_ n3_; clear ho hb hg hat) | ((with_reducible refine gate_builtin (b := .append) (xs := #[.tmp 55, .tmp 56]) rfl ?_); (try (refine gate_guard (by rfl) ?_; dsimp only)); at_builtin; refine Kd.R_append_rows (Kd.int .u8) (w0 := w) w.heap.size rfl (.tmp 55) (.tmp 56) 22 5 (.int .u8 0) 1 rfl Try.underlying22 info5 rfl (by decide) (by omega) (.slice Ao22 x6_1.length co22) x6_1 t141 _ _ _ (fun k_ => some k_ ≠ (.slice Ao21 t141.length co21 : Value).ownBlock) (fun _ => False) rfl rfl ?aO ?aR (fun _ _ h => h) (fun _ h => h.elim) ?aF ?aB ?aS ?aL ?_; (case aR => repeat (first | exact (Kd.R_reads' HO144.out).2.2 | (with_reducible refine Kd.C_alloc ?_ _) | (with_reducible refine Kd.C_drewN ?_ _) | (with_reducible refine Kd.C_drew ?_))); (case aB => exact (by repeat (first | (with_reducible first | exact HB.out | apply below_alloc | apply pw_below_drewN | apply below_drew1) | exact HB.out))); (case aF => exact (fun k_ hk => Kd.fresh' (Kd.R_lt (by (with_reducible repeat (first | apply Kd.R_alloc | apply Kd.R_drewN | apply Kd.R_drew)); exact HO144.out)) k_ hk)); (case aO => exact (by (with_reducible repeat (first | apply Kd.R_alloc | apply Kd.R_drewN | apply Kd.R_drew)); exact Kd.R_mono HO_6.out (fun _ hk => hk.2))); (case aS => exact (below_size (by repeat (first | (with_reducible first | exact HB.out | apply below_alloc | apply pw_below_drewN | apply below_drew1) | exact HB.out)))); (case aL => have := LMc19.out; omega); intro v150 w24 ho hb hg hat; rw [← Ny149.out] at ho; have n0_ := Aside0.mk (Kd.R_after (ok := (fun _ => True)) (by (with_reducible repeat (first | apply Kd.R_alloc | apply Kd.R_drewN | apply Kd.R_drew)); exact HO144.out) hg hat); have n1_ := Aside0.mk (Kd.R_over' (by (with_reducible repeat (first | apply Kd.R_alloc | apply Kd.R_drewN | apply Kd.R_drew)); exact HO148.out) (Kd.R_typed (by (with_reducible repeat (first | apply Kd.R_alloc | apply Kd.R_drewN | apply Kd.R_drew)); exact HO_6.out)) (by decide) hg); have n2_ := Aside0.mk (hb); have n3_ := Aside0.mk (ho); clear HO144; clear HO148; clear HB; clear HO_6; have HO144 := n0_; have HO148 := n1_; have HB := n2_; have HO151 := n3_; clear n0_ n1_ n2_ n3_; clear ho hb hg hat))
                        go_roundg kj4
                        case measure => have := HK1.out; have := HJ4.out; omega
                        case rel => exact ⟨(y149), (y146), (wrap64 (x8_1 + 1)), (by first | rfl | (simp; done) | (simp [*]; done)), H', ⟨by have := HK1.out; have := HJ4.out; omega⟩, ⟨by (with_reducible repeat (first | apply Kd.R_alloc | apply Kd.R_drewN | apply Kd.R_drew)); exact Kd.R_mono HO151.out (fun _ hk => trivial)⟩, ⟨by (with_reducible repeat (first | apply Kd.R_alloc | apply Kd.R_drewN | apply Kd.R_drew)); exact HO148.out⟩, ⟨by repeat (first | (with_reducible first | exact HB.out | apply below_alloc | apply pw_below_drewN | apply below_drew1) | exact HB.out)⟩⟩
                      · rw [if_neg c19] at H
                        exact absurd H (by simp)
                    · rw [if_neg c18] at H
                      exact absurd H (by simp)
                · rw [if_neg c11] at H
                  have c11b0 : (t142 == 0) = false := beq_eq_false_iff_ne.mpr c11
                  have c11b1 : (t142 != 0) = true := bne_iff_ne.mpr c11
                  by_cases c25 : t139 = true
                  · subst c25
                    have H1 : (some (decide (((rd_L1 l0 x8_1).length : Int) > 4096))) = some r := by rw [if_pos rfl] at H; exact H
                    clear H
                    have H := H1
                    clear H1
                    obtain rfl := Option.some.inj H
                    have p140 : 0 ≤ (x8_1 : Int) := of_decide_eq_true (by first | (with_reducible assumption) | assumption)
                    have q140 : x8_1 < (l0.length : Int) := of_decide_eq_true (by first | (with_reducible assumption) | assumption)
                    obtain ⟨ad140, A140_0, c140_0, e140, hx140_0, hl140_0, hi140_0⟩ := at_L1 HR0.out x8_1 p140 q140
                    cases e140
                    replace hx140_0 := (HB.out.cell (World.block_lt_of_cell? w _ hx140_0)).trans hx140_0
                    have HR140_0 := Aside0.mk hi140_0
                    have HC140_0 := Aside0.mk hl140_0
                    clear hi140_0 hl140_0
                    replace p140 := eq_true p140
                    replace q140 := eq_true q140
                    go_wp2_with (first | ((with_reducible refine gate_callee (f := 10) rfl ?_); refine goesL_ (some 31) rfl rfl Try.func10 (by kernel_rfl) rfl #[.slice A140_0 (rd_L1 l0 x8_1).length c140_0] rfl (by (try simp only [List.map_toArray, List.map_cons, List.map_nil]); first | done | rfl | (simp only [List.length_drop, List.length_take]; rfl)) ?_; (with_reducible refine (crc_Frame.calls kj4 _ _ (rd_L1 l0 x8_1) t141 t142 _ ?side1 ?side2 A10.out).mono ?_); (case side1 => repeat (first | exact (Kd.C_below HR140_0.out HB.out) | (with_reducible refine Kd.C_alloc ?_ _) | (with_reducible refine Kd.C_drewN ?_ _) | (with_reducible refine Kd.C_drew ?_))); (case side2 => exact HC140_0.out); rintro e w26 ⟨v143, rfl, ho0, hb⟩; refine ⟨_, rfl, ?_⟩; have n0_ := Aside0.mk (Kd.R_elder' (by (with_reducible repeat (first | apply Kd.R_alloc | apply Kd.R_drewN | apply Kd.R_drew)); exact HO_6.out) (Kd.R_base ho0) hb); have n1_ := Aside0.mk (Kd.R_below (by (with_reducible repeat (first | apply Kd.R_alloc | apply Kd.R_drewN | apply Kd.R_drew)); exact HO_7.out) hb); have n2_ := Aside0.mk (Kd.R_lower (Kd.R_new' ho0 (Kd.R_lt (by (with_reducible repeat (first | apply Kd.R_alloc | apply Kd.R_drewN | apply Kd.R_drew)); exact HO_6.out))) (below_size (by repeat (first | (with_reducible first | exact HB.out | apply below_alloc | apply pw_below_drewN | apply below_drew1) | exact HB.out)))); have n3_ := Aside0.mk (below_step (by repeat (first | (with_reducible first | exact HB.out | apply below_alloc | apply pw_below_drewN | apply below_drew1) | exact HB.out)) hb); clear HO_6; clear HO_7; clear HB; have HO_6 := n0_; have HO_7 := n1_; have HO144 := n2_; have HB := n3_; clear n0_ n1_ n2_ n3_; (try clear hb); (try clear hb2); (try clear hk); (try clear hi); (try clear ho0); have p152 : 0 ≤ (x8_1 : Int) := of_decide_eq_true (by first | (with_reducible assumption) | assumption); have q152 : x8_1 < (l0.length : Int) := of_decide_eq_true (by first | (with_reducible assumption) | assumption); obtain ⟨ad152, A152_0, c152_0, e152, hx152_0, hl152_0, hi152_0⟩ := at_L1 HR0.out x8_1 p152 q152; obtain rfl : ad140 = ad152 := (by injection e152); replace hx152_0 := (HB.out.cell (World.block_lt_of_cell? w _ hx152_0)).trans hx152_0; have HR152_0 := Aside0.mk hi152_0; have HC152_0 := Aside0.mk hl152_0; clear hi152_0 hl152_0; replace p152 := eq_true p152; replace q152 := eq_true q152))
                    go_ret
                    exact ⟨by first | rfl | (simp [errW_none, errW_some] <;> rfl) | (simp [*, errW_none, errW_some] <;> rfl), by repeat (first | (with_reducible first | exact HB.out | apply below_alloc | apply pw_below_drewN | apply below_drew1) | exact HB.out)⟩
                  · replace c25 := Bool.eq_false_iff.mpr c25
                    subst c25
                    have H1 : (some false) = some r := by rw [if_neg (show ¬ (false = true) by decide)] at H; exact H
                    clear H
                    have H := H1
                    clear H1
                    obtain rfl := Option.some.inj H
                    have p140 : 0 ≤ (x8_1 : Int) := of_decide_eq_true (by first | (with_reducible assumption) | assumption)
                    have q140 : x8_1 < (l0.length : Int) := of_decide_eq_true (by first | (with_reducible assumption) | assumption)
                    obtain ⟨ad140, A140_0, c140_0, e140, hx140_0, hl140_0, hi140_0⟩ := at_L1 HR0.out x8_1 p140 q140
                    cases e140
                    replace hx140_0 := (HB.out.cell (World.block_lt_of_cell? w _ hx140_0)).trans hx140_0
                    have HR140_0 := Aside0.mk hi140_0
                    have HC140_0 := Aside0.mk hl140_0
                    clear hi140_0 hl140_0
                    replace p140 := eq_true p140
                    replace q140 := eq_true q140
                    go_wp2_with (first | ((with_reducible refine gate_callee (f := 10) rfl ?_); refine goesL_ (some 31) rfl rfl Try.func10 (by kernel_rfl) rfl #[.slice A140_0 (rd_L1 l0 x8_1).length c140_0] rfl (by (try simp only [List.map_toArray, List.map_cons, List.map_nil]); first | done | rfl | (simp only [List.length_drop, List.length_take]; rfl)) ?_; (with_reducible refine (crc_Frame.calls kj4 _ _ (rd_L1 l0 x8_1) t141 t142 _ ?side1 ?side2 A10.out).mono ?_); (case side1 => repeat (first | exact (Kd.C_below HR140_0.out HB.out) | (with_reducible refine Kd.C_alloc ?_ _) | (with_reducible refine Kd.C_drewN ?_ _) | (with_reducible refine Kd.C_drew ?_))); (case side2 => exact HC140_0.out); rintro e w27 ⟨v143, rfl, ho0, hb⟩; refine ⟨_, rfl, ?_⟩; have n0_ := Aside0.mk (Kd.R_elder' (by (with_reducible repeat (first | apply Kd.R_alloc | apply Kd.R_drewN | apply Kd.R_drew)); exact HO_6.out) (Kd.R_base ho0) hb); have n1_ := Aside0.mk (Kd.R_below (by (with_reducible repeat (first | apply Kd.R_alloc | apply Kd.R_drewN | apply Kd.R_drew)); exact HO_7.out) hb); have n2_ := Aside0.mk (Kd.R_lower (Kd.R_new' ho0 (Kd.R_lt (by (with_reducible repeat (first | apply Kd.R_alloc | apply Kd.R_drewN | apply Kd.R_drew)); exact HO_6.out))) (below_size (by repeat (first | (with_reducible first | exact HB.out | apply below_alloc | apply pw_below_drewN | apply below_drew1) | exact HB.out)))); have n3_ := Aside0.mk (below_step (by repeat (first | (with_reducible first | exact HB.out | apply below_alloc | apply pw_below_drewN | apply below_drew1) | exact HB.out)) hb); clear HO_6; clear HO_7; clear HB; have HO_6 := n0_; have HO_7 := n1_; have HO144 := n2_; have HB := n3_; clear n0_ n1_ n2_ n3_; (try clear hb); (try clear hb2); (try clear hk); (try clear hi); (try clear ho0)))
                    go_ret
                    exact ⟨by first | rfl | (simp [errW_none, errW_some] <;> rfl) | (simp [*, errW_none, errW_some] <;> rfl), by repeat (first | (with_reducible first | exact HB.out | apply below_alloc | apply pw_below_drewN | apply below_drew1) | exact HB.out)⟩
              · rw [if_neg c9] at H
                exact absurd H (by simp)
            · rw [if_neg c8] at H
              exact absurd H (by simp)
          · replace c7 := Bool.eq_false_iff.mpr c7
            subst c7
            have H1 : (if (x7_1.length : Int) = 0 then (some t139) else (if (wrap64 ((Int.tmod (wrap64 (a1)) (x7_1.length : Int)) + 1)) < (x7_1.length : Int) then (if 0 ≤ (wrap64 ((Int.tmod (wrap64 (a1)) (x7_1.length : Int)) + 1)) then (if 0 ≤ (wrap64 ((rd x7_1 (wrap64 ((Int.tmod (wrap64 (a1)) (x7_1.length : Int)) + 1))) - 1)) then (if (wrap64 ((rd x7_1 (wrap64 ((Int.tmod (wrap64 (a1)) (x7_1.length : Int)) + 1))) - 1)) < (x6_1.length : Int) then ((crc_Scan.f (x6_1.set ((wrap64 ((rd x7_1 (wrap64 ((Int.tmod (wrap64 (a1)) (x7_1.length : Int)) + 1))) - 1)) : Int).toNat (Go.bits .xor .u8 (rd x6_1 (wrap64 ((rd x7_1 (wrap64 ((Int.tmod (wrap64 (a1)) (x7_1.length : Int)) + 1))) - 1))) 1))).bind fun bt156 => (if t139 = true then (if 0 ≤ (Int.tmod (wrap64 (a1)) (x7_1.length : Int)) then (if (Int.tmod (wrap64 (a1)) (x7_1.length : Int)) < (x7_1.length : Int) then (if bt156.2 = (rd x7_1 (Int.tmod (wrap64 (a1)) (x7_1.length : Int))) then (if (Int.tmod (wrap64 (a1)) (x7_1.length : Int)) ≤ (l0.length : Int) then ((tidemillref02_Lists.f bt156.1 (l0.take ((Int.tmod (wrap64 (a1)) (x7_1.length : Int)) : Int).toNat)).bind fun t165 => (some t165)) else (none)) else (some false)) else (none)) else (none)) else (some false))) else (none)) else (none)) else (none)) else (if 0 ≤ (wrap64 ((x6_1.length : Int) - 1)) then (if (wrap64 ((x6_1.length : Int) - 1)) < (x6_1.length : Int) then ((crc_Scan.f (x6_1.set ((wrap64 ((x6_1.length : Int) - 1)) : Int).toNat (Go.bits .xor .u8 (rd x6_1 (wrap64 ((x6_1.length : Int) - 1))) 1))).bind fun bt168 => (if t139 = true then (if 0 ≤ (Int.tmod (wrap64 (a1)) (x7_1.length : Int)) then (if (Int.tmod (wrap64 (a1)) (x7_1.length : Int)) < (x7_1.length : Int) then (if bt168.2 = (rd x7_1 (Int.tmod (wrap64 (a1)) (x7_1.length : Int))) then (if (Int.tmod (wrap64 (a1)) (x7_1.length : Int)) ≤ (l0.length : Int) then ((tidemillref02_Lists.f bt168.1 (l0.take ((Int.tmod (wrap64 (a1)) (x7_1.length : Int)) : Int).toNat)).bind fun t177 => (some t177)) else (none)) else (some false)) else (none)) else (none)) else (some false))) else (none)) else (none)))) = some r := by rw [if_neg (show ¬ (false = true) by decide)] at H; exact H
            clear H
            have H := H1
            clear H1
            by_cases c28 : (x7_1.length : Int) = 0
            · rw [if_pos c28] at H
              have c28b0 : ((x7_1.length : Int) == 0) = true := beq_iff_eq.mpr c28
              have c28b1 : ((x7_1.length : Int) != 0) = false := bne_eq_false_iff_eq.mpr c28
              clear c28
              obtain rfl := Option.some.inj H
              obtain ⟨Ao29, co29, eo29⟩ := Kd.R_slice HO_7.out
              subst eo29
              go_wp2
              go_ret
              exact ⟨by first | rfl | (simp [errW_none, errW_some] <;> rfl) | (simp [*, errW_none, errW_some] <;> rfl), by repeat (first | (with_reducible first | exact HB.out | apply below_alloc | apply pw_below_drewN | apply below_drew1) | exact HB.out)⟩
            · rw [if_neg c28] at H
              have c28b0 : ((x7_1.length : Int) == 0) = false := beq_eq_false_iff_ne.mpr c28
              have c28b1 : ((x7_1.length : Int) != 0) = true := bne_iff_ne.mpr c28
              have c28b2 : ¬ (x7_1 = []) := fun h_ => c28 (by rw [h_]; rfl)
              by_cases c30 : (wrap64 ((Int.tmod (wrap64 (a1)) (x7_1.length : Int)) + 1)) < (x7_1.length : Int)
              · rw [if_pos c30] at H
                have c30b0 : decide ((wrap64 ((Int.tmod (wrap64 (a1)) (x7_1.length : Int)) + 1)) < (x7_1.length : Int)) = true := decide_eq_true c30
                clear c30
                obtain ⟨ji31, hji31⟩ : ∃ j_ : Int, (wrap64 ((Int.tmod (wrap64 (a1)) (x7_1.length : Int)) + 1)) = j_ := ⟨_, rfl⟩
                replace H : (if 0 ≤ (ji31) then (if 0 ≤ (wrap64 ((rd x7_1 (ji31)) - 1)) then (if (wrap64 ((rd x7_1 (ji31)) - 1)) < (x6_1.length : Int) then ((crc_Scan.f (x6_1.set ((wrap64 ((rd x7_1 (ji31)) - 1)) : Int).toNat (Go.bits .xor .u8 (rd x6_1 (wrap64 ((rd x7_1 (ji31)) - 1))) 1))).bind fun bt156 => (if t139 = true then (if 0 ≤ (Int.tmod (wrap64 (a1)) (x7_1.length : Int)) then (if (Int.tmod (wrap64 (a1)) (x7_1.length : Int)) < (x7_1.length : Int) then (if bt156.2 = (rd x7_1 (Int.tmod (wrap64 (a1)) (x7_1.length : Int))) then (if (Int.tmod (wrap64 (a1)) (x7_1.length : Int)) ≤ (l0.length : Int) then ((tidemillref02_Lists.f bt156.1 (l0.take ((Int.tmod (wrap64 (a1)) (x7_1.length : Int)) : Int).toNat)).bind fun t165 => (some t165)) else (none)) else (some false)) else (none)) else (none)) else (some false))) else (none)) else (none)) else (none)) = some r := by first | (rw [hji31] at H; exact H) | (simp only [hji31] at H ⊢; exact H)
                (try rw [hji31] at c30b0)
                have hji31w : (IntKind.i64.wrap ((Int.tmod (wrap64 (a1)) (x7_1.length : Int)) + 1)) = ji31 := (i64_w _).trans hji31
                by_cases c32 : 0 ≤ (ji31)
                · rw [if_pos c32] at H
                  have c32b0 : decide (0 ≤ (ji31)) = true := decide_eq_true c32
                  clear c32
                  obtain ⟨ji33, hji33⟩ : ∃ j_ : Int, (wrap64 ((rd x7_1 (ji31)) - 1)) = j_ := ⟨_, rfl⟩
                  (try (have hji31xhji33 := hji31; rw [hji33] at hji31xhji33))
                  (try (have hji31wxhji33 := hji31w; rw [hji33] at hji31wxhji33))
                  replace H : (if 0 ≤ (ji33) then (if (ji33) < (x6_1.length : Int) then ((crc_Scan.f (x6_1.set ((ji33) : Int).toNat (Go.bits .xor .u8 (rd x6_1 (ji33)) 1))).bind fun bt156 => (if t139 = true then (if 0 ≤ (Int.tmod (wrap64 (a1)) (x7_1.length : Int)) then (if (Int.tmod (wrap64 (a1)) (x7_1.length : Int)) < (x7_1.length : Int) then (if bt156.2 = (rd x7_1 (Int.tmod (wrap64 (a1)) (x7_1.length : Int))) then (if (Int.tmod (wrap64 (a1)) (x7_1.length : Int)) ≤ (l0.length : Int) then ((tidemillref02_Lists.f bt156.1 (l0.take ((Int.tmod (wrap64 (a1)) (x7_1.length : Int)) : Int).toNat)).bind fun t165 => (some t165)) else (none)) else (some false)) else (none)) else (none)) else (some false))) else (none)) else (none)) = some r := by first | (rw [hji33] at H; exact H) | (simp only [hji33] at H ⊢; exact H)
                  have hji33w : (IntKind.i64.wrap ((rd x7_1 (ji31)) - 1)) = ji33 := (i64_w _).trans hji33
                  by_cases c34 : 0 ≤ (ji33)
                  · rw [if_pos c34] at H
                    have c34b0 : decide (0 ≤ (ji33)) = true := decide_eq_true c34
                    clear c34
                    by_cases c35 : (ji33) < (x6_1.length : Int)
                    · rw [if_pos c35] at H
                      have c35b0 : decide ((ji33) < (x6_1.length : Int)) = true := decide_eq_true c35
                      clear c35
                      obtain ⟨y155, hy155⟩ : ∃ y_ : List Int, y_ = (x6_1.set ((ji33) : Int).toNat (Go.bits .xor .u8 (rd x6_1 (ji33)) 1)) := ⟨_, rfl⟩
                      replace H : ((crc_Scan.f y155).bind fun bt156 => (if t139 = true then (if 0 ≤ (Int.tmod (wrap64 (a1)) (x7_1.length : Int)) then (if (Int.tmod (wrap64 (a1)) (x7_1.length : Int)) < (x7_1.length : Int) then (if bt156.2 = (rd x7_1 (Int.tmod (wrap64 (a1)) (x7_1.length : Int))) then (if (Int.tmod (wrap64 (a1)) (x7_1.length : Int)) ≤ (l0.length : Int) then ((tidemillref02_Lists.f bt156.1 (l0.take ((Int.tmod (wrap64 (a1)) (x7_1.length : Int)) : Int).toNat)).bind fun t165 => (some t165)) else (none)) else (some false)) else (none)) else (none)) else (some false))) = some r := by first | (rw [hy155]; with_reducible exact H) | (have H2_ := (Option.bind_some _ _).symm.trans H; rw [hy155]; with_reducible exact H2_) | (have H2_ := (Option.bind_some _ _).symm.trans H; with_reducible exact H2_) | with_reducible exact H | (rw [hy155]; exact H) | exact H
                      have Ny155 := Aside0.mk hy155
                      clear hy155
                      replace H := Option.bind_eq_some_iff.mp H
                      obtain ⟨⟨t156, t157⟩, A370, H⟩ := H
                      replace H : (if t139 = true then (if 0 ≤ (Int.tmod (wrap64 (a1)) (x7_1.length : Int)) then (if (Int.tmod (wrap64 (a1)) (x7_1.length : Int)) < (x7_1.length : Int) then (if t157 = (rd x7_1 (Int.tmod (wrap64 (a1)) (x7_1.length : Int))) then (if (Int.tmod (wrap64 (a1)) (x7_1.length : Int)) ≤ (l0.length : Int) then ((tidemillref02_Lists.f t156 (l0.take ((Int.tmod (wrap64 (a1)) (x7_1.length : Int)) : Int).toNat)).bind fun t165 => (some t165)) else (none)) else (some false)) else (none)) else (none)) else (some false)) = some r := H
                      have A37 := Aside0.mk A370
                      clear A370
                      by_cases c38 : t139 = true
                      · subst c38
                        have H1 : (if 0 ≤ (Int.tmod (wrap64 (a1)) (x7_1.length : Int)) then (if (Int.tmod (wrap64 (a1)) (x7_1.length : Int)) < (x7_1.length : Int) then (if t157 = (rd x7_1 (Int.tmod (wrap64 (a1)) (x7_1.length : Int))) then (if (Int.tmod (wrap64 (a1)) (x7_1.length : Int)) ≤ (l0.length : Int) then ((tidemillref02_Lists.f t156 (l0.take ((Int.tmod (wrap64 (a1)) (x7_1.length : Int)) : Int).toNat)).bind fun t165 => (some t165)) else (none)) else (some false)) else (none)) else (none)) = some r := by rw [if_pos rfl] at H; exact H
                        clear H
                        have H := H1
                        clear H1
                        obtain ⟨ji39, hji39⟩ : ∃ j_ : Int, (Int.tmod (wrap64 (a1)) (x7_1.length : Int)) = j_ := ⟨_, rfl⟩
                        (try (have hji31xhji39 := hji31; rw [hji39] at hji31xhji39))
                        (try (have hji31wxhji39 := hji31w; rw [hji39] at hji31wxhji39))
                        (try (have hji33xhji39 := hji33; rw [hji39] at hji33xhji39))
                        (try (have hji33wxhji39 := hji33w; rw [hji39] at hji33wxhji39))
                        replace H : (if 0 ≤ (ji39) then (if (ji39) < (x7_1.length : Int) then (if t157 = (rd x7_1 (ji39)) then (if (ji39) ≤ (l0.length : Int) then ((tidemillref02_Lists.f t156 (l0.take ((ji39) : Int).toNat)).bind fun t165 => (some t165)) else (none)) else (some false)) else (none)) else (none)) = some r := by first | (rw [hji39] at H; exact H) | (simp only [hji39] at H ⊢; exact H)
                        (try rw [hji39] at c30b0)
                        (try rw [hji39] at A37)
                        by_cases c40 : 0 ≤ (ji39)
                        · rw [if_pos c40] at H
                          have c40b0 : decide (0 ≤ (ji39)) = true := decide_eq_true c40
                          clear c40
                          by_cases c41 : (ji39) < (x7_1.length : Int)
                          · rw [if_pos c41] at H
                            have c41b0 : decide ((ji39) < (x7_1.length : Int)) = true := decide_eq_true c41
                            clear c41
                            by_cases c42 : t157 = (rd x7_1 (ji39))
                            · rw [if_pos c42] at H
                              have c42b0 : (t157 == (rd x7_1 (ji39))) = true := beq_iff_eq.mpr c42
                              have c42b1 : (t157 != (rd x7_1 (ji39))) = false := bne_eq_false_iff_eq.mpr c42
                              clear c42
                              have c43b0 := eq_true (of_decide_eq_true (by first | (with_reducible assumption) | assumption) : 0 ≤ (ji39))
                              by_cases c44 : (ji39) ≤ (l0.length : Int)
                              · rw [if_pos c44] at H
                                have c44b0 := eq_true c44
                                have c44b1 : decide ((ji39) ≤ (l0.length : Int)) = true := decide_eq_true c44
                                clear c44
                                obtain ⟨y161, hy161⟩ : ∃ y_ : List (List Int), y_ = (l0.take ((ji39) : Int).toNat) := ⟨_, rfl⟩
                                replace H : ((tidemillref02_Lists.f t156 y161).bind fun t165 => (some t165)) = some r := by first | (rw [hy161]; with_reducible exact H) | (have H2_ := (Option.bind_some _ _).symm.trans H; rw [hy161]; with_reducible exact H2_) | (have H2_ := (Option.bind_some _ _).symm.trans H; with_reducible exact H2_) | with_reducible exact H | (rw [hy161]; exact H) | exact H
                                have Ny161 := Aside0.mk hy161
                                clear hy161
                                replace H := Option.bind_eq_some_iff.mp H
                                obtain ⟨t165, A450, H⟩ := H
                                replace H : (some t165) = some r := H
                                have A45 := Aside0.mk A450
                                clear A450
                                obtain rfl := Option.some.inj H
                                obtain ⟨Ao46, co46, eo46⟩ := Kd.R_slice HO_7.out
                                subst eo46
                                obtain ⟨Ao47, co47, eo47⟩ := Kd.R_slice HO_6.out
                                subst eo47
                                have p153 : 0 ≤ ((ji31) : Int) := of_decide_eq_true (by first | (with_reducible assumption) | assumption)
                                have q153 : (ji31) < (x7_1.length : Int) := of_decide_eq_true (by first | (with_reducible assumption) | assumption)
                                obtain ⟨ad153, e153, hx153_0⟩ := Kd.at_int (Kd.R_reads' HO_7.out).2.2 (ji31) p153 q153
                                cases e153
                                replace p153 := eq_true p153
                                replace q153 := eq_true q153
                                have p154 : 0 ≤ ((ji33) : Int) := of_decide_eq_true (by first | (with_reducible assumption) | assumption)
                                have q154 : (ji33) < (x6_1.length : Int) := of_decide_eq_true (by first | (with_reducible assumption) | assumption)
                                obtain ⟨ad154, e154, hx154_0⟩ := Kd.at_int (Kd.R_reads' HO_6.out).2.2 (ji33) p154 q154
                                cases e154
                                replace p154 := eq_true p154
                                replace q154 := eq_true q154
                                have p36 : 0 ≤ ((ji33) : Int) := of_decide_eq_true (by first | (with_reducible assumption) | assumption)
                                have q36 : ((ji33) : Int) < ((x6_1.length : Int) : Int) := of_decide_eq_true (by first | (with_reducible assumption) | assumption)
                                obtain ⟨go36, co36, eo36, gb36, gl36, cl36, HG36⟩ := Kd.R_form HO_6.out (by omega)
                                (first | cases eo36 | (injection eo36 with ea_ en_ ec_; (first | subst ea_ | (injection ea_ with ea_; subst ea_)); subst ec_; clear en_))
                                have GB36 := Aside0.mk gb36
                                have GG36 := Aside0.mk HG36
                                clear gb36 gl36 HG36
                                (first | simp only [add_plain] at hx154_0 | skip)
                                obtain ⟨hx36_0, hf36_0⟩ := Kd.R_celln 0 HO_6.out ((ji33) : Int) p36 q36
                                replace p36 := eq_true p36
                                replace q36 := eq_true q36
                                have HP48 := Kd.R_putg HO_6.out ((ji33) : Int) (Go.bits .xor .u8 (rd x6_1 (ji33)) 1)
                                go_wp2_with (first | ((with_reducible refine gate_store (t := 5) (p := 88) rfl ?_); refine store_event (t := 5) (p := 88) (v := ?vo_w49) (w1 := (wc.setCell ⟨go36, ((ji33) : Int).toNat, none⟩ (.int .u8 (Go.bits .xor .u8 (rd x6_1 (ji33)) 1)))) ?hg ?ho ?hn ?hr ?_; (case ho => rfl); (case hg => rfl); (case hn => rfl); (case hr => first | (go_simp; done) | (go_simp; rfl)); intro w49 hw; have hg : wc.grownBy w49 (some go36) := (by rw [hw]; exact HP48.2); have hp_ : Kd.R (Kd.int .u8) 5 w49 w.heap.size (fun _ => True) (.slice (some ⟨go36, 0, none⟩) x6_1.length co47) y155 := (by rw [hw, Ny155.out]; exact HP48.1); clear HP48; have n0_ := Aside0.mk (hp_); have n1_ := Aside0.mk (Kd.R_over' (v := (.slice (some ⟨go36, 0, none⟩) x6_1.length co47)) (by (with_reducible repeat (first | apply Kd.R_alloc | apply Kd.R_drewN | apply Kd.R_drew)); exact HO_7.out) (Kd.R_typed HO_6.out) (by decide) hg); have n2_ := Aside0.mk ((by rw [hw]; exact below_set (HB.out) GB36.out : Below w.heap.size w w49)); clear HO_6; clear HO_7; clear HB; have HO_6 := n0_; have HO_7 := n1_; have HB := n2_; clear n0_ n1_ n2_; clear hg hw hp_) | ((with_reducible refine gate_callee (f := 14) rfl ?_); refine goesL_ (some 91) rfl rfl Try.func14 (by kernel_rfl) rfl #[.slice (some ⟨go36, 0, none⟩) y155.length co47] rfl (by (try simp only [List.map_toArray, List.map_cons, List.map_nil]); first | done | (rw [show y155.length = x6_1.length from (Kd.R_reads' HO_6.out).1.symm] <;> rfl) | rfl | (simp only [List.length_drop, List.length_take]; rfl)) ?_; (with_reducible refine (crc_Scan.calls _ _ y155 t156 t157 _ ?side1 ?side2 A37.out).mono ?_); (case side1 => repeat (first | exact (Kd.R_reads' HO_6.out).2.2 | (with_reducible refine Kd.C_alloc ?_ _) | (with_reducible refine Kd.C_drewN ?_ _) | (with_reducible refine Kd.C_drew ?_))); (case side2 => rw [show y155.length = x6_1.length from (Kd.R_reads' HO_6.out).1.symm]; exact (Kd.R_reads' HO_6.out).2.1); rintro e w50 ⟨v158, rfl, ho0, hb⟩; refine ⟨_, rfl, ?_⟩; have n0_ := Aside0.mk (Kd.R_below (by (with_reducible repeat (first | apply Kd.R_alloc | apply Kd.R_drewN | apply Kd.R_drew)); exact HO_6.out) hb); have n1_ := Aside0.mk (Kd.R_below (by (with_reducible repeat (first | apply Kd.R_alloc | apply Kd.R_drewN | apply Kd.R_drew)); exact HO_7.out) hb); have n2_ := Aside0.mk (Kd.S_lower (Kd.S_new' ho0 (Kd.R_lt (by (with_reducible repeat (first | apply Kd.R_alloc | apply Kd.R_drewN | apply Kd.R_drew)); exact HO_6.out))) (below_size (by repeat (first | (with_reducible first | exact HB.out | apply below_alloc | apply pw_below_drewN | apply below_drew1) | exact HB.out)))); have n3_ := Aside0.mk (below_step (by repeat (first | (with_reducible first | exact HB.out | apply below_alloc | apply pw_below_drewN | apply below_drew1) | exact HB.out)) hb); clear HO_6; clear HO_7; clear HB; have HO_6 := n0_; have HO_7 := n1_; have HO159 := n2_; have HB := n3_; clear n0_ n1_ n2_ n3_; (try clear hb); (try clear hb2); (try clear hk); (try clear hi); (try clear ho0); have p160 : 0 ≤ ((ji39) : Int) := of_decide_eq_true (by first | (with_reducible assumption) | assumption); have q160 : (ji39) < (x7_1.length : Int) := of_decide_eq_true (by first | (with_reducible assumption) | assumption); obtain ⟨ad160, e160, hx160_0⟩ := Kd.at_int (Kd.R_reads' HO_7.out).2.2 (ji39) p160 q160; obtain rfl : ad153 = ad160 := (by injection e160); replace p160 := eq_true p160; replace q160 := eq_true q160; have q51 : ((ji39) : Int) ≤ ((l0.length : Int) : Int) := of_decide_eq_true (by first | (with_reducible assumption) | assumption); obtain ⟨i051, hi051, _, hsz51, _⟩ := info_parts info22; have hroom51 : l0.length ≤ c0 := HC0.out; have hC51 : Kd.C (Kd.slice 5 (Kd.int .u8)) _ A0 l0.length l0 := HR0.out; have hcut51 := cut_to (P := Try.prog) 37 22 .i64 Try.underlying37 hi051 A0 l0.length c0 (ji39) (of_decide_eq_true (by first | (with_reducible assumption) | assumption)) q51 hroom51; have hr51 := Kd.C_take (m := ((ji39) : Int).toNat) hC51 (by omega); have hy51 : y161.length = ((ji39) : Int).toNat := (by rw [Ny161.out, List.length_take]; omega); rw [← Ny161.out] at hr51; rw [← hy51] at hcut51; have HR164 := Aside0.mk hr51; have HC164 := Aside0.mk (show y161.length ≤ c0 from by omega); clear hr51 hC51 hroom51 hi051 hsz51; have KY51 := Aside0.mk hy51; clear hy51; replace q51 := eq_true q51; obtain ⟨Ao52, co52, eo52⟩ := Kd.S_slice HO159.out; subst eo52) | (go_at_call 18; (with_reducible refine (tidemillref02_Lists.calls _ _ t156 _ _ y161 t165 _ ?side1 ?side2 ?side3 ?side4 A45.out).mono ?_); (case side1 => repeat (first | exact (Kd.S_reads' HO159.out).2.2 | (with_reducible refine Kd.C_alloc ?_ _) | (with_reducible refine Kd.C_drewN ?_ _) | (with_reducible refine Kd.C_drew ?_))); (case side2 => exact (Kd.S_reads' HO159.out).2.1); (case side3 => repeat (first | exact (Kd.C_below HR164.out HB.out) | (with_reducible refine Kd.C_alloc ?_ _) | (with_reducible refine Kd.C_drewN ?_ _) | (with_reducible refine Kd.C_drew ?_))); (case side4 => exact HC164.out); rintro e w' ⟨rfl, ⟨nd, rfl⟩⟩))
                                go_ret
                                exact ⟨by first | rfl | (simp [errW_none, errW_some] <;> rfl) | (simp only [← hji31, ← hji33, ← hji39]; first | rfl | (simp [errW_none, errW_some] <;> rfl)) | (simp [*, errW_none, errW_some] <;> rfl), by repeat (first | (with_reducible first | exact HB.out | apply below_alloc | apply pw_below_drewN | apply below_drew1) | exact HB.out)⟩
                              · rw [if_neg c44] at H
                                exact absurd H (by simp)
                            · rw [if_neg c42] at H
                              have c42b0 : (t157 == (rd x7_1 (ji39))) = false := beq_eq_false_iff_ne.mpr c42
                              have c42b1 : (t157 != (rd x7_1 (ji39))) = true := bne_iff_ne.mpr c42
                              obtain rfl := Option.some.inj H
                              obtain ⟨Ao53, co53, eo53⟩ := Kd.R_slice HO_7.out
                              subst eo53
                              obtain ⟨Ao54, co54, eo54⟩ := Kd.R_slice HO_6.out
                              subst eo54
                              have p153 : 0 ≤ ((ji31) : Int) := of_decide_eq_true (by first | (with_reducible assumption) | assumption)
                              have q153 : (ji31) < (x7_1.length : Int) := of_decide_eq_true (by first | (with_reducible assumption) | assumption)
                              obtain ⟨ad153, e153, hx153_0⟩ := Kd.at_int (Kd.R_reads' HO_7.out).2.2 (ji31) p153 q153
                              cases e153
                              replace p153 := eq_true p153
                              replace q153 := eq_true q153
                              have p154 : 0 ≤ ((ji33) : Int) := of_decide_eq_true (by first | (with_reducible assumption) | assumption)
                              have q154 : (ji33) < (x6_1.length : Int) := of_decide_eq_true (by first | (with_reducible assumption) | assumption)
                              obtain ⟨ad154, e154, hx154_0⟩ := Kd.at_int (Kd.R_reads' HO_6.out).2.2 (ji33) p154 q154
                              cases e154
                              replace p154 := eq_true p154
                              replace q154 := eq_true q154
                              have p36 : 0 ≤ ((ji33) : Int) := of_decide_eq_true (by first | (with_reducible assumption) | assumption)
                              have q36 : ((ji33) : Int) < ((x6_1.length : Int) : Int) := of_decide_eq_true (by first | (with_reducible assumption) | assumption)
                              obtain ⟨go36, co36, eo36, gb36, gl36, cl36, HG36⟩ := Kd.R_form HO_6.out (by omega)
                              (first | cases eo36 | (injection eo36 with ea_ en_ ec_; (first | subst ea_ | (injection ea_ with ea_; subst ea_)); subst ec_; clear en_))
                              have GB36 := Aside0.mk gb36
                              have GG36 := Aside0.mk HG36
                              clear gb36 gl36 HG36
                              (first | simp only [add_plain] at hx154_0 | skip)
                              obtain ⟨hx36_0, hf36_0⟩ := Kd.R_celln 0 HO_6.out ((ji33) : Int) p36 q36
                              replace p36 := eq_true p36
                              replace q36 := eq_true q36
                              have HP55 := Kd.R_putg HO_6.out ((ji33) : Int) (Go.bits .xor .u8 (rd x6_1 (ji33)) 1)
                              go_wp2_with (first | ((with_reducible refine gate_store (t := 5) (p := 88) rfl ?_); refine store_event (t := 5) (p := 88) (v := ?vo_w56) (w1 := (wc.setCell ⟨go36, ((ji33) : Int).toNat, none⟩ (.int .u8 (Go.bits .xor .u8 (rd x6_1 (ji33)) 1)))) ?hg ?ho ?hn ?hr ?_; (case ho => rfl); (case hg => rfl); (case hn => rfl); (case hr => first | (go_simp; done) | (go_simp; rfl)); intro w56 hw; have hg : wc.grownBy w56 (some go36) := (by rw [hw]; exact HP55.2); have hp_ : Kd.R (Kd.int .u8) 5 w56 w.heap.size (fun _ => True) (.slice (some ⟨go36, 0, none⟩) x6_1.length co54) y155 := (by rw [hw, Ny155.out]; exact HP55.1); clear HP55; have n0_ := Aside0.mk (hp_); have n1_ := Aside0.mk (Kd.R_over' (v := (.slice (some ⟨go36, 0, none⟩) x6_1.length co54)) (by (with_reducible repeat (first | apply Kd.R_alloc | apply Kd.R_drewN | apply Kd.R_drew)); exact HO_7.out) (Kd.R_typed HO_6.out) (by decide) hg); have n2_ := Aside0.mk ((by rw [hw]; exact below_set (HB.out) GB36.out : Below w.heap.size w w56)); clear HO_6; clear HO_7; clear HB; have HO_6 := n0_; have HO_7 := n1_; have HB := n2_; clear n0_ n1_ n2_; clear hg hw hp_) | ((with_reducible refine gate_callee (f := 14) rfl ?_); refine goesL_ (some 91) rfl rfl Try.func14 (by kernel_rfl) rfl #[.slice (some ⟨go36, 0, none⟩) y155.length co54] rfl (by (try simp only [List.map_toArray, List.map_cons, List.map_nil]); first | done | (rw [show y155.length = x6_1.length from (Kd.R_reads' HO_6.out).1.symm] <;> rfl) | rfl | (simp only [List.length_drop, List.length_take]; rfl)) ?_; (with_reducible refine (crc_Scan.calls _ _ y155 t156 t157 _ ?side1 ?side2 A37.out).mono ?_); (case side1 => repeat (first | exact (Kd.R_reads' HO_6.out).2.2 | (with_reducible refine Kd.C_alloc ?_ _) | (with_reducible refine Kd.C_drewN ?_ _) | (with_reducible refine Kd.C_drew ?_))); (case side2 => rw [show y155.length = x6_1.length from (Kd.R_reads' HO_6.out).1.symm]; exact (Kd.R_reads' HO_6.out).2.1); rintro e w57 ⟨v158, rfl, ho0, hb⟩; refine ⟨_, rfl, ?_⟩; have n0_ := Aside0.mk (Kd.R_below (by (with_reducible repeat (first | apply Kd.R_alloc | apply Kd.R_drewN | apply Kd.R_drew)); exact HO_6.out) hb); have n1_ := Aside0.mk (Kd.R_below (by (with_reducible repeat (first | apply Kd.R_alloc | apply Kd.R_drewN | apply Kd.R_drew)); exact HO_7.out) hb); have n2_ := Aside0.mk (Kd.S_lower (Kd.S_new' ho0 (Kd.R_lt (by (with_reducible repeat (first | apply Kd.R_alloc | apply Kd.R_drewN | apply Kd.R_drew)); exact HO_6.out))) (below_size (by repeat (first | (with_reducible first | exact HB.out | apply below_alloc | apply pw_below_drewN | apply below_drew1) | exact HB.out)))); have n3_ := Aside0.mk (below_step (by repeat (first | (with_reducible first | exact HB.out | apply below_alloc | apply pw_below_drewN | apply below_drew1) | exact HB.out)) hb); clear HO_6; clear HO_7; clear HB; have HO_6 := n0_; have HO_7 := n1_; have HO159 := n2_; have HB := n3_; clear n0_ n1_ n2_ n3_; (try clear hb); (try clear hb2); (try clear hk); (try clear hi); (try clear ho0); have p160 : 0 ≤ ((ji39) : Int) := of_decide_eq_true (by first | (with_reducible assumption) | assumption); have q160 : (ji39) < (x7_1.length : Int) := of_decide_eq_true (by first | (with_reducible assumption) | assumption); obtain ⟨ad160, e160, hx160_0⟩ := Kd.at_int (Kd.R_reads' HO_7.out).2.2 (ji39) p160 q160; obtain rfl : ad153 = ad160 := (by injection e160); replace p160 := eq_true p160; replace q160 := eq_true q160))
                              go_ret
                              exact ⟨by first | rfl | (simp [errW_none, errW_some] <;> rfl) | (simp only [← hji31, ← hji33, ← hji39]; first | rfl | (simp [errW_none, errW_some] <;> rfl)) | (simp [*, errW_none, errW_some] <;> rfl), by repeat (first | (with_reducible first | exact HB.out | apply below_alloc | apply pw_below_drewN | apply below_drew1) | exact HB.out)⟩
                          · rw [if_neg c41] at H
                            exact absurd H (by simp)
                        · rw [if_neg c40] at H
                          exact absurd H (by simp)
                      · replace c38 := Bool.eq_false_iff.mpr c38
                        subst c38
                        have H1 : (some false) = some r := by rw [if_neg (show ¬ (false = true) by decide)] at H; exact H
                        clear H
                        have H := H1
                        clear H1
                        obtain rfl := Option.some.inj H
                        obtain ⟨Ao58, co58, eo58⟩ := Kd.R_slice HO_7.out
                        subst eo58
                        obtain ⟨Ao59, co59, eo59⟩ := Kd.R_slice HO_6.out
                        subst eo59
                        have p153 : 0 ≤ ((ji31) : Int) := of_decide_eq_true (by first | (with_reducible assumption) | assumption)
                        have q153 : (ji31) < (x7_1.length : Int) := of_decide_eq_true (by first | (with_reducible assumption) | assumption)
                        obtain ⟨ad153, e153, hx153_0⟩ := Kd.at_int (Kd.R_reads' HO_7.out).2.2 (ji31) p153 q153
                        cases e153
                        replace p153 := eq_true p153
                        replace q153 := eq_true q153
                        have p154 : 0 ≤ ((ji33) : Int) := of_decide_eq_true (by first | (with_reducible assumption) | assumption)
                        have q154 : (ji33) < (x6_1.length : Int) := of_decide_eq_true (by first | (with_reducible assumption) | assumption)
                        obtain ⟨ad154, e154, hx154_0⟩ := Kd.at_int (Kd.R_reads' HO_6.out).2.2 (ji33) p154 q154
                        cases e154
                        replace p154 := eq_true p154
                        replace q154 := eq_true q154
                        have p36 : 0 ≤ ((ji33) : Int) := of_decide_eq_true (by first | (with_reducible assumption) | assumption)
                        have q36 : ((ji33) : Int) < ((x6_1.length : Int) : Int) := of_decide_eq_true (by first | (with_reducible assumption) | assumption)
                        obtain ⟨go36, co36, eo36, gb36, gl36, cl36, HG36⟩ := Kd.R_form HO_6.out (by omega)
                        (first | cases eo36 | (injection eo36 with ea_ en_ ec_; (first | subst ea_ | (injection ea_ with ea_; subst ea_)); subst ec_; clear en_))
                        have GB36 := Aside0.mk gb36
                        have GG36 := Aside0.mk HG36
                        clear gb36 gl36 HG36
                        (first | simp only [add_plain] at hx154_0 | skip)
                        obtain ⟨hx36_0, hf36_0⟩ := Kd.R_celln 0 HO_6.out ((ji33) : Int) p36 q36
                        replace p36 := eq_true p36
                        replace q36 := eq_true q36
                        have HP60 := Kd.R_putg HO_6.out ((ji33) : Int) (Go.bits .xor .u8 (rd x6_1 (ji33)) 1)
                        go_wp2_with (first | ((with_reducible refine gate_store (t := 5) (p := 88) rfl ?_); refine store_event (t := 5) (p := 88) (v := ?vo_w61) (w1 := (wc.setCell ⟨go36, ((ji33) : Int).toNat, none⟩ (.int .u8 (Go.bits .xor .u8 (rd x6_1 (ji33)) 1)))) ?hg ?ho ?hn ?hr ?_; (case ho => rfl); (case hg => rfl); (case hn => rfl); (case hr => first | (go_simp; done) | (go_simp; rfl)); intro w61 hw; have hg : wc.grownBy w61 (some go36) := (by rw [hw]; exact HP60.2); have hp_ : Kd.R (Kd.int .u8) 5 w61 w.heap.size (fun _ => True) (.slice (some ⟨go36, 0, none⟩) x6_1.length co59) y155 := (by rw [hw, Ny155.out]; exact HP60.1); clear HP60; have n0_ := Aside0.mk (hp_); have n1_ := Aside0.mk (Kd.R_over' (v := (.slice (some ⟨go36, 0, none⟩) x6_1.length co59)) (by (with_reducible repeat (first | apply Kd.R_alloc | apply Kd.R_drewN | apply Kd.R_drew)); exact HO_7.out) (Kd.R_typed HO_6.out) (by decide) hg); have n2_ := Aside0.mk ((by rw [hw]; exact below_set (HB.out) GB36.out : Below w.heap.size w w61)); clear HO_6; clear HO_7; clear HB; have HO_6 := n0_; have HO_7 := n1_; have HB := n2_; clear n0_ n1_ n2_; clear hg hw hp_) | ((with_reducible refine gate_callee (f := 14) rfl ?_); refine goesL_ (some 91) rfl rfl Try.func14 (by kernel_rfl) rfl #[.slice (some ⟨go36, 0, none⟩) y155.length co59] rfl (by (try simp only [List.map_toArray, List.map_cons, List.map_nil]); first | done | (rw [show y155.length = x6_1.length from (Kd.R_reads' HO_6.out).1.symm] <;> rfl) | rfl | (simp only [List.length_drop, List.length_take]; rfl)) ?_; (with_reducible refine (crc_Scan.calls _ _ y155 t156 t157 _ ?side1 ?side2 A37.out).mono ?_); (case side1 => repeat (first | exact (Kd.R_reads' HO_6.out).2.2 | (with_reducible refine Kd.C_alloc ?_ _) | (with_reducible refine Kd.C_drewN ?_ _) | (with_reducible refine Kd.C_drew ?_))); (case side2 => rw [show y155.length = x6_1.length from (Kd.R_reads' HO_6.out).1.symm]; exact (Kd.R_reads' HO_6.out).2.1); rintro e w62 ⟨v158, rfl, ho0, hb⟩; refine ⟨_, rfl, ?_⟩; have n0_ := Aside0.mk (Kd.R_below (by (with_reducible repeat (first | apply Kd.R_alloc | apply Kd.R_drewN | apply Kd.R_drew)); exact HO_6.out) hb); have n1_ := Aside0.mk (Kd.R_below (by (with_reducible repeat (first | apply Kd.R_alloc | apply Kd.R_drewN | apply Kd.R_drew)); exact HO_7.out) hb); have n2_ := Aside0.mk (Kd.S_lower (Kd.S_new' ho0 (Kd.R_lt (by (with_reducible repeat (first | apply Kd.R_alloc | apply Kd.R_drewN | apply Kd.R_drew)); exact HO_6.out))) (below_size (by repeat (first | (with_reducible first | exact HB.out | apply below_alloc | apply pw_below_drewN | apply below_drew1) | exact HB.out)))); have n3_ := Aside0.mk (below_step (by repeat (first | (with_reducible first | exact HB.out | apply below_alloc | apply pw_below_drewN | apply below_drew1) | exact HB.out)) hb); clear HO_6; clear HO_7; clear HB; have HO_6 := n0_; have HO_7 := n1_; have HO159 := n2_; have HB := n3_; clear n0_ n1_ n2_ n3_; (try clear hb); (try clear hb2); (try clear hk); (try clear hi); (try clear ho0)))
                        go_ret
                        exact ⟨by first | rfl | (simp [errW_none, errW_some] <;> rfl) | (simp only [← hji31, ← hji33]; first | rfl | (simp [errW_none, errW_some] <;> rfl)) | (simp [*, errW_none, errW_some] <;> rfl), by repeat (first | (with_reducible first | exact HB.out | apply below_alloc | apply pw_below_drewN | apply below_drew1) | exact HB.out)⟩
                    · rw [if_neg c35] at H
                      exact absurd H (by simp)
                  · rw [if_neg c34] at H
                    exact absurd H (by simp)
                · rw [if_neg c32] at H
                  exact absurd H (by simp)
              · rw [if_neg c30] at H
                have c30b0 : decide ((wrap64 ((Int.tmod (wrap64 (a1)) (x7_1.length : Int)) + 1)) < (x7_1.length : Int)) = false := decide_eq_false c30
                clear c30
                obtain ⟨ji63, hji63⟩ : ∃ j_ : Int, (wrap64 ((x6_1.length : Int) - 1)) = j_ := ⟨_, rfl⟩
                replace H : (if 0 ≤ (ji63) then (if (ji63) < (x6_1.length : Int) then ((crc_Scan.f (x6_1.set ((ji63) : Int).toNat (Go.bits .xor .u8 (rd x6_1 (ji63)) 1))).bind fun bt168 => (if t139 = true then (if 0 ≤ (Int.tmod (wrap64 (a1)) (x7_1.length : Int)) then (if (Int.tmod (wrap64 (a1)) (x7_1.length : Int)) < (x7_1.length : Int) then (if bt168.2 = (rd x7_1 (Int.tmod (wrap64 (a1)) (x7_1.length : Int))) then (if (Int.tmod (wrap64 (a1)) (x7_1.length : Int)) ≤ (l0.length : Int) then ((tidemillref02_Lists.f bt168.1 (l0.take ((Int.tmod (wrap64 (a1)) (x7_1.length : Int)) : Int).toNat)).bind fun t177 => (some t177)) else (none)) else (some false)) else (none)) else (none)) else (some false))) else (none)) else (none)) = some r := by first | (rw [hji63] at H; exact H) | (simp only [hji63] at H ⊢; exact H)
                have hji63w : (IntKind.i64.wrap ((x6_1.length : Int) - 1)) = ji63 := (i64_w _).trans hji63
                by_cases c64 : 0 ≤ (ji63)
                · rw [if_pos c64] at H
                  have c64b0 : decide (0 ≤ (ji63)) = true := decide_eq_true c64
                  clear c64
                  by_cases c65 : (ji63) < (x6_1.length : Int)
                  · rw [if_pos c65] at H
                    have c65b0 : decide ((ji63) < (x6_1.length : Int)) = true := decide_eq_true c65
                    clear c65
                    obtain ⟨y167, hy167⟩ : ∃ y_ : List Int, y_ = (x6_1.set ((ji63) : Int).toNat (Go.bits .xor .u8 (rd x6_1 (ji63)) 1)) := ⟨_, rfl⟩
                    replace H : ((crc_Scan.f y167).bind fun bt168 => (if t139 = true then (if 0 ≤ (Int.tmod (wrap64 (a1)) (x7_1.length : Int)) then (if (Int.tmod (wrap64 (a1)) (x7_1.length : Int)) < (x7_1.length : Int) then (if bt168.2 = (rd x7_1 (Int.tmod (wrap64 (a1)) (x7_1.length : Int))) then (if (Int.tmod (wrap64 (a1)) (x7_1.length : Int)) ≤ (l0.length : Int) then ((tidemillref02_Lists.f bt168.1 (l0.take ((Int.tmod (wrap64 (a1)) (x7_1.length : Int)) : Int).toNat)).bind fun t177 => (some t177)) else (none)) else (some false)) else (none)) else (none)) else (some false))) = some r := by first | (rw [hy167]; with_reducible exact H) | (have H2_ := (Option.bind_some _ _).symm.trans H; rw [hy167]; with_reducible exact H2_) | (have H2_ := (Option.bind_some _ _).symm.trans H; with_reducible exact H2_) | with_reducible exact H | (rw [hy167]; exact H) | exact H
                    have Ny167 := Aside0.mk hy167
                    clear hy167
                    replace H := Option.bind_eq_some_iff.mp H
                    obtain ⟨⟨t168, t169⟩, A670, H⟩ := H
                    replace H : (if t139 = true then (if 0 ≤ (Int.tmod (wrap64 (a1)) (x7_1.length : Int)) then (if (Int.tmod (wrap64 (a1)) (x7_1.length : Int)) < (x7_1.length : Int) then (if t169 = (rd x7_1 (Int.tmod (wrap64 (a1)) (x7_1.length : Int))) then (if (Int.tmod (wrap64 (a1)) (x7_1.length : Int)) ≤ (l0.length : Int) then ((tidemillref02_Lists.f t168 (l0.take ((Int.tmod (wrap64 (a1)) (x7_1.length : Int)) : Int).toNat)).bind fun t177 => (some t177)) else (none)) else (some false)) else (none)) else (none)) else (some false)) = some r := H
                    have A67 := Aside0.mk A670
                    clear A670
                    by_cases c68 : t139 = true
                    · subst c68
                      have H1 : (if 0 ≤ (Int.tmod (wrap64 (a1)) (x7_1.length : Int)) then (if (Int.tmod (wrap64 (a1)) (x7_1.length : Int)) < (x7_1.length : Int) then (if t169 = (rd x7_1 (Int.tmod (wrap64 (a1)) (x7_1.length : Int))) then (if (Int.tmod (wrap64 (a1)) (x7_1.length : Int)) ≤ (l0.length : Int) then ((tidemillref02_Lists.f t168 (l0.take ((Int.tmod (wrap64 (a1)) (x7_1.length : Int)) : Int).toNat)).bind fun t177 => (some t177)) else (none)) else (some false)) else (none)) else (none)) = some r := by rw [if_pos rfl] at H; exact H
                      clear H
                      have H := H1
                      clear H1
                      obtain ⟨ji69, hji69⟩ : ∃ j_ : Int, (Int.tmod (wrap64 (a1)) (x7_1.length : Int)) = j_ := ⟨_, rfl⟩
                      (try (have hji63xhji69 := hji63; rw [hji69] at hji63xhji69))
                      (try (have hji63wxhji69 := hji63w; rw [hji69] at hji63wxhji69))
                      replace H : (if 0 ≤ (ji69) then (if (ji69) < (x7_1.length : Int) then (if t169 = (rd x7_1 (ji69)) then (if (ji69) ≤ (l0.length : Int) then ((tidemillref02_Lists.f t168 (l0.take ((ji69) : Int).toNat)).bind fun t177 => (some t177)) else (none)) else (some false)) else (none)) else (none)) = some r := by first | (rw [hji69] at H; exact H) | (simp only [hji69] at H ⊢; exact H)
                      (try rw [hji69] at c30b0)
                      (try rw [hji69] at A67)
                      by_cases c70 : 0 ≤ (ji69)
                      · rw [if_pos c70] at H
                        have c70b0 : decide (0 ≤ (ji69)) = true := decide_eq_true c70
                        clear c70
                        by_cases c71 : (ji69) < (x7_1.length : Int)
                        · rw [if_pos c71] at H
                          have c71b0 : decide ((ji69) < (x7_1.length : Int)) = true := decide_eq_true c71
                          clear c71
                          by_cases c72 : t169 = (rd x7_1 (ji69))
                          · rw [if_pos c72] at H
                            have c72b0 : (t169 == (rd x7_1 (ji69))) = true := beq_iff_eq.mpr c72
                            have c72b1 : (t169 != (rd x7_1 (ji69))) = false := bne_eq_false_iff_eq.mpr c72
                            clear c72
                            have c73b0 := eq_true (of_decide_eq_true (by first | (with_reducible assumption) | assumption) : 0 ≤ (ji69))
                            by_cases c74 : (ji69) ≤ (l0.length : Int)
                            · rw [if_pos c74] at H
                              have c74b0 := eq_true c74
                              have c74b1 : decide ((ji69) ≤ (l0.length : Int)) = true := decide_eq_true c74
                              clear c74
                              obtain ⟨y173, hy173⟩ : ∃ y_ : List (List Int), y_ = (l0.take ((ji69) : Int).toNat) := ⟨_, rfl⟩
                              replace H : ((tidemillref02_Lists.f t168 y173).bind fun t177 => (some t177)) = some r := by first | (rw [hy173]; with_reducible exact H) | (have H2_ := (Option.bind_some _ _).symm.trans H; rw [hy173]; with_reducible exact H2_) | (have H2_ := (Option.bind_some _ _).symm.trans H; with_reducible exact H2_) | with_reducible exact H | (rw [hy173]; exact H) | exact H
                              have Ny173 := Aside0.mk hy173
                              clear hy173
                              replace H := Option.bind_eq_some_iff.mp H
                              obtain ⟨t177, A750, H⟩ := H
                              replace H : (some t177) = some r := H
                              have A75 := Aside0.mk A750
                              clear A750
                              obtain rfl := Option.some.inj H
                              obtain ⟨Ao76, co76, eo76⟩ := Kd.R_slice HO_7.out
                              subst eo76
                              obtain ⟨Ao77, co77, eo77⟩ := Kd.R_slice HO_6.out
                              subst eo77
                              have p166 : 0 ≤ ((ji63) : Int) := of_decide_eq_true (by first | (with_reducible assumption) | assumption)
                              have q166 : (ji63) < (x6_1.length : Int) := of_decide_eq_true (by first | (with_reducible assumption) | assumption)
                              obtain ⟨ad166, e166, hx166_0⟩ := Kd.at_int (Kd.R_reads' HO_6.out).2.2 (ji63) p166 q166
                              cases e166
                              replace p166 := eq_true p166
                              replace q166 := eq_true q166
                              have p66 : 0 ≤ ((ji63) : Int) := of_decide_eq_true (by first | (with_reducible assumption) | assumption)
                              have q66 : ((ji63) : Int) < ((x6_1.length : Int) : Int) := of_decide_eq_true (by first | (with_reducible assumption) | assumption)
                              obtain ⟨go66, co66, eo66, gb66, gl66, cl66, HG66⟩ := Kd.R_form HO_6.out (by omega)
                              (first | cases eo66 | (injection eo66 with ea_ en_ ec_; (first | subst ea_ | (injection ea_ with ea_; subst ea_)); subst ec_; clear en_))
                              have GB66 := Aside0.mk gb66
                              have GG66 := Aside0.mk HG66
                              clear gb66 gl66 HG66
                              (first | simp only [add_plain] at hx166_0 | skip)
                              obtain ⟨hx66_0, hf66_0⟩ := Kd.R_celln 0 HO_6.out ((ji63) : Int) p66 q66
                              replace p66 := eq_true p66
                              replace q66 := eq_true q66
                              have HP78 := Kd.R_putg HO_6.out ((ji63) : Int) (Go.bits .xor .u8 (rd x6_1 (ji63)) 1)
                              go_wp2_with (first | ((with_reducible refine gate_store (t := 5) (p := 88) rfl ?_); refine store_event (t := 5) (p := 88) (v := ?vo_w79) (w1 := (wc.setCell ⟨go66, ((ji63) : Int).toNat, none⟩ (.int .u8 (Go.bits .xor .u8 (rd x6_1 (ji63)) 1)))) ?hg ?ho ?hn ?hr ?_; (case ho => rfl); (case hg => rfl); (case hn => rfl); (case hr => first | (go_simp; done) | (go_simp; rfl)); intro w79 hw; have hg : wc.grownBy w79 (some go66) := (by rw [hw]; exact HP78.2); have hp_ : Kd.R (Kd.int .u8) 5 w79 w.heap.size (fun _ => True) (.slice (some ⟨go66, 0, none⟩) x6_1.length co77) y167 := (by rw [hw, Ny167.out]; exact HP78.1); clear HP78; have n0_ := Aside0.mk (hp_); have n1_ := Aside0.mk (Kd.R_over' (v := (.slice (some ⟨go66, 0, none⟩) x6_1.length co77)) (by (with_reducible repeat (first | apply Kd.R_alloc | apply Kd.R_drewN | apply Kd.R_drew)); exact HO_7.out) (Kd.R_typed HO_6.out) (by decide) hg); have n2_ := Aside0.mk ((by rw [hw]; exact below_set (HB.out) GB66.out : Below w.heap.size w w79)); clear HO_6; clear HO_7; clear HB; have HO_6 := n0_; have HO_7 := n1_; have HB := n2_; clear n0_ n1_ n2_; clear hg hw hp_) | ((with_reducible refine gate_callee (f := 14) rfl ?_); refine goesL_ (some 91) rfl rfl Try.func14 (by kernel_rfl) rfl #[.slice (some ⟨go66, 0, none⟩) y167.length co77] rfl (by (try simp only [List.map_toArray, List.map_cons, List.map_nil]); first | done | (rw [show y167.length = x6_1.length from (Kd.R_reads' HO_6.out).1.symm] <;> rfl) | rfl | (simp only [List.length_drop, List.length_take]; rfl)) ?_; (with_reducible refine (crc_Scan.calls _ _ y167 t168 t169 _ ?side1 ?side2 A67.out).mono ?_); (case side1 => repeat (first | exact (Kd.R_reads' HO_6.out).2.2 | (with_reducible refine Kd.C_alloc ?_ _) | (with_reducible refine Kd.C_drewN ?_ _) | (with_reducible refine Kd.C_drew ?_))); (case side2 => rw [show y167.length = x6_1.length from (Kd.R_reads' HO_6.out).1.symm]; exact (Kd.R_reads' HO_6.out).2.1); rintro e w80 ⟨v170, rfl, ho0, hb⟩; refine ⟨_, rfl, ?_⟩; have n0_ := Aside0.mk (Kd.R_below (by (with_reducible repeat (first | apply Kd.R_alloc | apply Kd.R_drewN | apply Kd.R_drew)); exact HO_6.out) hb); have n1_ := Aside0.mk (Kd.R_below (by (with_reducible repeat (first | apply Kd.R_alloc | apply Kd.R_drewN | apply Kd.R_drew)); exact HO_7.out) hb); have n2_ := Aside0.mk (Kd.S_lower (Kd.S_new' ho0 (Kd.R_lt (by (with_reducible repeat (first | apply Kd.R_alloc | apply Kd.R_drewN | apply Kd.R_drew)); exact HO_6.out))) (below_size (by repeat (first | (with_reducible first | exact HB.out | apply below_alloc | apply pw_below_drewN | apply below_drew1) | exact HB.out)))); have n3_ := Aside0.mk (below_step (by repeat (first | (with_reducible first | exact HB.out | apply below_alloc | apply pw_below_drewN | apply below_drew1) | exact HB.out)) hb); clear HO_6; clear HO_7; clear HB; have HO_6 := n0_; have HO_7 := n1_; have HO171 := n2_; have HB := n3_; clear n0_ n1_ n2_ n3_; (try clear hb); (try clear hb2); (try clear hk); (try clear hi); (try clear ho0); have p172 : 0 ≤ ((ji69) : Int) := of_decide_eq_true (by first | (with_reducible assumption) | assumption); have q172 : (ji69) < (x7_1.length : Int) := of_decide_eq_true (by first | (with_reducible assumption) | assumption); obtain ⟨ad172, e172, hx172_0⟩ := Kd.at_int (Kd.R_reads' HO_7.out).2.2 (ji69) p172 q172; cases e172; replace p172 := eq_true p172; replace q172 := eq_true q172; have q81 : ((ji69) : Int) ≤ ((l0.length : Int) : Int) := of_decide_eq_true (by first | (with_reducible assumption) | assumption); obtain ⟨i081, hi081, _, hsz81, _⟩ := info_parts info22; have hroom81 : l0.length ≤ c0 := HC0.out; have hC81 : Kd.C (Kd.slice 5 (Kd.int .u8)) _ A0 l0.length l0 := HR0.out; have hcut81 := cut_to (P := Try.prog) 37 22 .i64 Try.underlying37 hi081 A0 l0.length c0 (ji69) (of_decide_eq_true (by first | (with_reducible assumption) | assumption)) q81 hroom81; have hr81 := Kd.C_take (m := ((ji69) : Int).toNat) hC81 (by omega); have hy81 : y173.length = ((ji69) : Int).toNat := (by rw [Ny173.out, List.length_take]; omega); rw [← Ny173.out] at hr81; rw [← hy81] at hcut81; have HR176 := Aside0.mk hr81; have HC176 := Aside0.mk (show y173.length ≤ c0 from by omega); clear hr81 hC81 hroom81 hi081 hsz81; have KY81 := Aside0.mk hy81; clear hy81; replace q81 := eq_true q81; obtain ⟨Ao82, co82, eo82⟩ := Kd.S_slice HO171.out; subst eo82) | (go_at_call 18; (with_reducible refine (tidemillref02_Lists.calls _ _ t168 _ _ y173 t177 _ ?side1 ?side2 ?side3 ?side4 A75.out).mono ?_); (case side1 => repeat (first | exact (Kd.S_reads' HO171.out).2.2 | (with_reducible refine Kd.C_alloc ?_ _) | (with_reducible refine Kd.C_drewN ?_ _) | (with_reducible refine Kd.C_drew ?_))); (case side2 => exact (Kd.S_reads' HO171.out).2.1); (case side3 => repeat (first | exact (Kd.C_below HR176.out HB.out) | (with_reducible refine Kd.C_alloc ?_ _) | (with_reducible refine Kd.C_drewN ?_ _) | (with_reducible refine Kd.C_drew ?_))); (case side4 => exact HC176.out); rintro e w' ⟨rfl, ⟨nd, rfl⟩⟩))
                              go_ret
                              exact ⟨by first | rfl | (simp [errW_none, errW_some] <;> rfl) | (simp only [← hji63, ← hji69]; first | rfl | (simp [errW_none, errW_some] <;> rfl)) | (simp [*, errW_none, errW_some] <;> rfl), by repeat (first | (with_reducible first | exact HB.out | apply below_alloc | apply pw_below_drewN | apply below_drew1) | exact HB.out)⟩
                            · rw [if_neg c74] at H
                              exact absurd H (by simp)
                          · rw [if_neg c72] at H
                            have c72b0 : (t169 == (rd x7_1 (ji69))) = false := beq_eq_false_iff_ne.mpr c72
                            have c72b1 : (t169 != (rd x7_1 (ji69))) = true := bne_iff_ne.mpr c72
                            obtain rfl := Option.some.inj H
                            obtain ⟨Ao83, co83, eo83⟩ := Kd.R_slice HO_7.out
                            subst eo83
                            obtain ⟨Ao84, co84, eo84⟩ := Kd.R_slice HO_6.out
                            subst eo84
                            have p166 : 0 ≤ ((ji63) : Int) := of_decide_eq_true (by first | (with_reducible assumption) | assumption)
                            have q166 : (ji63) < (x6_1.length : Int) := of_decide_eq_true (by first | (with_reducible assumption) | assumption)
                            obtain ⟨ad166, e166, hx166_0⟩ := Kd.at_int (Kd.R_reads' HO_6.out).2.2 (ji63) p166 q166
                            cases e166
                            replace p166 := eq_true p166
                            replace q166 := eq_true q166
                            have p66 : 0 ≤ ((ji63) : Int) := of_decide_eq_true (by first | (with_reducible assumption) | assumption)
                            have q66 : ((ji63) : Int) < ((x6_1.length : Int) : Int) := of_decide_eq_true (by first | (with_reducible assumption) | assumption)
                            obtain ⟨go66, co66, eo66, gb66, gl66, cl66, HG66⟩ := Kd.R_form HO_6.out (by omega)
                            (first | cases eo66 | (injection eo66 with ea_ en_ ec_; (first | subst ea_ | (injection ea_ with ea_; subst ea_)); subst ec_; clear en_))
                            have GB66 := Aside0.mk gb66
                            have GG66 := Aside0.mk HG66
                            clear gb66 gl66 HG66
                            (first | simp only [add_plain] at hx166_0 | skip)
                            obtain ⟨hx66_0, hf66_0⟩ := Kd.R_celln 0 HO_6.out ((ji63) : Int) p66 q66
                            replace p66 := eq_true p66
                            replace q66 := eq_true q66
                            have HP85 := Kd.R_putg HO_6.out ((ji63) : Int) (Go.bits .xor .u8 (rd x6_1 (ji63)) 1)
                            go_wp2_with (first | ((with_reducible refine gate_store (t := 5) (p := 88) rfl ?_); refine store_event (t := 5) (p := 88) (v := ?vo_w86) (w1 := (wc.setCell ⟨go66, ((ji63) : Int).toNat, none⟩ (.int .u8 (Go.bits .xor .u8 (rd x6_1 (ji63)) 1)))) ?hg ?ho ?hn ?hr ?_; (case ho => rfl); (case hg => rfl); (case hn => rfl); (case hr => first | (go_simp; done) | (go_simp; rfl)); intro w86 hw; have hg : wc.grownBy w86 (some go66) := (by rw [hw]; exact HP85.2); have hp_ : Kd.R (Kd.int .u8) 5 w86 w.heap.size (fun _ => True) (.slice (some ⟨go66, 0, none⟩) x6_1.length co84) y167 := (by rw [hw, Ny167.out]; exact HP85.1); clear HP85; have n0_ := Aside0.mk (hp_); have n1_ := Aside0.mk (Kd.R_over' (v := (.slice (some ⟨go66, 0, none⟩) x6_1.length co84)) (by (with_reducible repeat (first | apply Kd.R_alloc | apply Kd.R_drewN | apply Kd.R_drew)); exact HO_7.out) (Kd.R_typed HO_6.out) (by decide) hg); have n2_ := Aside0.mk ((by rw [hw]; exact below_set (HB.out) GB66.out : Below w.heap.size w w86)); clear HO_6; clear HO_7; clear HB; have HO_6 := n0_; have HO_7 := n1_; have HB := n2_; clear n0_ n1_ n2_; clear hg hw hp_) | ((with_reducible refine gate_callee (f := 14) rfl ?_); refine goesL_ (some 91) rfl rfl Try.func14 (by kernel_rfl) rfl #[.slice (some ⟨go66, 0, none⟩) y167.length co84] rfl (by (try simp only [List.map_toArray, List.map_cons, List.map_nil]); first | done | (rw [show y167.length = x6_1.length from (Kd.R_reads' HO_6.out).1.symm] <;> rfl) | rfl | (simp only [List.length_drop, List.length_take]; rfl)) ?_; (with_reducible refine (crc_Scan.calls _ _ y167 t168 t169 _ ?side1 ?side2 A67.out).mono ?_); (case side1 => repeat (first | exact (Kd.R_reads' HO_6.out).2.2 | (with_reducible refine Kd.C_alloc ?_ _) | (with_reducible refine Kd.C_drewN ?_ _) | (with_reducible refine Kd.C_drew ?_))); (case side2 => rw [show y167.length = x6_1.length from (Kd.R_reads' HO_6.out).1.symm]; exact (Kd.R_reads' HO_6.out).2.1); rintro e w87 ⟨v170, rfl, ho0, hb⟩; refine ⟨_, rfl, ?_⟩; have n0_ := Aside0.mk (Kd.R_below (by (with_reducible repeat (first | apply Kd.R_alloc | apply Kd.R_drewN | apply Kd.R_drew)); exact HO_6.out) hb); have n1_ := Aside0.mk (Kd.R_below (by (with_reducible repeat (first | apply Kd.R_alloc | apply Kd.R_drewN | apply Kd.R_drew)); exact HO_7.out) hb); have n2_ := Aside0.mk (Kd.S_lower (Kd.S_new' ho0 (Kd.R_lt (by (with_reducible repeat (first | apply Kd.R_alloc | apply Kd.R_drewN | apply Kd.R_drew)); exact HO_6.out))) (below_size (by repeat (first | (with_reducible first | exact HB.out | apply below_alloc | apply pw_below_drewN | apply below_drew1) | exact HB.out)))); have n3_ := Aside0.mk (below_step (by repeat (first | (with_reducible first | exact HB.out | apply below_alloc | apply pw_below_drewN | apply below_drew1) | exact HB.out)) hb); clear HO_6; clear HO_7; clear HB; have HO_6 := n0_; have HO_7 := n1_; have HO171 := n2_; have HB := n3_; clear n0_ n1_ n2_ n3_; (try clear hb); (try clear hb2); (try clear hk); (try clear hi); (try clear ho0); have p172 : 0 ≤ ((ji69) : Int) := of_decide_eq_true (by first | (with_reducible assumption) | assumption); have q172 : (ji69) < (x7_1.length : Int) := of_decide_eq_true (by first | (with_reducible assumption) | assumption); obtain ⟨ad172, e172, hx172_0⟩ := Kd.at_int (Kd.R_reads' HO_7.out).2.2 (ji69) p172 q172; cases e172; replace p172 := eq_true p172; replace q172 := eq_true q172))
                            go_ret
                            exact ⟨by first | rfl | (simp [errW_none, errW_some] <;> rfl) | (simp only [← hji63, ← hji69]; first | rfl | (simp [errW_none, errW_some] <;> rfl)) | (simp [*, errW_none, errW_some] <;> rfl), by repeat (first | (with_reducible first | exact HB.out | apply below_alloc | apply pw_below_drewN | apply below_drew1) | exact HB.out)⟩
                        · rw [if_neg c71] at H
                          exact absurd H (by simp)
                      · rw [if_neg c70] at H
                        exact absurd H (by simp)
                    · replace c68 := Bool.eq_false_iff.mpr c68
                      subst c68
                      have H1 : (some false) = some r := by rw [if_neg (show ¬ (false = true) by decide)] at H; exact H
                      clear H
                      have H := H1
                      clear H1
                      obtain rfl := Option.some.inj H
                      obtain ⟨Ao88, co88, eo88⟩ := Kd.R_slice HO_7.out
                      subst eo88
                      obtain ⟨Ao89, co89, eo89⟩ := Kd.R_slice HO_6.out
                      subst eo89
                      have p166 : 0 ≤ ((ji63) : Int) := of_decide_eq_true (by first | (with_reducible assumption) | assumption)
                      have q166 : (ji63) < (x6_1.length : Int) := of_decide_eq_true (by first | (with_reducible assumption) | assumption)
                      obtain ⟨ad166, e166, hx166_0⟩ := Kd.at_int (Kd.R_reads' HO_6.out).2.2 (ji63) p166 q166
                      cases e166
                      replace p166 := eq_true p166
                      replace q166 := eq_true q166
                      have p66 : 0 ≤ ((ji63) : Int) := of_decide_eq_true (by first | (with_reducible assumption) | assumption)
                      have q66 : ((ji63) : Int) < ((x6_1.length : Int) : Int) := of_decide_eq_true (by first | (with_reducible assumption) | assumption)
                      obtain ⟨go66, co66, eo66, gb66, gl66, cl66, HG66⟩ := Kd.R_form HO_6.out (by omega)
                      (first | cases eo66 | (injection eo66 with ea_ en_ ec_; (first | subst ea_ | (injection ea_ with ea_; subst ea_)); subst ec_; clear en_))
                      have GB66 := Aside0.mk gb66
                      have GG66 := Aside0.mk HG66
                      clear gb66 gl66 HG66
                      (first | simp only [add_plain] at hx166_0 | skip)
                      obtain ⟨hx66_0, hf66_0⟩ := Kd.R_celln 0 HO_6.out ((ji63) : Int) p66 q66
                      replace p66 := eq_true p66
                      replace q66 := eq_true q66
                      have HP90 := Kd.R_putg HO_6.out ((ji63) : Int) (Go.bits .xor .u8 (rd x6_1 (ji63)) 1)
                      go_wp2_with (first | ((with_reducible refine gate_store (t := 5) (p := 88) rfl ?_); refine store_event (t := 5) (p := 88) (v := ?vo_w91) (w1 := (wc.setCell ⟨go66, ((ji63) : Int).toNat, none⟩ (.int .u8 (Go.bits .xor .u8 (rd x6_1 (ji63)) 1)))) ?hg ?ho ?hn ?hr ?_; (case ho => rfl); (case hg => rfl); (case hn => rfl); (case hr => first | (go_simp; done) | (go_simp; rfl)); intro w91 hw; have hg : wc.grownBy w91 (some go66) := (by rw [hw]; exact HP90.2); have hp_ : Kd.R (Kd.int .u8) 5 w91 w.heap.size (fun _ => True) (.slice (some ⟨go66, 0, none⟩) x6_1.length co89) y167 := (by rw [hw, Ny167.out]; exact HP90.1); clear HP90; have n0_ := Aside0.mk (hp_); have n1_ := Aside0.mk (Kd.R_over' (v := (.slice (some ⟨go66, 0, none⟩) x6_1.length co89)) (by (with_reducible repeat (first | apply Kd.R_alloc | apply Kd.R_drewN | apply Kd.R_drew)); exact HO_7.out) (Kd.R_typed HO_6.out) (by decide) hg); have n2_ := Aside0.mk ((by rw [hw]; exact below_set (HB.out) GB66.out : Below w.heap.size w w91)); clear HO_6; clear HO_7; clear HB; have HO_6 := n0_; have HO_7 := n1_; have HB := n2_; clear n0_ n1_ n2_; clear hg hw hp_) | ((with_reducible refine gate_callee (f := 14) rfl ?_); refine goesL_ (some 91) rfl rfl Try.func14 (by kernel_rfl) rfl #[.slice (some ⟨go66, 0, none⟩) y167.length co89] rfl (by (try simp only [List.map_toArray, List.map_cons, List.map_nil]); first | done | (rw [show y167.length = x6_1.length from (Kd.R_reads' HO_6.out).1.symm] <;> rfl) | rfl | (simp only [List.length_drop, List.length_take]; rfl)) ?_; (with_reducible refine (crc_Scan.calls _ _ y167 t168 t169 _ ?side1 ?side2 A67.out).mono ?_); (case side1 => repeat (first | exact (Kd.R_reads' HO_6.out).2.2 | (with_reducible refine Kd.C_alloc ?_ _) | (with_reducible refine Kd.C_drewN ?_ _) | (with_reducible refine Kd.C_drew ?_))); (case side2 => rw [show y167.length = x6_1.length from (Kd.R_reads' HO_6.out).1.symm]; exact (Kd.R_reads' HO_6.out).2.1); rintro e w92 ⟨v170, rfl, ho0, hb⟩; refine ⟨_, rfl, ?_⟩; have n0_ := Aside0.mk (Kd.R_below (by (with_reducible repeat (first | apply Kd.R_alloc | apply Kd.R_drewN | apply Kd.R_drew)); exact HO_6.out) hb); have n1_ := Aside0.mk (Kd.R_below (by (with_reducible repeat (first | apply Kd.R_alloc | apply Kd.R_drewN | apply Kd.R_drew)); exact HO_7.out) hb); have n2_ := Aside0.mk (Kd.S_lower (Kd.S_new' ho0 (Kd.R_lt (by (with_reducible repeat (first | apply Kd.R_alloc | apply Kd.R_drewN | apply Kd.R_drew)); exact HO_6.out))) (below_size (by repeat (first | (with_reducible first | exact HB.out | apply below_alloc | apply pw_below_drewN | apply below_drew1) | exact HB.out)))); have n3_ := Aside0.mk (below_step (by repeat (first | (with_reducible first | exact HB.out | apply below_alloc | apply pw_below_drewN | apply below_drew1) | exact HB.out)) hb); clear HO_6; clear HO_7; clear HB; have HO_6 := n0_; have HO_7 := n1_; have HO171 := n2_; have HB := n3_; clear n0_ n1_ n2_ n3_; (try clear hb); (try clear hb2); (try clear hk); (try clear hi); (try clear ho0)))
                      go_ret
                      exact ⟨by first | rfl | (simp [errW_none, errW_some] <;> rfl) | (simp only [← hji63]; first | rfl | (simp [errW_none, errW_some] <;> rfl)) | (simp [*, errW_none, errW_some] <;> rfl), by repeat (first | (with_reducible first | exact HB.out | apply below_alloc | apply pw_below_drewN | apply below_drew1) | exact HB.out)⟩
                  · rw [if_neg c65] at H
                    exact absurd H (by simp)
                · rw [if_neg c64] at H
                  exact absurd H (by simp)

end Go.Proofs.Yteihfipojnfnfaa.PCrcRest

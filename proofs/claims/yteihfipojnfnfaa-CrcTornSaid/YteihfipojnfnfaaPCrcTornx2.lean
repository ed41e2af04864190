-- Written by a turned copy of the print, with contracts that this session proved by hand.
import Derived.Test.YteihfipojnfnfaaPCrcTornx0
import Derived.Test.YteihfipojnfnfaaPCrcTornx1
namespace Go.Proofs.Yteihfipojnfnfaa.PCrcTorn
open Go.RowKit Go.Proofs.YteihfipojnfnfaaW.PrintWords Go.Proofs.YteihfipojnfnfaaW.PrintLast Go.Proofs.YteihfipojnfnfaaW.PrintMore
attribute [local go_sem] max2_int min2_int max_two min_two max_three min_three max_four min_four   -- for this text's walks alone
set_option linter.unusedVariables false
set_option linter.unusedSimpArgs false

/-! ### tidemilllaw02_CrcTorn: function 6 -/
mutual
def tidemilllaw02_CrcTorn.l0 : Nat → List (List Int) → Int → Bool → List Int → List Int → Int → Option (Bool)
  | 0, _, _, _, _, _, _ => none
  | k + 1, x0, x1, x5, x6, x7, x8 => if x8 < (x0.length : Int) then (tidemilllaw02_CrcTorn.j1 k x0 x1 x5 x6 x7 x8 (decide (x8 < 30))) else (tidemilllaw02_CrcTorn.j1 k x0 x1 x5 x6 x7 x8 false)
def tidemilllaw02_CrcTorn.j1 : Nat → List (List Int) → Int → Bool → List Int → List Int → Int → Bool → Option (Bool)
  | 0, _, _, _, _, _, _, _ => none
  | k + 1, x0, x1, x5, x6, x7, x8, x24 => if x24 = true then (if 0 ≤ x8 then (if x8 < (x0.length : Int) then ((crc_Frame.f k (rd_L1 x0 x8)).bind fun bt141 => (if bt141.2 = 0 then (if x6.length + bt141.1.length < 140737488355328 then ((some (x6 ++ bt141.1 : List Int)).bind fun y145 => (if x7.length < 17592186044416 then (tidemilllaw02_CrcTorn.l0 k x0 x1 x5 y145 (x7 ++ [(y145.length : Int)]) (wrap64 (x8 + 1))) else (none))) else (none)) else (if x5 = true then (some (decide (((rd_L1 x0 x8).length : Int) > 4096))) else (some false)))) else (none)) else (none)) else (if (x6.length : Int) = 0 then (if x5 = true then (some ((x0.length : Int) == 0)) else (some false)) else (if (wrap64 ((x6.length : Int) + 1)) = 0 then (none) else (if 0 ≤ (Int.tmod (wrap64 (x1)) (wrap64 ((x6.length : Int) + 1))) then (if (Int.tmod (wrap64 (x1)) (wrap64 ((x6.length : Int) + 1))) ≤ (x6.length : Int) then ((crc_Scan.f (x6.take ((Int.tmod (wrap64 (x1)) (wrap64 ((x6.length : Int) + 1))) : Int).toNat)).bind fun bt156 => (tidemilllaw02_CrcTorn.l1 k x0 x5 x7 (Int.tmod (wrap64 (x1)) (wrap64 ((x6.length : Int) + 1))) bt156.1 bt156.2 0)) else (none)) else (none))))
def tidemilllaw02_CrcTorn.l1 : Nat → List (List Int) → Bool → List Int → Int → List (List Int) → Int → Int → Option (Bool)
  | 0, _, _, _, _, _, _, _ => none
  | k + 1, x0, x5, x7, x11, x12, x13, x14 => if x14 < (x7.length : Int) then (if 0 ≤ x14 then (if (rd x7 x14) ≤ x11 then (tidemilllaw02_CrcTorn.l1 k x0 x5 x7 x11 x12 x13 (wrap64 (x14 + 1))) else (if x14 > 0 then (if 0 ≤ (wrap64 (x14 - 1)) then (if (wrap64 (x14 - 1)) < (x7.length : Int) then (if x5 = true then (if x13 = (rd x7 (wrap64 (x14 - 1))) then (if x14 ≤ (x0.length : Int) then ((tidemillref02_Lists.f x12 (x0.take (x14 : Int).toNat)).bind fun t166 => (some t166)) else (none)) else (some false)) else (some false)) else (none)) else (none)) else (if x5 = true then (if x13 = 0 then (if x14 ≤ (x0.length : Int) then ((tidemillref02_Lists.f x12 (x0.take (x14 : Int).toNat)).bind fun t171 => (some t171)) else (none)) else (some false)) else (some false)))) else (none)) else (if x14 > 0 then (if 0 ≤ (wrap64 (x14 - 1)) then (if (wrap64 (x14 - 1)) < (x7.length : Int) then (if x5 = true then (if x13 = (rd x7 (wrap64 (x14 - 1))) then (if 0 ≤ x14 then (if x14 ≤ (x0.length : Int) then ((tidemillref02_Lists.f x12 (x0.take (x14 : Int).toNat)).bind fun t177 => (some t177)) else (none)) else (none)) else (some false)) else (some false)) else (none)) else (none)) else (if x5 = true then (if x13 = 0 then (if 0 ≤ x14 then (if x14 ≤ (x0.length : Int) then ((tidemillref02_Lists.f x12 (x0.take (x14 : Int).toNat)).bind fun t182 => (some t182)) else (none)) else (none)) else (some false)) else (some false)))
end
def tidemilllaw02_CrcTorn.f (k : Nat) (l0 : List (List Int)) (a1 : Int) : Option (Bool) := (tidemilllaw02_shown.f).bind fun t139 => (tidemilllaw02_CrcTorn.l0 k l0 a1 t139 ([] : List Int) ([] : List Int) 0)
theorem tidemilllaw02_CrcTorn.mono_l : ∀ k, (∀ y0 y1 y2 y3 y4 y5, LeO (tidemilllaw02_CrcTorn.l0 k y0 y1 y2 y3 y4 y5) (tidemilllaw02_CrcTorn.l0 (k + 1) y0 y1 y2 y3 y4 y5)) ∧ (∀ y0 y1 y2 y3 y4 y5 y6, LeO (tidemilllaw02_CrcTorn.j1 k y0 y1 y2 y3 y4 y5 y6) (tidemilllaw02_CrcTorn.j1 (k + 1) y0 y1 y2 y3 y4 y5 y6)) ∧ (∀ y0 y1 y2 y3 y4 y5 y6, LeO (tidemilllaw02_CrcTorn.l1 k y0 y1 y2 y3 y4 y5 y6) (tidemilllaw02_CrcTorn.l1 (k + 1) y0 y1 y2 y3 y4 y5 y6))
  | 0 => ⟨fun _ _ _ _ _ _ r h => by simp [tidemilllaw02_CrcTorn.l0] at h, fun _ _ _ _ _ _ _ r h => by simp [tidemilllaw02_CrcTorn.j1] at h, fun _ _ _ _ _ _ _ r h => by simp [tidemilllaw02_CrcTorn.l1] at h⟩
  | k + 1 => by
    obtain ⟨ih0, ih1, ih2⟩ := tidemilllaw02_CrcTorn.mono_l k
    refine ⟨?_, ?_, ?_⟩
    · intro y0 y1 y2 y3 y4 y5
      unfold tidemilllaw02_CrcTorn.l0
      repeat' first
      | (with_reducible exact ih0 _ _ _ _ _ _)
      | (with_reducible exact ih1 _ _ _ _ _ _ _)
      | (with_reducible exact ih2 _ _ _ _ _ _ _)
      | (with_reducible exact crc_Frame.mono _ _)
      | (with_reducible exact LeO.refl _)
      | (with_reducible exact LeO.none _)
      | (with_reducible refine LeO.ite ?_ ?_)
      | (with_reducible refine LeO.bind ?_ (fun _ => ?_))
      | exact ih0 _ _ _ _ _ _
      | exact ih1 _ _ _ _ _ _ _
      | exact ih2 _ _ _ _ _ _ _
      | exact crc_Frame.mono _ _
      | exact LeO.none _
      | refine LeO.ite ?_ ?_
      | refine LeO.bind ?_ (fun _ => ?_)
    · intro y0 y1 y2 y3 y4 y5 y6
      unfold tidemilllaw02_CrcTorn.j1
      repeat' first
      | (with_reducible exact ih0 _ _ _ _ _ _)
      | (with_reducible exact ih1 _ _ _ _ _ _ _)
      | (with_reducible exact ih2 _ _ _ _ _ _ _)
      | (with_reducible exact crc_Frame.mono _ _)
      | (with_reducible exact LeO.refl _)
      | (with_reducible exact LeO.none _)
      | (with_reducible refine LeO.ite ?_ ?_)
      | (with_reducible refine LeO.bind ?_ (fun _ => ?_))
      | exact ih0 _ _ _ _ _ _
      | exact ih1 _ _ _ _ _ _ _
      | exact ih2 _ _ _ _ _ _ _
      | exact crc_Frame.mono _ _
      | exact LeO.none _
      | refine LeO.ite ?_ ?_
      | refine LeO.bind ?_ (fun _ => ?_)
    · intro y0 y1 y2 y3 y4 y5 y6
      unfold tidemilllaw02_CrcTorn.l1
      repeat' first
      | (with_reducible exact ih0 _ _ _ _ _ _)
      | (with_reducible exact ih1 _ _ _ _ _ _ _)
      | (with_reducible exact ih2 _ _ _ _ _ _ _)
      | (with_reducible exact crc_Frame.mono _ _)
      | (with_reducible exact LeO.refl _)
      | (with_reducible exact LeO.none _)
      | (with_reducible refine LeO.ite ?_ ?_)
      | (with_reducible refine LeO.bind ?_ (fun _ => ?_))
      | exact ih0 _ _ _ _ _ _
      | exact ih1 _ _ _ _ _ _ _
      | exact ih2 _ _ _ _ _ _ _
      | exact crc_Frame.mono _ _
      | exact LeO.none _
      | refine LeO.ite ?_ ?_
      | refine LeO.bind ?_ (fun _ => ?_)
theorem tidemilllaw02_CrcTorn.mono : ∀ a0 a1 k, LeO (tidemilllaw02_CrcTorn.f k a0 a1) (tidemilllaw02_CrcTorn.f (k + 1) a0 a1) := by
  intro a0 a1 k
  obtain ⟨ih0, ih1, ih2⟩ := tidemilllaw02_CrcTorn.mono_l k
  unfold tidemilllaw02_CrcTorn.f
  repeat' first
      | (with_reducible exact ih0 _ _ _ _ _ _)
      | (with_reducible exact ih1 _ _ _ _ _ _ _)
      | (with_reducible exact ih2 _ _ _ _ _ _ _)
      | (with_reducible exact crc_Frame.mono _ _)
      | (with_reducible exact LeO.refl _)
      | (with_reducible exact LeO.none _)
      | (with_reducible refine LeO.ite ?_ ?_)
      | (with_reducible refine LeO.bind ?_ (fun _ => ?_))
      | exact ih0 _ _ _ _ _ _
      | exact ih1 _ _ _ _ _ _ _
      | exact ih2 _ _ _ _ _ _ _
      | exact crc_Frame.mono _ _
      | exact LeO.none _
      | refine LeO.ite ?_ ?_
      | refine LeO.bind ?_ (fun _ => ?_)
set_option maxHeartbeats 8000000 in
set_option maxRecDepth 100000 in
theorem tidemilllaw02_CrcTorn.calls (k : Nat) (A0 : Option Addr) (c0 : Nat) (l0 : List (List Int)) (a1 : Int) (r : Bool) (w : World) (hr0 : Kd.C (Kd.slice 5 (Kd.int .u8)) w A0 l0.length l0) (hc0 : l0.length ≤ c0) (h : tidemilllaw02_CrcTorn.f k l0 a1 = some r) :
    Calls Try.prog 6 #[.slice A0 l0.length c0, .int .u16 a1] w fun e w' => e = .returned (.bool r) ∧ Below w.heap.size w w' := by
  have HR0 := Aside0.mk hr0
  have HC0 := Aside0.mk hc0
  clear hr0 hc0
  have HB := Aside0.mk (Below.refl w.heap.size w)
  have H : ((tidemilllaw02_shown.f).bind fun t139 => (tidemilllaw02_CrcTorn.l0 k l0 a1 t139 ([] : List Int) ([] : List Int) 0)) = some r := h
  clear h
  replace H := Option.bind_eq_some_iff.mp H
  obtain ⟨t139, A30, H⟩ := H
  replace H : (tidemilllaw02_CrcTorn.l0 k l0 a1 t139 ([] : List Int) ([] : List Int) 0) = some r := H
  have A3 := Aside0.mk A30
  clear A30
  have H' := Aside0.mk H
  clear H
  go_enter Try.func6, Try.ntmps6
  go_wp2_with (first | ((with_reducible refine gate_callee (f := 9) rfl ?_); refine goesL_ (some 16) rfl rfl Try.func9 (by kernel_rfl) rfl #[] rfl (by (try simp only [List.map_toArray, List.map_cons, List.map_nil]); first | done | rfl | (simp only [List.length_drop, List.length_take]; rfl)) ?_; (with_reducible refine (tidemilllaw02_shown.calls  t139 _ A3.out).mono ?_); rintro e w4 ⟨rfl, hb⟩; refine ⟨_, rfl, ?_⟩; have n0_ := Aside0.mk (below_step (by repeat (first | (with_reducible first | exact HB.out | apply below_alloc | apply pw_below_drewN | apply below_drew1) | exact HB.out)) hb); clear HB; have HB := n0_; clear n0_; (try clear hb); (try clear hb2); (try clear hk); (try clear hi)))
  go_loopg [6, 7, 8] k (fun kq v6 v7 v8 w' => ∃ (x6_1 : List Int) (x7_1 : List Int) (x8_1 : Int), v8 = .int .i64 x8_1 ∧ Aside0 (tidemilllaw02_CrcTorn.l0 kq l0 a1 t139 x6_1 x7_1 x8_1 = some r) ∧ Aside0 (kq ≤ k) ∧ Aside0 (Kd.R (Kd.int .u8) 5 w' w.heap.size (fun _ => True) v6 x6_1) ∧ Aside0 (Kd.R (Kd.int .i64) 3 w' w.heap.size (fun _ => True) v7 x7_1) ∧ Aside0 (Below w.heap.size w w'))
  case atStart => exact ⟨(([] : List Int)), (([] : List Int)), (0), (by first | rfl | (simp; done) | (simp [*]; done)), H', ⟨Nat.le_refl _⟩, ⟨by first | exact Kd.R_nil _ _ _ _ _ | exact Kd.N_nil _ _ _ _ _ | exact Kd.V_nil _ _ _ _ _ | exact Kd.Q_nil _ _ _ _ _ | exact Kd.S_nil _ _ _ _ _⟩, ⟨by first | exact Kd.R_nil _ _ _ _ _ | exact Kd.N_nil _ _ _ _ _ | exact Kd.V_nil _ _ _ _ _ | exact Kd.Q_nil _ _ _ _ _ | exact Kd.S_nil _ _ _ _ _⟩, ⟨by repeat (first | (with_reducible first | exact HB.out | apply below_alloc | apply pw_below_drewN | apply below_drew1) | exact HB.out)⟩⟩
  case round =>
    clear H'
    try clear p2
    obtain ⟨x6_1, x7_1, x8_1, rfl, HA, HK1, HO_6, HO_7, HB⟩ := hrel
    cases gk with
    | zero => exact absurd HA.out (by simp [tidemilllaw02_CrcTorn.l0])
    | succ k1 =>
      have H := HA.out
      clear HA
      simp only [tidemilllaw02_CrcTorn.l0] at H
      have HC5 := Aside0.mk H
      clear H
      go_upto_region 5 with (fail)
      go_cut [24] (fun v24 wc => ∃ (kq : Nat) (x24_4 : Bool), v24 = .bool x24_4 ∧ Aside0 (tidemilllaw02_CrcTorn.j1 kq l0 a1 t139 x6_1 x7_1 x8_1 x24_4 = some r) ∧ Aside0 (kq ≤ k1) ∧ Aside0 (Kd.R (Kd.int .u8) 5 wc w.heap.size (fun _ => True) u6 x6_1) ∧ Aside0 (Kd.R (Kd.int .i64) 3 wc w.heap.size (fun _ => True) u7 x7_1) ∧ Aside0 (Below w.heap.size w wc))
      case first =>
        have H := HC5.out
        clear HC5
        by_cases c6 : x8_1 < (l0.length : Int)
        · rw [if_pos c6] at H
          have c6b0 : decide (x8_1 < (l0.length : Int)) = true := decide_eq_true c6
          clear c6
          (first | rw [c6b0] | (simp only [i64_w, i32_w]; rw [c6b0]) | skip)
          have H' := Aside0.mk H
          clear H
          go_wp2
          go_meet
          case rel => exact ⟨_, (decide (x8_1 < 30)), (by first | rfl | (simp; done) | (simp [*]; done)), H', ⟨by have := HK1.out; first | omega | exact Nat.le_refl _⟩, ⟨by (with_reducible repeat (first | apply Kd.R_alloc | apply Kd.R_drewN | apply Kd.R_drew)); exact HO_6.out⟩, ⟨by (with_reducible repeat (first | apply Kd.R_alloc | apply Kd.R_drewN | apply Kd.R_drew)); exact HO_7.out⟩, ⟨by repeat (first | (with_reducible first | exact HB.out | apply below_alloc | apply pw_below_drewN | apply below_drew1) | exact HB.out)⟩⟩
        · rw [if_neg c6] at H
          have c6b0 : decide (x8_1 < (l0.length : Int)) = false := decide_eq_false c6
          clear c6
          (first | rw [c6b0] | (simp only [i64_w, i32_w]; rw [c6b0]) | skip)
          have H' := Aside0.mk H
          clear H
          go_wp2
          go_meet
          case rel => exact ⟨_, (false), (by first | rfl | (simp; done) | (simp [*]; done)), H', ⟨by have := HK1.out; first | omega | exact Nat.le_refl _⟩, ⟨by (with_reducible repeat (first | apply Kd.R_alloc | apply Kd.R_drewN | apply Kd.R_drew)); exact HO_6.out⟩, ⟨by (with_reducible repeat (first | apply Kd.R_alloc | apply Kd.R_drewN | apply Kd.R_drew)); exact HO_7.out⟩, ⟨by repeat (first | (with_reducible first | exact HB.out | apply below_alloc | apply pw_below_drewN | apply below_drew1) | exact HB.out)⟩⟩
      case rest =>
        clear HC5
        try clear p2
        try clear c6
        try clear c6b0
        try clear p2
        obtain ⟨kq, x24_4, rfl, HA, HJ4, HO_6, HO_7, HB⟩ := hcut
        cases kq with
        | zero => exact absurd HA.out (by simp [tidemilllaw02_CrcTorn.j1])
        | succ kj4 =>
          have H := HA.out
          clear HA
          simp only [tidemilllaw02_CrcTorn.j1] at H
          by_cases c7 : x24_4 = true
          · subst c7
            have H1 : (if 0 ≤ x8_1 then (if x8_1 < (l0.length : Int) then ((crc_Frame.f kj4 (rd_L1 l0 x8_1)).bind fun bt141 => (if bt141.2 = 0 then (if x6_1.length + bt141.1.length < 140737488355328 then ((some (x6_1 ++ bt141.1 : List Int)).bind fun y145 => (if x7_1.length < 17592186044416 then (tidemilllaw02_CrcTorn.l0 kj4 l0 a1 t139 y145 (x7_1 ++ [(y145.length : Int)]) (wrap64 (x8_1 + 1))) else (none))) else (none)) else (if t139 = true then (some (decide (((rd_L1 l0 x8_1).length : Int) > 4096))) else (some false)))) else (none)) else (none)) = some r := by rw [if_pos rfl] at H; exact H
            clear H
            have H := H1
            clear H1
            by_cases c8 : 0 ≤ x8_1
            · rw [if_pos c8] at H
              have c8b0 : decide (0 ≤ x8_1) = true := decide_eq_true c8
              clear c8
              by_cases c9 : x8_1 < (l0.length : Int)
              · rw [if_pos c9] at H
                have c9b0 : decide (x8_1 < (l0.length : Int)) = true := decide_eq_true c9
                clear c9
                replace H := Option.bind_eq_some_iff.mp H
                obtain ⟨⟨t141, t142⟩, A100, H⟩ := H
                replace H : (if t142 = 0 then (if x6_1.length + t141.length < 140737488355328 then ((some (x6_1 ++ t141 : List Int)).bind fun y145 => (if x7_1.length < 17592186044416 then (tidemilllaw02_CrcTorn.l0 kj4 l0 a1 t139 y145 (x7_1 ++ [(y145.length : Int)]) (wrap64 (x8_1 + 1))) else (none))) else (none)) else (if t139 = true then (some (decide (((rd_L1 l0 x8_1).length : Int) > 4096))) else (some false))) = some r := H
                have A10 := Aside0.mk A100
                clear A100
                by_cases c11 : t142 = 0
                · rw [if_pos c11] at H
                  have c11b0 : (t142 == 0) = true := beq_iff_eq.mpr c11
                  have c11b1 : (t142 != 0) = false := bne_eq_false_iff_eq.mpr c11
                  clear c11
                  by_cases c12 : x6_1.length + t141.length < 140737488355328
                  · rw [if_pos c12] at H
                    have LMc12 := Aside0.mk c12
                    clear c12
                    obtain ⟨y145, hy145⟩ : ∃ y_ : List Int, y_ = (x6_1 ++ t141) := ⟨_, rfl⟩
                    replace H : (if x7_1.length < 17592186044416 then (tidemilllaw02_CrcTorn.l0 kj4 l0 a1 t139 y145 (x7_1 ++ [(y145.length : Int)]) (wrap64 (x8_1 + 1))) else (none)) = some r := by first | (rw [hy145]; with_reducible exact H) | (have H2_ := (Option.bind_some _ _).symm.trans H; rw [hy145]; with_reducible exact H2_) | (have H2_ := (Option.bind_some _ _).symm.trans H; with_reducible exact H2_) | with_reducible exact H | (rw [hy145]; exact H) | exact H
                    have Ny145 := Aside0.mk hy145
                    clear hy145
                    by_cases c13 : x7_1.length < 17592186044416
                    · rw [if_pos c13] at H
                      have LMc13 := Aside0.mk c13
                      clear c13
                      obtain ⟨y148, hy148⟩ : ∃ y_ : List Int, y_ = (x7_1 ++ [(y145.length : Int)]) := ⟨_, rfl⟩
                      replace H : (tidemilllaw02_CrcTorn.l0 kj4 l0 a1 t139 y145 y148 (wrap64 (x8_1 + 1))) = some r := by first | (rw [hy148]; with_reducible exact H) | (have H2_ := (Option.bind_some _ _).symm.trans H; rw [hy148]; with_reducible exact H2_) | (have H2_ := (Option.bind_some _ _).symm.trans H; with_reducible exact H2_) | with_reducible exact H | (rw [hy148]; exact H) | exact H
                      have Ny148 := Aside0.mk hy148
                      clear hy148
                      have H' := Aside0.mk H
                      clear H
                      have p140 : 0 ≤ (x8_1 : Int) := of_decide_eq_true (by first | (with_reducible assumption) | assumption)
                      have q140 : x8_1 < (l0.length : Int) := of_decide_eq_true (by first | (with_reducible assumption) | assumption)
                      obtain ⟨ad140, A140_0, c140_0, e140, hx140_0, hl140_0, hi140_0⟩ := at_L1 HR0.out x8_1 p140 q140
                      cases e140
                      replace hx140_0 := (HB.out.cell (World.block_lt_of_cell? w _ hx140_0)).trans hx140_0
                      have HR140_0 := Aside0.mk hi140_0
                      have HC140_0 := Aside0.mk hl140_0
                      clear hi140_0 hl140_0
                      replace p140 := eq_true p140
                      replace q140 := eq_true q140
                      go_wp2_with (first | ((with_reducible refine gate_callee (f := 10) rfl ?_); refine goesL_ (some 32) rfl rfl Try.func10 (by kernel_rfl) rfl #[.slice A140_0 (rd_L1 l0 x8_1).length c140_0] rfl (by (try simp only [List.map_toArray, List.map_cons, List.map_nil]); first | done | rfl | (simp only [List.length_drop, List.length_take]; rfl)) ?_; (with_reducible refine (crc_Frame.calls kj4 _ _ (rd_L1 l0 x8_1) t141 t142 _ ?side1 ?side2 A10.out).mono ?_); (case side1 => repeat (first | exact (Kd.C_below HR140_0.out HB.out) | (with_reducible refine Kd.C_alloc ?_ _) | (with_reducible refine Kd.C_drewN ?_ _) | (with_reducible refine Kd.C_drew ?_))); (case side2 => exact HC140_0.out); rintro e w14 ⟨v143, rfl, ho0, hb⟩; refine ⟨_, rfl, ?_⟩; have n0_ := Aside0.mk (Kd.R_elder' (by (with_reducible repeat (first | apply Kd.R_alloc | apply Kd.R_drewN | apply Kd.R_drew)); exact HO_6.out) (Kd.R_base ho0) hb); have n1_ := Aside0.mk (Kd.R_below (by (with_reducible repeat (first | apply Kd.R_alloc | apply Kd.R_drewN | apply Kd.R_drew)); exact HO_7.out) hb); have n2_ := Aside0.mk (Kd.R_lower (Kd.R_new' ho0 (Kd.R_lt (by (with_reducible repeat (first | apply Kd.R_alloc | apply Kd.R_drewN | apply Kd.R_drew)); exact HO_6.out))) (below_size (by repeat (first | (with_reducible first | exact HB.out | apply below_alloc | apply pw_below_drewN | apply below_drew1) | exact HB.out)))); have n3_ := Aside0.mk (below_step (by repeat (first | (with_reducible first | exact HB.out | apply below_alloc | apply pw_below_drewN | apply below_drew1) | exact HB.out)) hb); clear HO_6; clear HO_7; clear HB; have HO_6 := n0_; have HO_7 := n1_; have HO144 := n2_; have HB := n3_; clear n0_ n1_ n2_ n3_; (try clear hb); (try clear hb2); (try clear hk); (try clear hi); (try clear ho0); obtain ⟨Ao16, co16, eo16⟩ := Kd.R_slice HO144.out; subst eo16) | ((with_reducible refine gate_builtin (b := .append) (xs := #[.tmp 46, .tmp 47]) rfl ?_); (try (refine gate_guard (by rfl) ?_; dsimp only)); at_builtin; refine Kd.R_append_rows (Kd.int .u8) (w0 := w) w.heap.size rfl (.tmp 46) (.tmp 47) 22 5 (.int .u8 0) 1 rfl Try.underlying22 info5 rfl (by decide) (by omega) u6 x6_1 t141 _ _ _ (fun k_ => some k_ ≠ (.slice Ao16 t141.length co16 : Value).ownBlock) (fun _ => False) rfl rfl ?aO ?aR (fun _ _ h => h) (fun _ h => h.elim) ?aF ?aB ?aS ?aL ?_; (case aR => repeat (first | exact (Kd.R_reads' HO144.out).2.2 | (with_reducible refine Kd.C_alloc ?_ _) | (with_reducible refine Kd.C_drewN ?_ _) | (with_reducible refine Kd.C_drew ?_))); (case aB => exact (by repeat (first | (with_reducible first | exact HB.out | apply below_alloc | apply pw_below_drewN | apply below_drew1) | exact HB.out))); (case aF => exact (fun k_ hk => Kd.fresh' (Kd.R_lt (by (with_reducible repeat (first | apply Kd.R_alloc | apply Kd.R_drewN | apply Kd.R_drew)); exact HO144.out)) k_ hk)); (case aO => exact (by (with_reducible repeat (first | apply Kd.R_alloc | apply Kd.R_drewN | apply Kd.R_drew)); exact Kd.R_mono HO_6.out (fun _ hk => hk.2))); (case aS => exact (below_size (by repeat (first | (with_reducible first | exact HB.out | apply below_alloc | apply pw_below_drewN | apply below_drew1) | exact HB.out)))); (case aL => have := LMc12.out; omega); intro v146 w15 ho hb hg hat; rw [← Ny145.out] at ho; have n0_ := Aside0.mk (Kd.R_over' (by (with_reducible repeat (first | apply Kd.R_alloc | apply Kd.R_drewN | apply Kd.R_drew)); exact HO_7.out) (Kd.R_typed (by (with_reducible repeat (first | apply Kd.R_alloc | apply Kd.R_drewN | apply Kd.R_drew)); exact HO_6.out)) (by decide) hg); have n1_ := Aside0.mk (Kd.R_after (ok := (fun _ => True)) (by (with_reducible repeat (first | apply Kd.R_alloc | apply Kd.R_drewN | apply Kd.R_drew)); exact HO144.out) hg hat); have n2_ := Aside0.mk (hb); have n3_ := Aside0.mk (ho); clear HO_7; clear HO144; clear HB; clear HO_6; have HO_7 := n0_; have HO144 := n1_; have HB := n2_; have HO147 := n3_; clear n0_ n1_ n2_ n3_; clear ho hb hg hat; obtain ⟨Ao17, co17, eo17⟩ := Kd.R_slice HO147.out; subst eo17) | ((with_reducible refine gate_builtin (b := .append) (xs := #[.tmp 49, .tmp 52]) rfl ?_); (try (refine gate_guard (by rfl) ?_; dsimp only)); at_builtin; refine Kd.R_append (Kd.int .i64) (w0 := w) w.heap.size rfl (.tmp 49) (.tmp 52) 43 3 (.int .i64 0) 8 rfl Try.underlying43 info3 rfl (by decide) (by omega) u7 x7_1 (y145.length : Int) [.int .i64 (y145.length : Int)] (fun _ => True) (fun _ => False) rfl rfl ?aP (fun _ hk => hk.elim) ?aF ?aO ?aB ?aS ?aL ?_; (case aP => exact rfl); (case aB => exact (by repeat (first | (with_reducible first | exact HB.out | apply below_alloc | apply pw_below_drewN | apply below_drew1) | exact HB.out))); (case aF => exact (fun _ _ => trivial)); (case aO => exact (by (with_reducible repeat (first | apply Kd.R_alloc | apply Kd.R_drewN | apply Kd.R_drew)); exact HO_7.out)); (case aS => exact (below_size (by repeat (first | (with_reducible first | exact HB.out | apply below_alloc | apply pw_below_drewN | apply below_drew1) | exact HB.out)))); (case aL => have := LMc13.out; omega); intro v149 w18 ho hb hg hat; rw [← Ny148.out] at ho; have n0_ := Aside0.mk (Kd.R_over' (by (with_reducible repeat (first | apply Kd.R_alloc | apply Kd.R_drewN | apply Kd.R_drew)); exact HO144.out) (Kd.R_typed (by (with_reducible repeat (first | apply Kd.R_alloc | apply Kd.R_drewN | apply Kd.R_drew)); exact HO_7.out)) (by decide) hg); have n1_ := Aside0.mk (Kd.R_over' (by (with_reducible repeat (first | apply Kd.R_alloc | apply Kd.R_drewN | apply Kd.R_drew)); exact HO147.out) (Kd.R_typed (by (with_reducible repeat (first | apply Kd.R_alloc | apply Kd.R_drewN | apply Kd.R_drew)); exact HO_7.out)) (by decide) hg); have n2_ := Aside0.mk (hb); have n3_ := Aside0.mk (ho); clear HO144; clear HO147; clear HB; clear HO_7; have HO144 := n0_; have HO147 := n1_; have HB := n2_; have HO150 := n3_; clear n0_ n1_ n2_ n3_; clear ho hb hg hat))
                      go_roundg kj4
                      case measure => have := HK1.out; have := HJ4.out; omega
                      case rel => exact ⟨(y145), (y148), (wrap64 (x8_1 + 1)), (by first | rfl | (simp; done) | (simp [*]; done)), H', ⟨by have := HK1.out; have := HJ4.out; omega⟩, ⟨by (with_reducible repeat (first | apply Kd.R_alloc | apply Kd.R_drewN | apply Kd.R_drew)); exact Kd.R_mono HO147.out (fun _ hk => trivial)⟩, ⟨by (with_reducible repeat (first | apply Kd.R_alloc | apply Kd.R_drewN | apply Kd.R_drew)); exact HO150.out⟩, ⟨by repeat (first | (with_reducible first | exact HB.out | apply below_alloc | apply pw_below_drewN | apply below_drew1) | exact HB.out)⟩⟩
                    · rw [if_neg c13] at H
                      exact absurd H (by simp)
                  · rw [if_neg c12] at H
                    exact absurd H (by simp)
                · rw [if_neg c11] at H
                  have c11b0 : (t142 == 0) = false := beq_eq_false_iff_ne.mpr c11
                  have c11b1 : (t142 != 0) = true := bne_iff_ne.mpr c11
                  by_cases c19 : t139 = true
                  · subst c19
                    have H1 : (some (decide (((rd_L1 l0 x8_1).length : Int) > 4096))) = some r := by rw [if_pos rfl] at H; exact H
                    clear H
                    have H := H1
                    clear H1
                    obtain rfl := Option.some.inj H
                    have p140 : 0 ≤ (x8_1 : Int) := of_decide_eq_true (by first | (with_reducible assumption) | assumption)
                    have q140 : x8_1 < (l0.length : Int) := of_decide_eq_true (by first | (with_reducible assumption) | assumption)
                    obtain ⟨ad140, A140_0, c140_0, e140, hx140_0, hl140_0, hi140_0⟩ := at_L1 HR0.out x8_1 p140 q140
                    cases e140
                    replace hx140_0 := (HB.out.cell (World.block_lt_of_cell? w _ hx140_0)).trans hx140_0
                    have HR140_0 := Aside0.mk hi140_0
                    have HC140_0 := Aside0.mk hl140_0
                    clear hi140_0 hl140_0
                    replace p140 := eq_true p140
                    replace q140 := eq_true q140
                    go_wp2_with (first | ((with_reducible refine gate_callee (f := 10) rfl ?_); refine goesL_ (some 32) rfl rfl Try.func10 (by kernel_rfl) rfl #[.slice A140_0 (rd_L1 l0 x8_1).length c140_0] rfl (by (try simp only [List.map_toArray, List.map_cons, List.map_nil]); first | done | rfl | (simp only [List.length_drop, List.length_take]; rfl)) ?_; (with_reducible refine (crc_Frame.calls kj4 _ _ (rd_L1 l0 x8_1) t141 t142 _ ?side1 ?side2 A10.out).mono ?_); (case side1 => repeat (first | exact (Kd.C_below HR140_0.out HB.out) | (with_reducible refine Kd.C_alloc ?_ _) | (with_reducible refine Kd.C_drewN ?_ _) | (with_reducible refine Kd.C_drew ?_))); (case side2 => exact HC140_0.out); rintro e w20 ⟨v143, rfl, ho0, hb⟩; refine ⟨_, rfl, ?_⟩; have n0_ := Aside0.mk (Kd.R_elder' (by (with_reducible repeat (first | apply Kd.R_alloc | apply Kd.R_drewN | apply Kd.R_drew)); exact HO_6.out) (Kd.R_base ho0) hb); have n1_ := Aside0.mk (Kd.R_below (by (with_reducible repeat (first | apply Kd.R_alloc | apply Kd.R_drewN | apply Kd.R_drew)); exact HO_7.out) hb); have n2_ := Aside0.mk (Kd.R_lower (Kd.R_new' ho0 (Kd.R_lt (by (with_reducible repeat (first | apply Kd.R_alloc | apply Kd.R_drewN | apply Kd.R_drew)); exact HO_6.out))) (below_size (by repeat (first | (with_reducible first | exact HB.out | apply below_alloc | apply pw_below_drewN | apply below_drew1) | exact HB.out)))); have n3_ := Aside0.mk (below_step (by repeat (first | (with_reducible first | exact HB.out | apply below_alloc | apply pw_below_drewN | apply below_drew1) | exact HB.out)) hb); clear HO_6; clear HO_7; clear HB; have HO_6 := n0_; have HO_7 := n1_; have HO144 := n2_; have HB := n3_; clear n0_ n1_ n2_ n3_; (try clear hb); (try clear hb2); (try clear hk); (try clear hi); (try clear ho0); have p151 : 0 ≤ (x8_1 : Int) := of_decide_eq_true (by first | (with_reducible assumption) | assumption); have q151 : x8_1 < (l0.length : Int) := of_decide_eq_true (by first | (with_reducible assumption) | assumption); obtain ⟨ad151, A151_0, c151_0, e151, hx151_0, hl151_0, hi151_0⟩ := at_L1 HR0.out x8_1 p151 q151; obtain rfl : ad140 = ad151 := (by injection e151); replace hx151_0 := (HB.out.cell (World.block_lt_of_cell? w _ hx151_0)).trans hx151_0; have HR151_0 := Aside0.mk hi151_0; have HC151_0 := Aside0.mk hl151_0; clear hi151_0 hl151_0; replace p151 := eq_true p151; replace q151 := eq_true q151))
                    go_ret
                    exact ⟨by first | rfl | (simp [errW_none, errW_some] <;> rfl) | (simp [*, errW_none, errW_some] <;> rfl), by repeat (first | (with_reducible first | exact HB.out | apply below_alloc | apply pw_below_drewN | apply below_drew1) | exact HB.out)⟩
                  · replace c19 := Bool.eq_false_iff.mpr c19
                    subst c19
                    have H1 : (some false) = some r := by rw [if_neg (show ¬ (false = true) by decide)] at H; exact H
                    clear H
                    have H := H1
                    clear H1
                    obtain rfl := Option.some.inj H
                    have p140 : 0 ≤ (x8_1 : Int) := of_decide_eq_true (by first | (with_reducible assumption) | assumption)
                    have q140 : x8_1 < (l0.length : Int) := of_decide_eq_true (by first | (with_reducible assumption) | assumption)
                    obtain ⟨ad140, A140_0, c140_0, e140, hx140_0, hl140_0, hi140_0⟩ := at_L1 HR0.out x8_1 p140 q140
                    cases e140
                    replace hx140_0 := (HB.out.cell (World.block_lt_of_cell? w _ hx140_0)).trans hx140_0
                    have HR140_0 := Aside0.mk hi140_0
                    have HC140_0 := Aside0.mk hl140_0
                    clear hi140_0 hl140_0
                    replace p140 := eq_true p140
                    replace q140 := eq_true q140
                    go_wp2_with (first | ((with_reducible refine gate_callee (f := 10) rfl ?_); refine goesL_ (some 32) rfl rfl Try.func10 (by kernel_rfl) rfl #[.slice A140_0 (rd_L1 l0 x8_1).length c140_0] rfl (by (try simp only [List.map_toArray, List.map_cons, List.map_nil]); first | done | rfl | (simp only [List.length_drop, List.length_take]; rfl)) ?_; (with_reducible refine (crc_Frame.calls kj4 _ _ (rd_L1 l0 x8_1) t141 t142 _ ?side1 ?side2 A10.out).mono ?_); (case side1 => repeat (first | exact (Kd.C_below HR140_0.out HB.out) | (with_reducible refine Kd.C_alloc ?_ _) | (with_reducible refine Kd.C_drewN ?_ _) | (with_reducible refine Kd.C_drew ?_))); (case side2 => exact HC140_0.out); rintro e w21 ⟨v143, rfl, ho0, hb⟩; refine ⟨_, rfl, ?_⟩; have n0_ := Aside0.mk (Kd.R_elder' (by (with_reducible repeat (first | apply Kd.R_alloc | apply Kd.R_drewN | apply Kd.R_drew)); exact HO_6.out) (Kd.R_base ho0) hb); have n1_ := Aside0.mk (Kd.R_below (by (with_reducible repeat (first | apply Kd.R_alloc | apply Kd.R_drewN | apply Kd.R_drew)); exact HO_7.out) hb); have n2_ := Aside0.mk (Kd.R_lower (Kd.R_new' ho0 (Kd.R_lt (by (with_reducible repeat (first | apply Kd.R_alloc | apply Kd.R_drewN | apply Kd.R_drew)); exact HO_6.out))) (below_size (by repeat (first | (with_reducible first | exact HB.out | apply below_alloc | apply pw_below_drewN | apply below_drew1) | exact HB.out)))); have n3_ := Aside0.mk (below_step (by repeat (first | (with_reducible first | exact HB.out | apply below_alloc | apply pw_below_drewN | apply below_drew1) | exact HB.out)) hb); clear HO_6; clear HO_7; clear HB; have HO_6 := n0_; have HO_7 := n1_; have HO144 := n2_; have HB := n3_; clear n0_ n1_ n2_ n3_; (try clear hb); (try clear hb2); (try clear hk); (try clear hi); (try clear ho0)))
                    go_ret
                    exact ⟨by first | rfl | (simp [errW_none, errW_some] <;> rfl) | (simp [*, errW_none, errW_some] <;> rfl), by repeat (first | (with_reducible first | exact HB.out | apply below_alloc | apply pw_below_drewN | apply below_drew1) | exact HB.out)⟩
              · rw [if_neg c9] at H
                exact absurd H (by simp)
            · rw [if_neg c8] at H
              exact absurd H (by simp)
          · replace c7 := Bool.eq_false_iff.mpr c7
            subst c7
            have H1 : (if (x6_1.length : Int) = 0 then (if t139 = true then (some ((l0.length : Int) == 0)) else (some false)) else (if (wrap64 ((x6_1.length : Int) + 1)) = 0 then (none) else (if 0 ≤ (Int.tmod (wrap64 (a1)) (wrap64 ((x6_1.length : Int) + 1))) then (if (Int.tmod (wrap64 (a1)) (wrap64 ((x6_1.length : Int) + 1))) ≤ (x6_1.length : Int) then ((crc_Scan.f (x6_1.take ((Int.tmod (wrap64 (a1)) (wrap64 ((x6_1.length : Int) + 1))) : Int).toNat)).bind fun bt156 => (tidemilllaw02_CrcTorn.l1 kj4 l0 t139 x7_1 (Int.tmod (wrap64 (a1)) (wrap64 ((x6_1.length : Int) + 1))) bt156.1 bt156.2 0)) else (none)) else (none)))) = some r := by rw [if_neg (show ¬ (false = true) by decide)] at H; exact H
            clear H
            have H := H1
            clear H1
            by_cases c22 : (x6_1.length : Int) = 0
            · rw [if_pos c22] at H
              have c22b0 : ((x6_1.length : Int) == 0) = true := beq_iff_eq.mpr c22
              have c22b1 : ((x6_1.length : Int) != 0) = false := bne_eq_false_iff_eq.mpr c22
              clear c22
              by_cases c23 : t139 = true
              · subst c23
                have H1 : (some ((l0.length : Int) == 0)) = some r := by rw [if_pos rfl] at H; exact H
                clear H
                have H := H1
                clear H1
                obtain rfl := Option.some.inj H
                obtain ⟨Ao24, co24, eo24⟩ := Kd.R_slice HO_6.out
                subst eo24
                go_wp2
                go_ret
                exact ⟨by first | rfl | (simp [errW_none, errW_some] <;> rfl) | (simp [*, errW_none, errW_some] <;> rfl), by repeat (first | (with_reducible first | exact HB.out | apply below_alloc | apply pw_below_drewN | apply below_drew1) | exact HB.out)⟩
              · replace c23 := Bool.eq_false_iff.mpr c23
                subst c23
                have H1 : (some false) = some r := by rw [if_neg (show ¬ (false = true) by decide)] at H; exact H
                clear H
                have H := H1
                clear H1
                obtain rfl := Option.some.inj H
                obtain ⟨Ao25, co25, eo25⟩ := Kd.R_slice HO_6.out
                subst eo25
                go_wp2
                go_ret
                exact ⟨by first | rfl | (simp [errW_none, errW_some] <;> rfl) | (simp [*, errW_none, errW_some] <;> rfl), by repeat (first | (with_reducible first | exact HB.out | apply below_alloc | apply pw_below_drewN | apply below_drew1) | exact HB.out)⟩
            · rw [if_neg c22] at H
              have c22b0 : ((x6_1.length : Int) == 0) = false := beq_eq_false_iff_ne.mpr c22
              have c22b1 : ((x6_1.length : Int) != 0) = true := bne_iff_ne.mpr c22
              have c22b2 : ¬ (x6_1 = []) := fun h_ => c22 (by rw [h_]; rfl)
              by_cases c26 : (wrap64 ((x6_1.length : Int) + 1)) = 0
              · rw [if_pos c26] at H
                exact absurd H (by simp)
              · rw [if_neg c26] at H
                have c26b0 : ((wrap64 ((x6_1.length : Int) + 1)) == 0) = false := beq_eq_false_iff_ne.mpr c26
                have c26b1 : ((wrap64 ((x6_1.length : Int) + 1)) != 0) = true := bne_iff_ne.mpr c26
                obtain ⟨ji27, hji27⟩ : ∃ j_ : Int, (Int.tmod (wrap64 (a1)) (wrap64 ((x6_1.length : Int) + 1))) = j_ := ⟨_, rfl⟩
                replace H : (if 0 ≤ (ji27) then (if (ji27) ≤ (x6_1.length : Int) then ((crc_Scan.f (x6_1.take ((ji27) : Int).toNat)).bind fun bt156 => (tidemilllaw02_CrcTorn.l1 kj4 l0 t139 x7_1 ji27 bt156.1 bt156.2 0)) else (none)) else (none)) = some r := by first | (rw [hji27] at H; exact H) | (simp only [hji27] at H ⊢; exact H)
                by_cases c28 : 0 ≤ (ji27)
                · rw [if_pos c28] at H
                  have c28b0 := eq_true c28
                  have c28b1 : decide (0 ≤ (ji27)) = true := decide_eq_true c28
                  clear c28
                  by_cases c29 : (ji27) ≤ (x6_1.length : Int)
                  · rw [if_pos c29] at H
                    have c29b0 := eq_true c29
                    have c29b1 : decide ((ji27) ≤ (x6_1.length : Int)) = true := decide_eq_true c29
                    clear c29
                    obtain ⟨y152, hy152⟩ : ∃ y_ : List Int, y_ = (x6_1.take ((ji27) : Int).toNat) := ⟨_, rfl⟩
                    replace H : ((crc_Scan.f y152).bind fun bt156 => (tidemilllaw02_CrcTorn.l1 kj4 l0 t139 x7_1 ji27 bt156.1 bt156.2 0)) = some r := by first | (rw [hy152]; with_reducible exact H) | (have H2_ := (Option.bind_some _ _).symm.trans H; rw [hy152]; with_reducible exact H2_) | (have H2_ := (Option.bind_some _ _).symm.trans H; with_reducible exact H2_) | with_reducible exact H | (rw [hy152]; exact H) | exact H
                    have Ny152 := Aside0.mk hy152
                    clear hy152
                    replace H := Option.bind_eq_some_iff.mp H
                    obtain ⟨⟨t156, t157⟩, A300, H⟩ := H
                    replace H : (tidemilllaw02_CrcTorn.l1 kj4 l0 t139 x7_1 ji27 t156 t157 0) = some r := H
                    have A30 := Aside0.mk A300
                    clear A300
                    have H' := Aside0.mk H
                    clear H
                    obtain ⟨Ao31, co31, eo31⟩ := Kd.R_slice HO_6.out
                    subst eo31
                    have q32 : ((ji27) : Int) ≤ ((x6_1.length : Int) : Int) := of_decide_eq_true (by first | (with_reducible assumption) | assumption)
                    obtain ⟨i032, hi032, _, hsz32, _⟩ := info_parts info5
                    have hroom32 : x6_1.length ≤ co31 := (Kd.R_reads' HO_6.out).2.1
                    have hC32 : Kd.C (Kd.int .u8) _ Ao31 x6_1.length x6_1 := (Kd.R_reads' HO_6.out).2.2
                    have hcut32 := cut_to (P := Try.prog) 22 5 .i64 Try.underlying22 hi032 Ao31 x6_1.length co31 (ji27) (of_decide_eq_true (by first | (with_reducible assumption) | assumption)) q32 hroom32
                    have hr32 := Kd.C_take (m := ((ji27) : Int).toNat) hC32 (by omega)
                    have hy32 : y152.length = ((ji27) : Int).toNat := (by rw [Ny152.out, List.length_take]; omega)
                    rw [← Ny152.out] at hr32
                    rw [← hy32] at hcut32
                    have HR155 := Aside0.mk hr32
                    have HC155 := Aside0.mk (show y152.length ≤ co31 from by omega)
                    clear hr32 hC32 hroom32 hi032 hsz32
                    have KY32 := Aside0.mk hy32
                    clear hy32
                    have KL32 := Aside0.mk (show ((ji27) : Int).toNat ≤ x6_1.length from by omega)
                    replace q32 := eq_true q32
                    go_wp2_with (first | ((with_reducible refine gate_callee (f := 14) rfl ?_); refine goesL_ (some 73) rfl rfl Try.func14 (by kernel_rfl) rfl #[.slice Ao31 y152.length co31] rfl (by (try simp only [List.map_toArray, List.map_cons, List.map_nil]); first | done | rfl | (simp only [List.length_drop, List.length_take]; rfl)) ?_; (with_reducible refine (crc_Scan.calls _ _ y152 t156 t157 _ ?side1 ?side2 A30.out).mono ?_); (case side1 => repeat (first | exact (by repeat (first | (with_reducible exact HR155.out) | (with_reducible refine Kd.C_alloc ?_ _) | (with_reducible refine Kd.C_drewN ?_ _) | (with_reducible refine Kd.C_drew ?_) | exact HR155.out)) | (with_reducible refine Kd.C_alloc ?_ _) | (with_reducible refine Kd.C_drewN ?_ _) | (with_reducible refine Kd.C_drew ?_))); (case side2 => exact HC155.out); rintro e w33 ⟨v158, rfl, ho0, hb⟩; refine ⟨_, rfl, ?_⟩; have n0_ := Aside0.mk (Kd.R_below (by (with_reducible repeat (first | apply Kd.R_alloc | apply Kd.R_drewN | apply Kd.R_drew)); exact HO_6.out) hb); have n1_ := Aside0.mk (Kd.R_below (by (with_reducible repeat (first | apply Kd.R_alloc | apply Kd.R_drewN | apply Kd.R_drew)); exact HO_7.out) hb); have n2_ := Aside0.mk (Kd.S_lower (Kd.S_new' ho0 (Kd.R_lt (by (with_reducible repeat (first | apply Kd.R_alloc | apply Kd.R_drewN | apply Kd.R_drew)); exact HO_6.out))) (below_size (by repeat (first | (with_reducible first | exact HB.out | apply below_alloc | apply pw_below_drewN | apply below_drew1) | exact HB.out)))); have n3_ := Aside0.mk (Kd.C_below (by repeat (first | (with_reducible exact HR155.out) | (with_reducible refine Kd.C_alloc ?_ _) | (with_reducible refine Kd.C_drewN ?_ _) | (with_reducible refine Kd.C_drew ?_) | exact HR155.out)) hb); have n4_ := Aside0.mk (below_step (by repeat (first | (with_reducible first | exact HB.out | apply below_alloc | apply pw_below_drewN | apply below_drew1) | exact HB.out)) hb); clear HO_6; clear HO_7; clear HR155; clear HB; have HO_6 := n0_; have HO_7 := n1_; have HO159 := n2_; have HR155 := n3_; have HB := n4_; clear n0_ n1_ n2_ n3_ n4_; (try clear hb); (try clear hb2); (try clear hk); (try clear hi); (try clear ho0)))
                    go_loopg [14] kj4 (fun kq v14 w' => ∃ (x14_3 : Int), v14 = .int .i64 x14_3 ∧ Aside0 (tidemilllaw02_CrcTorn.l1 kq l0 t139 x7_1 ji27 t156 t157 x14_3 = some r) ∧ Aside0 (kq ≤ kj4) ∧ Aside0 (Kd.R (Kd.int .i64) 3 w' w.heap.size (fun _ => True) u7 x7_1) ∧ Aside0 (Kd.S (Kd.slice 5 (Kd.int .u8)) 22 w' w.heap.size (fun _ => True) v158 t156) ∧ Aside0 (Kd.C (Kd.int .u8) w' Ao31 y152.length y152) ∧ Aside0 (Below w.heap.size w w'))
                    case atStart => exact ⟨(0), (by first | rfl | (simp; done) | (simp [*]; done)), H', ⟨Nat.le_refl _⟩, ⟨by (with_reducible repeat (first | apply Kd.R_alloc | apply Kd.R_drewN | apply Kd.R_drew)); exact HO_7.out⟩, ⟨by (with_reducible repeat (first | apply Kd.S_alloc | apply Kd.S_drewN | apply Kd.S_drew)); exact Kd.S_mono HO159.out (fun _ hk => trivial)⟩, ⟨by repeat (first | (with_reducible exact HR155.out) | (with_reducible refine Kd.C_alloc ?_ _) | (with_reducible refine Kd.C_drewN ?_ _) | (with_reducible refine Kd.C_drew ?_) | exact HR155.out)⟩, ⟨by repeat (first | (with_reducible first | exact HB.out | apply below_alloc | apply pw_below_drewN | apply below_drew1) | exact HB.out)⟩⟩
                    case round =>
                      clear H'
                      try clear c1
                      try clear p1
                      try clear q1
                      try clear hx1
                      try clear c2
                      try clear p2
                      try clear q3
                      try clear c6
                      try clear c6b0
                      try clear p6
                      try clear c7
                      try clear c8
                      try clear c8b0
                      try clear c9
                      try clear c9b0
                      try clear c10
                      try clear c11
                      try clear c11b0
                      try clear c11b1
                      try clear c12
                      try clear c13
                      try clear c14
                      try clear p14
                      try clear q14
                      try clear hx14
                      try clear c15
                      try clear p15
                      try clear q15
                      try clear hx15
                      try clear c19
                      try clear c22
                      try clear c22b0
                      try clear c22b1
                      try clear c22b2
                      try clear c23
                      try clear c26
                      try clear c26b0
                      try clear c26b1
                      try clear c28
                      try clear c28b0
                      try clear c28b1
                      try clear c29
                      try clear c29b0
                      try clear c29b1
                      try clear q32
                      try clear hx140_0
                      try clear hx151_0
                      try clear p140
                      try clear p151
                      try clear p2
                      try clear q140
                      try clear q151
                      try clear q32
                      obtain ⟨x14_3, rfl, HA, HK3, HO_7, HO_12, HR155, HB⟩ := hrel
                      cases gk with
                      | zero => exact absurd HA.out (by simp [tidemilllaw02_CrcTorn.l1])
                      | succ k3 =>
                        have H := HA.out
                        clear HA
                        simp only [tidemilllaw02_CrcTorn.l1] at H
                        by_cases c34 : x14_3 < (x7_1.length : Int)
                        · rw [if_pos c34] at H
                          have c34b0 : decide (x14_3 < (x7_1.length : Int)) = true := decide_eq_true c34
                          clear c34
                          by_cases c35 : 0 ≤ x14_3
                          · rw [if_pos c35] at H
                            have c35b0 : decide (0 ≤ x14_3) = true := decide_eq_true c35
                            clear c35
                            by_cases c36 : (rd x7_1 x14_3) ≤ ji27
                            · rw [if_pos c36] at H
                              have c36b0 : decide ((rd x7_1 x14_3) ≤ ji27) = true := decide_eq_true c36
                              clear c36
                              have H' := Aside0.mk H
                              clear H
                              obtain ⟨Ao37, co37, eo37⟩ := Kd.R_slice HO_7.out
                              subst eo37
                              have p160 : 0 ≤ (x14_3 : Int) := of_decide_eq_true (by first | (with_reducible assumption) | assumption)
                              have q160 : x14_3 < (x7_1.length : Int) := of_decide_eq_true (by first | (with_reducible assumption) | assumption)
                              obtain ⟨ad160, e160, hx160_0⟩ := Kd.at_int (Kd.R_reads' HO_7.out).2.2 x14_3 p160 q160
                              cases e160
                              replace p160 := eq_true p160
                              replace q160 := eq_true q160
                              go_wp2
                              go_roundg k3
                              case measure => have := HK1.out; have := HJ4.out; have := HK3.out; omega
                              case rel => exact ⟨(wrap64 (x14_3 + 1)), (by first | rfl | (simp; done) | (simp [*]; done)), H', ⟨by have := HK1.out; have := HJ4.out; have := HK3.out; omega⟩, ⟨by (with_reducible repeat (first | apply Kd.R_alloc | apply Kd.R_drewN | apply Kd.R_drew)); exact HO_7.out⟩, ⟨by (with_reducible repeat (first | apply Kd.S_alloc | apply Kd.S_drewN | apply Kd.S_drew)); exact HO_12.out⟩, ⟨by repeat (first | (with_reducible exact HR155.out) | (with_reducible refine Kd.C_alloc ?_ _) | (with_reducible refine Kd.C_drewN ?_ _) | (with_reducible refine Kd.C_drew ?_) | exact HR155.out)⟩, ⟨by repeat (first | (with_reducible first | exact HB.out | apply below_alloc | apply pw_below_drewN | apply below_drew1) | exact HB.out)⟩⟩
                            · rw [if_neg c36] at H
                              have c36b0 : decide ((rd x7_1 x14_3) ≤ ji27) = false := decide_eq_false c36
                              clear c36
                              by_cases c38 : x14_3 > 0
                              · rw [if_pos c38] at H
                                have c38b0 : decide (0 < x14_3) = true := decide_eq_true c38
                                clear c38
                                obtain ⟨ji39, hji39⟩ : ∃ j_ : Int, (wrap64 (x14_3 - 1)) = j_ := ⟨_, rfl⟩
                                replace H : (if 0 ≤ (ji39) then (if (ji39) < (x7_1.length : Int) then (if t139 = true then (if t157 = (rd x7_1 (ji39)) then (if x14_3 ≤ (l0.length : Int) then ((tidemillref02_Lists.f t156 (l0.take (x14_3 : Int).toNat)).bind fun t166 => (some t166)) else (none)) else (some false)) else (some false)) else (none)) else (none)) = some r := by first | (rw [hji39] at H; exact H) | (simp only [hji39] at H ⊢; exact H)
                                have hji39w : (IntKind.i64.wrap (x14_3 - 1)) = ji39 := (i64_w _).trans hji39
                                by_cases c40 : 0 ≤ (ji39)
                                · rw [if_pos c40] at H
                                  have c40b0 : decide (0 ≤ (ji39)) = true := decide_eq_true c40
                                  clear c40
                                  by_cases c41 : (ji39) < (x7_1.length : Int)
                                  · rw [if_pos c41] at H
                                    have c41b0 : decide ((ji39) < (x7_1.length : Int)) = true := decide_eq_true c41
                                    clear c41
                                    by_cases c42 : t139 = true
                                    · subst c42
                                      have H1 : (if t157 = (rd x7_1 (ji39)) then (if x14_3 ≤ (l0.length : Int) then ((tidemillref02_Lists.f t156 (l0.take (x14_3 : Int).toNat)).bind fun t166 => (some t166)) else (none)) else (some false)) = some r := by rw [if_pos rfl] at H; exact H
                                      clear H
                                      have H := H1
                                      clear H1
                                      by_cases c43 : t157 = (rd x7_1 (ji39))
                                      · rw [if_pos c43] at H
                                        have c43b0 : (t157 == (rd x7_1 (ji39))) = true := beq_iff_eq.mpr c43
                                        have c43b1 : (t157 != (rd x7_1 (ji39))) = false := bne_eq_false_iff_eq.mpr c43
                                        clear c43
                                        have c44b0 := eq_true (of_decide_eq_true (by first | (with_reducible assumption) | assumption) : 0 ≤ x14_3)
                                        by_cases c45 : x14_3 ≤ (l0.length : Int)
                                        · rw [if_pos c45] at H
                                          have c45b0 := eq_true c45
                                          have c45b1 : decide (x14_3 ≤ (l0.length : Int)) = true := decide_eq_true c45
                                          clear c45
                                          obtain ⟨y162, hy162⟩ : ∃ y_ : List (List Int), y_ = (l0.take (x14_3 : Int).toNat) := ⟨_, rfl⟩
                                          replace H : ((tidemillref02_Lists.f t156 y162).bind fun t166 => (some t166)) = some r := by first | (rw [hy162]; with_reducible exact H) | (have H2_ := (Option.bind_some _ _).symm.trans H; rw [hy162]; with_reducible exact H2_) | (have H2_ := (Option.bind_some _ _).symm.trans H; with_reducible exact H2_) | with_reducible exact H | (rw [hy162]; exact H) | exact H
                                          have Ny162 := Aside0.mk hy162
                                          clear hy162
                                          replace H := Option.bind_eq_some_iff.mp H
                                          obtain ⟨t166, A460, H⟩ := H
                                          replace H : (some t166) = some r := H
                                          have A46 := Aside0.mk A460
                                          clear A460
                                          obtain rfl := Option.some.inj H
                                          obtain ⟨Ao47, co47, eo47⟩ := Kd.R_slice HO_7.out
                                          subst eo47
                                          have p160 : 0 ≤ (x14_3 : Int) := of_decide_eq_true (by first | (with_reducible assumption) | assumption)
                                          have q160 : x14_3 < (x7_1.length : Int) := of_decide_eq_true (by first | (with_reducible assumption) | assumption)
                                          obtain ⟨ad160, e160, hx160_0⟩ := Kd.at_int (Kd.R_reads' HO_7.out).2.2 x14_3 p160 q160
                                          cases e160
                                          replace p160 := eq_true p160
                                          replace q160 := eq_true q160
                                          have p161 : 0 ≤ ((ji39) : Int) := of_decide_eq_true (by first | (with_reducible assumption) | assumption)
                                          have q161 : (ji39) < (x7_1.length : Int) := of_decide_eq_true (by first | (with_reducible assumption) | assumption)
                                          obtain ⟨ad161, e161, hx161_0⟩ := Kd.at_int (Kd.R_reads' HO_7.out).2.2 (ji39) p161 q161
                                          obtain rfl : ad160 = ad161 := (by injection e161)
                                          replace p161 := eq_true p161
                                          replace q161 := eq_true q161
                                          have q48 : (x14_3 : Int) ≤ ((l0.length : Int) : Int) := of_decide_eq_true (by first | (with_reducible assumption) | assumption)
                                          obtain ⟨i048, hi048, _, hsz48, _⟩ := info_parts info22
                                          have hroom48 : l0.length ≤ c0 := HC0.out
                                          have hC48 : Kd.C (Kd.slice 5 (Kd.int .u8)) _ A0 l0.length l0 := HR0.out
                                          have hcut48 := cut_to (P := Try.prog) 37 22 .i64 Try.underlying37 hi048 A0 l0.length c0 x14_3 (of_decide_eq_true (by first | (with_reducible assumption) | assumption)) q48 hroom48
                                          have hr48 := Kd.C_take (m := (x14_3 : Int).toNat) hC48 (by omega)
                                          have hy48 : y162.length = (x14_3 : Int).toNat := (by rw [Ny162.out, List.length_take]; omega)
                                          rw [← Ny162.out] at hr48
                                          rw [← hy48] at hcut48
                                          have HR165 := Aside0.mk hr48
                                          have HC165 := Aside0.mk (show y162.length ≤ c0 from by omega)
                                          clear hr48 hC48 hroom48 hi048 hsz48
                                          have KY48 := Aside0.mk hy48
                                          clear hy48
                                          replace q48 := eq_true q48
                                          obtain ⟨Ao49, co49, eo49⟩ := Kd.S_slice HO_12.out
                                          subst eo49
                                          go_wp2_with (first | (go_at_call 18; (with_reducible refine (tidemillref02_Lists.calls _ _ t156 _ _ y162 t166 _ ?side1 ?side2 ?side3 ?side4 A46.out).mono ?_); (case side1 => repeat (first | exact (Kd.S_reads' HO_12.out).2.2 | (with_reducible refine Kd.C_alloc ?_ _) | (with_reducible refine Kd.C_drewN ?_ _) | (with_reducible refine Kd.C_drew ?_))); (case side2 => exact (Kd.S_reads' HO_12.out).2.1); (case side3 => repeat (first | exact (Kd.C_below HR165.out HB.out) | (with_reducible refine Kd.C_alloc ?_ _) | (with_reducible refine Kd.C_drewN ?_ _) | (with_reducible refine Kd.C_drew ?_))); (case side4 => exact HC165.out); rintro e w' ⟨rfl, ⟨nd, rfl⟩⟩))
                                          go_ret
                                          exact ⟨by first | rfl | (simp [errW_none, errW_some] <;> rfl) | (simp only [← hji27, ← hji39]; first | rfl | (simp [errW_none, errW_some] <;> rfl)) | (simp [*, errW_none, errW_some] <;> rfl), by repeat (first | (with_reducible first | exact HB.out | apply below_alloc | apply pw_below_drewN | apply below_drew1) | exact HB.out)⟩
                                        · rw [if_neg c45] at H
                                          exact absurd H (by simp)
                                      · rw [if_neg c43] at H
                                        have c43b0 : (t157 == (rd x7_1 (ji39))) = false := beq_eq_false_iff_ne.mpr c43
                                        have c43b1 : (t157 != (rd x7_1 (ji39))) = true := bne_iff_ne.mpr c43
                                        obtain rfl := Option.some.inj H
                                        obtain ⟨Ao50, co50, eo50⟩ := Kd.R_slice HO_7.out
                                        subst eo50
                                        have p160 : 0 ≤ (x14_3 : Int) := of_decide_eq_true (by first | (with_reducible assumption) | assumption)
                                        have q160 : x14_3 < (x7_1.length : Int) := of_decide_eq_true (by first | (with_reducible assumption) | assumption)
                                        obtain ⟨ad160, e160, hx160_0⟩ := Kd.at_int (Kd.R_reads' HO_7.out).2.2 x14_3 p160 q160
                                        cases e160
                                        replace p160 := eq_true p160
                                        replace q160 := eq_true q160
                                        have p161 : 0 ≤ ((ji39) : Int) := of_decide_eq_true (by first | (with_reducible assumption) | assumption)
                                        have q161 : (ji39) < (x7_1.length : Int) := of_decide_eq_true (by first | (with_reducible assumption) | assumption)
                                        obtain ⟨ad161, e161, hx161_0⟩ := Kd.at_int (Kd.R_reads' HO_7.out).2.2 (ji39) p161 q161
                                        obtain rfl : ad160 = ad161 := (by injection e161)
                                        replace p161 := eq_true p161
                                        replace q161 := eq_true q161
                                        go_wp2
                                        go_ret
                                        exact ⟨by first | rfl | (simp [errW_none, errW_some] <;> rfl) | (simp only [← hji27, ← hji39]; first | rfl | (simp [errW_none, errW_some] <;> rfl)) | (simp [*, errW_none, errW_some] <;> rfl), by repeat (first | (with_reducible first | exact HB.out | apply below_alloc | apply pw_below_drewN | apply below_drew1) | exact HB.out)⟩
                                    · replace c42 := Bool.eq_false_iff.mpr c42
                                      subst c42
                                      have H1 : (some false) = some r := by rw [if_neg (show ¬ (false = true) by decide)] at H; exact H
                                      clear H
                                      have H := H1
                                      clear H1
                                      obtain rfl := Option.some.inj H
                                      obtain ⟨Ao51, co51, eo51⟩ := Kd.R_slice HO_7.out
                                      subst eo51
                                      have p160 : 0 ≤ (x14_3 : Int) := of_decide_eq_true (by first | (with_reducible assumption) | assumption)
                                      have q160 : x14_3 < (x7_1.length : Int) := of_decide_eq_true (by first | (with_reducible assumption) | assumption)
                                      obtain ⟨ad160, e160, hx160_0⟩ := Kd.at_int (Kd.R_reads' HO_7.out).2.2 x14_3 p160 q160
                                      cases e160
                                      replace p160 := eq_true p160
                                      replace q160 := eq_true q160
                                      have p161 : 0 ≤ ((ji39) : Int) := of_decide_eq_true (by first | (with_reducible assumption) | assumption)
                                      have q161 : (ji39) < (x7_1.length : Int) := of_decide_eq_true (by first | (with_reducible assumption) | assumption)
                                      obtain ⟨ad161, e161, hx161_0⟩ := Kd.at_int (Kd.R_reads' HO_7.out).2.2 (ji39) p161 q161
                                      obtain rfl : ad160 = ad161 := (by injection e161)
                                      replace p161 := eq_true p161
                                      replace q161 := eq_true q161
                                      go_wp2
                                      go_ret
                                      exact ⟨by first | rfl | (simp [errW_none, errW_some] <;> rfl) | (simp only [← hji27, ← hji39]; first | rfl | (simp [errW_none, errW_some] <;> rfl)) | (simp [*, errW_none, errW_some] <;> rfl), by repeat (first | (with_reducible first | exact HB.out | apply below_alloc | apply pw_below_drewN | apply below_drew1) | exact HB.out)⟩
                                  · rw [if_neg c41] at H
                                    exact absurd H (by simp)
                                · rw [if_neg c40] at H
                                  exact absurd H (by simp)
                              · rw [if_neg c38] at H
                                have c38b0 : decide (0 < x14_3) = false := decide_eq_false c38
                                clear c38
                                by_cases c52 : t139 = true
                                · subst c52
                                  have H1 : (if t157 = 0 then (if x14_3 ≤ (l0.length : Int) then ((tidemillref02_Lists.f t156 (l0.take (x14_3 : Int).toNat)).bind fun t171 => (some t171)) else (none)) else (some false)) = some r := by rw [if_pos rfl] at H; exact H
                                  clear H
                                  have H := H1
                                  clear H1
                                  by_cases c53 : t157 = 0
                                  · rw [if_pos c53] at H
                                    have c53b0 : (t157 == 0) = true := beq_iff_eq.mpr c53
                                    have c53b1 : (t157 != 0) = false := bne_eq_false_iff_eq.mpr c53
                                    clear c53
                                    have c54b0 := eq_true (of_decide_eq_true (by first | (with_reducible assumption) | assumption) : 0 ≤ x14_3)
                                    by_cases c55 : x14_3 ≤ (l0.length : Int)
                                    · rw [if_pos c55] at H
                                      have c55b0 := eq_true c55
                                      have c55b1 : decide (x14_3 ≤ (l0.length : Int)) = true := decide_eq_true c55
                                      clear c55
                                      obtain ⟨y167, hy167⟩ : ∃ y_ : List (List Int), y_ = (l0.take (x14_3 : Int).toNat) := ⟨_, rfl⟩
                                      replace H : ((tidemillref02_Lists.f t156 y167).bind fun t171 => (some t171)) = some r := by first | (rw [hy167]; with_reducible exact H) | (have H2_ := (Option.bind_some _ _).symm.trans H; rw [hy167]; with_reducible exact H2_) | (have H2_ := (Option.bind_some _ _).symm.trans H; with_reducible exact H2_) | with_reducible exact H | (rw [hy167]; exact H) | exact H
                                      have Ny167 := Aside0.mk hy167
                                      clear hy167
                                      replace H := Option.bind_eq_some_iff.mp H
                                      obtain ⟨t171, A560, H⟩ := H
                                      replace H : (some t171) = some r := H
                                      have A56 := Aside0.mk A560
                                      clear A560
                                      obtain rfl := Option.some.inj H
                                      obtain ⟨Ao57, co57, eo57⟩ := Kd.R_slice HO_7.out
                                      subst eo57
                                      have p160 : 0 ≤ (x14_3 : Int) := of_decide_eq_true (by first | (with_reducible assumption) | assumption)
                                      have q160 : x14_3 < (x7_1.length : Int) := of_decide_eq_true (by first | (with_reducible assumption) | assumption)
                                      obtain ⟨ad160, e160, hx160_0⟩ := Kd.at_int (Kd.R_reads' HO_7.out).2.2 x14_3 p160 q160
                                      cases e160
                                      replace p160 := eq_true p160
                                      replace q160 := eq_true q160
                                      have q58 : (x14_3 : Int) ≤ ((l0.length : Int) : Int) := of_decide_eq_true (by first | (with_reducible assumption) | assumption)
                                      obtain ⟨i058, hi058, _, hsz58, _⟩ := info_parts info22
                                      have hroom58 : l0.length ≤ c0 := HC0.out
                                      have hC58 : Kd.C (Kd.slice 5 (Kd.int .u8)) _ A0 l0.length l0 := HR0.out
                                      have hcut58 := cut_to (P := Try.prog) 37 22 .i64 Try.underlying37 hi058 A0 l0.length c0 x14_3 (of_decide_eq_true (by first | (with_reducible assumption) | assumption)) q58 hroom58
                                      have hr58 := Kd.C_take (m := (x14_3 : Int).toNat) hC58 (by omega)
                                      have hy58 : y167.length = (x14_3 : Int).toNat := (by rw [Ny167.out, List.length_take]; omega)
                                      rw [← Ny167.out] at hr58
                                      rw [← hy58] at hcut58
                                      have HR170 := Aside0.mk hr58
                                      have HC170 := Aside0.mk (show y167.length ≤ c0 from by omega)
                                      clear hr58 hC58 hroom58 hi058 hsz58
                                      have KY58 := Aside0.mk hy58
                                      clear hy58
                                      replace q58 := eq_true q58
                                      obtain ⟨Ao59, co59, eo59⟩ := Kd.S_slice HO_12.out
                                      subst eo59
                                      go_wp2_with (first | (go_at_call 18; (with_reducible refine (tidemillref02_Lists.calls _ _ t156 _ _ y167 t171 _ ?side1 ?side2 ?side3 ?side4 A56.out).mono ?_); (case side1 => repeat (first | exact (Kd.S_reads' HO_12.out).2.2 | (with_reducible refine Kd.C_alloc ?_ _) | (with_reducible refine Kd.C_drewN ?_ _) | (with_reducible refine Kd.C_drew ?_))); (case side2 => exact (Kd.S_reads' HO_12.out).2.1); (case side3 => repeat (first | exact (Kd.C_below HR170.out HB.out) | (with_reducible refine Kd.C_alloc ?_ _) | (with_reducible refine Kd.C_drewN ?_ _) | (with_reducible refine Kd.C_drew ?_))); (case side4 => exact HC170.out); rintro e w' ⟨rfl, ⟨nd, rfl⟩⟩))
                                      go_ret
                                      exact ⟨by first | rfl | (simp [errW_none, errW_some] <;> rfl) | (simp only [← hji27]; first | rfl | (simp [errW_none, errW_some] <;> rfl)) | (simp [*, errW_none, errW_some] <;> rfl), by repeat (first | (with_reducible first | exact HB.out | apply below_alloc | apply pw_below_drewN | apply below_drew1) | exact HB.out)⟩
                                    · rw [if_neg c55] at H
                                      exact absurd H (by simp)
                                  · rw [if_neg c53] at H
                                    have c53b0 : (t157 == 0) = false := beq_eq_false_iff_ne.mpr c53
                                    have c53b1 : (t157 != 0) = true := bne_iff_ne.mpr c53
                                    obtain rfl := Option.some.inj H
                                    obtain ⟨Ao60, co60, eo60⟩ := Kd.R_slice HO_7.out
                                    subst eo60
                                    have p160 : 0 ≤ (x14_3 : Int) := of_decide_eq_true (by first | (with_reducible assumption) | assumption)
                                    have q160 : x14_3 < (x7_1.length : Int) := of_decide_eq_true (by first | (with_reducible assumption) | assumption)
                                    obtain ⟨ad160, e160, hx160_0⟩ := Kd.at_int (Kd.R_reads' HO_7.out).2.2 x14_3 p160 q160
                                    cases e160
                                    replace p160 := eq_true p160
                                    replace q160 := eq_true q160
                                    go_wp2
                                    go_ret
                                    exact ⟨by first | rfl | (simp [errW_none, errW_some] <;> rfl) | (simp only [← hji27]; first | rfl | (simp [errW_none, errW_some] <;> rfl)) | (simp [*, errW_none, errW_some] <;> rfl), by repeat (first | (with_reducible first | exact HB.out | apply below_alloc | apply pw_below_drewN | apply below_drew1) | exact HB.out)⟩
                                · replace c52 := Bool.eq_false_iff.mpr c52
                                  subst c52
                                  have H1 : (some false) = some r := by rw [if_neg (show ¬ (false = true) by decide)] at H; exact H
                                  clear H
                                  have H := H1
                                  clear H1
                                  obtain rfl := Option.some.inj H
                                  obtain ⟨Ao61, co61, eo61⟩ := Kd.R_slice HO_7.out
                                  subst eo61
                                  have p160 : 0 ≤ (x14_3 : Int) := of_decide_eq_true (by first | (with_reducible assumption) | assumption)
                                  have q160 : x14_3 < (x7_1.length : Int) := of_decide_eq_true (by first | (with_reducible assumption) | assumption)
                                  obtain ⟨ad160, e160, hx160_0⟩ := Kd.at_int (Kd.R_reads' HO_7.out).2.2 x14_3 p160 q160
                                  cases e160
                                  replace p160 := eq_true p160
                                  replace q160 := eq_true q160
                                  go_wp2
                                  go_ret
                                  exact ⟨by first | rfl | (simp [errW_none, errW_some] <;> rfl) | (simp only [← hji27]; first | rfl | (simp [errW_none, errW_some] <;> rfl)) | (simp [*, errW_none, errW_some] <;> rfl), by repeat (first | (with_reducible first | exact HB.out | apply below_alloc | apply pw_below_drewN | apply below_drew1) | exact HB.out)⟩
                          · rw [if_neg c35] at H
                            exact absurd H (by simp)
                        · rw [if_neg c34] at H
                          have c34b0 : decide (x14_3 < (x7_1.length : Int)) = false := decide_eq_false c34
                          clear c34
                          by_cases c62 : x14_3 > 0
                          · rw [if_pos c62] at H
                            have c62b0 : decide (0 < x14_3) = true := decide_eq_true c62
                            clear c62
                            obtain ⟨ji63, hji63⟩ : ∃ j_ : Int, (wrap64 (x14_3 - 1)) = j_ := ⟨_, rfl⟩
                            replace H : (if 0 ≤ (ji63) then (if (ji63) < (x7_1.length : Int) then (if t139 = true then (if t157 = (rd x7_1 (ji63)) then (if 0 ≤ x14_3 then (if x14_3 ≤ (l0.length : Int) then ((tidemillref02_Lists.f t156 (l0.take (x14_3 : Int).toNat)).bind fun t177 => (some t177)) else (none)) else (none)) else (some false)) else (some false)) else (none)) else (none)) = some r := by first | (rw [hji63] at H; exact H) | (simp only [hji63] at H ⊢; exact H)
                            have hji63w : (IntKind.i64.wrap (x14_3 - 1)) = ji63 := (i64_w _).trans hji63
                            by_cases c64 : 0 ≤ (ji63)
                            · rw [if_pos c64] at H
                              have c64b0 : decide (0 ≤ (ji63)) = true := decide_eq_true c64
                              clear c64
                              by_cases c65 : (ji63) < (x7_1.length : Int)
                              · rw [if_pos c65] at H
                                have c65b0 : decide ((ji63) < (x7_1.length : Int)) = true := decide_eq_true c65
                                clear c65
                                by_cases c66 : t139 = true
                                · subst c66
                                  have H1 : (if t157 = (rd x7_1 (ji63)) then (if 0 ≤ x14_3 then (if x14_3 ≤ (l0.length : Int) then ((tidemillref02_Lists.f t156 (l0.take (x14_3 : Int).toNat)).bind fun t177 => (some t177)) else (none)) else (none)) else (some false)) = some r := by rw [if_pos rfl] at H; exact H
                                  clear H
                                  have H := H1
                                  clear H1
                                  by_cases c67 : t157 = (rd x7_1 (ji63))
                                  · rw [if_pos c67] at H
                                    have c67b0 : (t157 == (rd x7_1 (ji63))) = true := beq_iff_eq.mpr c67
                                    have c67b1 : (t157 != (rd x7_1 (ji63))) = false := bne_eq_false_iff_eq.mpr c67
                                    clear c67
                                    by_cases c68 : 0 ≤ x14_3
                                    · rw [if_pos c68] at H
                                      have c68b0 := eq_true c68
                                      have c68b1 : decide (0 ≤ x14_3) = true := decide_eq_true c68
                                      clear c68
                                      by_cases c69 : x14_3 ≤ (l0.length : Int)
                                      · rw [if_pos c69] at H
                                        have c69b0 := eq_true c69
                                        have c69b1 : decide (x14_3 ≤ (l0.length : Int)) = true := decide_eq_true c69
                                        clear c69
                                        obtain ⟨y173, hy173⟩ : ∃ y_ : List (List Int), y_ = (l0.take (x14_3 : Int).toNat) := ⟨_, rfl⟩
                                        replace H : ((tidemillref02_Lists.f t156 y173).bind fun t177 => (some t177)) = some r := by first | (rw [hy173]; with_reducible exact H) | (have H2_ := (Option.bind_some _ _).symm.trans H; rw [hy173]; with_reducible exact H2_) | (have H2_ := (Option.bind_some _ _).symm.trans H; with_reducible exact H2_) | with_reducible exact H | (rw [hy173]; exact H) | exact H
                                        have Ny173 := Aside0.mk hy173
                                        clear hy173
                                        replace H := Option.bind_eq_some_iff.mp H
                                        obtain ⟨t177, A700, H⟩ := H
                                        replace H : (some t177) = some r := H
                                        have A70 := Aside0.mk A700
                                        clear A700
                                        obtain rfl := Option.some.inj H
                                        obtain ⟨Ao71, co71, eo71⟩ := Kd.R_slice HO_7.out
                                        subst eo71
                                        have p172 : 0 ≤ ((ji63) : Int) := of_decide_eq_true (by first | (with_reducible assumption) | assumption)
                                        have q172 : (ji63) < (x7_1.length : Int) := of_decide_eq_true (by first | (with_reducible assumption) | assumption)
                                        obtain ⟨ad172, e172, hx172_0⟩ := Kd.at_int (Kd.R_reads' HO_7.out).2.2 (ji63) p172 q172
                                        cases e172
                                        replace p172 := eq_true p172
                                        replace q172 := eq_true q172
                                        have q72 : (x14_3 : Int) ≤ ((l0.length : Int) : Int) := of_decide_eq_true (by first | (with_reducible assumption) | assumption)
                                        obtain ⟨i072, hi072, _, hsz72, _⟩ := info_parts info22
                                        have hroom72 : l0.length ≤ c0 := HC0.out
                                        have hC72 : Kd.C (Kd.slice 5 (Kd.int .u8)) _ A0 l0.length l0 := HR0.out
                                        have hcut72 := cut_to (P := Try.prog) 37 22 .i64 Try.underlying37 hi072 A0 l0.length c0 x14_3 (of_decide_eq_true (by first | (with_reducible assumption) | assumption)) q72 hroom72
                                        have hr72 := Kd.C_take (m := (x14_3 : Int).toNat) hC72 (by omega)
                                        have hy72 : y173.length = (x14_3 : Int).toNat := (by rw [Ny173.out, List.length_take]; omega)
                                        rw [← Ny173.out] at hr72
                                        rw [← hy72] at hcut72
                                        have HR176 := Aside0.mk hr72
                                        have HC176 := Aside0.mk (show y173.length ≤ c0 from by omega)
                                        clear hr72 hC72 hroom72 hi072 hsz72
                                        have KY72 := Aside0.mk hy72
                                        clear hy72
                                        replace q72 := eq_true q72
                                        obtain ⟨Ao73, co73, eo73⟩ := Kd.S_slice HO_12.out
                                        subst eo73
                                        go_wp2_with (first | (go_at_call 18; (with_reducible refine (tidemillref02_Lists.calls _ _ t156 _ _ y173 t177 _ ?side1 ?side2 ?side3 ?side4 A70.out).mono ?_); (case side1 => repeat (first | exact (Kd.S_reads' HO_12.out).2.2 | (with_reducible refine Kd.C_alloc ?_ _) | (with_reducible refine Kd.C_drewN ?_ _) | (with_reducible refine Kd.C_drew ?_))); (case side2 => exact (Kd.S_reads' HO_12.out).2.1); (case side3 => repeat (first | exact (Kd.C_below HR176.out HB.out) | (with_reducible refine Kd.C_alloc ?_ _) | (with_reducible refine Kd.C_drewN ?_ _) | (with_reducible refine Kd.C_drew ?_))); (case side4 => exact HC176.out); rintro e w' ⟨rfl, ⟨nd, rfl⟩⟩))
                                        go_ret
                                        exact ⟨by first | rfl | (simp [errW_none, errW_some] <;> rfl) | (simp only [← hji27, ← hji63]; first | rfl | (simp [errW_none, errW_some] <;> rfl)) | (simp [*, errW_none, errW_some] <;> rfl), by repeat (first | (with_reducible first | exact HB.out | apply below_alloc | apply pw_below_drewN | apply below_drew1) | exact HB.out)⟩
                                      · rw [if_neg c69] at H
                                        exact absurd H (by simp)
                                    · rw [if_neg c68] at H
                                      exact absurd H (by simp)
                                  · rw [if_neg c67] at H
                                    have c67b0 : (t157 == (rd x7_1 (ji63))) = false := beq_eq_false_iff_ne.mpr c67
                                    have c67b1 : (t157 != (rd x7_1 (ji63))) = true := bne_iff_ne.mpr c67
                                    obtain rfl := Option.some.inj H
                                    obtain ⟨Ao74, co74, eo74⟩ := Kd.R_slice HO_7.out
                                    subst eo74
                                    have p172 : 0 ≤ ((ji63) : Int) := of_decide_eq_true (by first | (with_reducible assumption) | assumption)
                                    have q172 : (ji63) < (x7_1.length : Int) := of_decide_eq_true (by first | (with_reducible assumption) | assumption)
                                    obtain ⟨ad172, e172, hx172_0⟩ := Kd.at_int (Kd.R_reads' HO_7.out).2.2 (ji63) p172 q172
                                    cases e172
                                    replace p172 := eq_true p172
                                    replace q172 := eq_true q172
                                    go_wp2
                                    go_ret
                                    exact ⟨by first | rfl | (simp [errW_none, errW_some] <;> rfl) | (simp only [← hji27, ← hji63]; first | rfl | (simp [errW_none, errW_some] <;> rfl)) | (simp [*, errW_none, errW_some] <;> rfl), by repeat (first | (with_reducible first | exact HB.out | apply below_alloc | apply pw_below_drewN | apply below_drew1) | exact HB.out)⟩
                                · replace c66 := Bool.eq_false_iff.mpr c66
                                  subst c66
                                  have H1 : (some false) = some r := by rw [if_neg (show ¬ (false = true) by decide)] at H; exact H
                                  clear H
                                  have H := H1
                                  clear H1
                                  obtain rfl := Option.some.inj H
                                  obtain ⟨Ao75, co75, eo75⟩ := Kd.R_slice HO_7.out
                                  subst eo75
                                  have p172 : 0 ≤ ((ji63) : Int) := of_decide_eq_true (by first | (with_reducible assumption) | assumption)
                                  have q172 : (ji63) < (x7_1.length : Int) := of_decide_eq_true (by first | (with_reducible assumption) | assumption)
                                  obtain ⟨ad172, e172, hx172_0⟩ := Kd.at_int (Kd.R_reads' HO_7.out).2.2 (ji63) p172 q172
                                  cases e172
                                  replace p172 := eq_true p172
                                  replace q172 := eq_true q172
                                  go_wp2
                                  go_ret
                                  exact ⟨by first | rfl | (simp [errW_none, errW_some] <;> rfl) | (simp only [← hji27, ← hji63]; first | rfl | (simp [errW_none, errW_some] <;> rfl)) | (simp [*, errW_none, errW_some] <;> rfl), by repeat (first | (with_reducible first | exact HB.out | apply below_alloc | apply pw_below_drewN | apply below_drew1) | exact HB.out)⟩
                              · rw [if_neg c65] at H
                                exact absurd H (by simp)
                            · rw [if_neg c64] at H
                              exact absurd H (by simp)
                          · rw [if_neg c62] at H
                            have c62b0 : decide (0 < x14_3) = false := decide_eq_false c62
                            clear c62
                            by_cases c76 : t139 = true
                            · subst c76
                              have H1 : (if t157 = 0 then (if 0 ≤ x14_3 then (if x14_3 ≤ (l0.length : Int) then ((tidemillref02_Lists.f t156 (l0.take (x14_3 : Int).toNat)).bind fun t182 => (some t182)) else (none)) else (none)) else (some false)) = some r := by rw [if_pos rfl] at H; exact H
                              clear H
                              have H := H1
                              clear H1
                              by_cases c77 : t157 = 0
                              · rw [if_pos c77] at H
                                have c77b0 : (t157 == 0) = true := beq_iff_eq.mpr c77
                                have c77b1 : (t157 != 0) = false := bne_eq_false_iff_eq.mpr c77
                                clear c77
                                by_cases c78 : 0 ≤ x14_3
                                · rw [if_pos c78] at H
                                  have c78b0 := eq_true c78
                                  have c78b1 : decide (0 ≤ x14_3) = true := decide_eq_true c78
                                  clear c78
                                  by_cases c79 : x14_3 ≤ (l0.length : Int)
                                  · rw [if_pos c79] at H
                                    have c79b0 := eq_true c79
                                    have c79b1 : decide (x14_3 ≤ (l0.length : Int)) = true := decide_eq_true c79
                                    clear c79
                                    obtain ⟨y178, hy178⟩ : ∃ y_ : List (List Int), y_ = (l0.take (x14_3 : Int).toNat) := ⟨_, rfl⟩
                                    replace H : ((tidemillref02_Lists.f t156 y178).bind fun t182 => (some t182)) = some r := by first | (rw [hy178]; with_reducible exact H) | (have H2_ := (Option.bind_some _ _).symm.trans H; rw [hy178]; with_reducible exact H2_) | (have H2_ := (Option.bind_some _ _).symm.trans H; with_reducible exact H2_) | with_reducible exact H | (rw [hy178]; exact H) | exact H
                                    have Ny178 := Aside0.mk hy178
                                    clear hy178
                                    replace H := Option.bind_eq_some_iff.mp H
                                    obtain ⟨t182, A800, H⟩ := H
                                    replace H : (some t182) = some r := H
                                    have A80 := Aside0.mk A800
                                    clear A800
                                    obtain rfl := Option.some.inj H
                                    obtain ⟨Ao81, co81, eo81⟩ := Kd.R_slice HO_7.out
                                    subst eo81
                                    have q82 : (x14_3 : Int) ≤ ((l0.length : Int) : Int) := of_decide_eq_true (by first | (with_reducible assumption) | assumption)
                                    obtain ⟨i082, hi082, _, hsz82, _⟩ := info_parts info22
                                    have hroom82 : l0.length ≤ c0 := HC0.out
                                    have hC82 : Kd.C (Kd.slice 5 (Kd.int .u8)) _ A0 l0.length l0 := HR0.out
                                    have hcut82 := cut_to (P := Try.prog) 37 22 .i64 Try.underlying37 hi082 A0 l0.length c0 x14_3 (of_decide_eq_true (by first | (with_reducible assumption) | assumption)) q82 hroom82
                                    have hr82 := Kd.C_take (m := (x14_3 : Int).toNat) hC82 (by omega)
                                    have hy82 : y178.length = (x14_3 : Int).toNat := (by rw [Ny178.out, List.length_take]; omega)
                                    rw [← Ny178.out] at hr82
                                    rw [← hy82] at hcut82
                                    have HR181 := Aside0.mk hr82
                                    have HC181 := Aside0.mk (show y178.length ≤ c0 from by omega)
                                    clear hr82 hC82 hroom82 hi082 hsz82
                                    have KY82 := Aside0.mk hy82
                                    clear hy82
                                    replace q82 := eq_true q82
                                    obtain ⟨Ao83, co83, eo83⟩ := Kd.S_slice HO_12.out
                                    subst eo83
                                    go_wp2_with (first | (go_at_call 18; (with_reducible refine (tidemillref02_Lists.calls _ _ t156 _ _ y178 t182 _ ?side1 ?side2 ?side3 ?side4 A80.out).mono ?_); (case side1 => repeat (first | exact (Kd.S_reads' HO_12.out).2.2 | (with_reducible refine Kd.C_alloc ?_ _) | (with_reducible refine Kd.C_drewN ?_ _) | (with_reducible refine Kd.C_drew ?_))); (case side2 => exact (Kd.S_reads' HO_12.out).2.1); (case side3 => repeat (first | exact (Kd.C_below HR181.out HB.out) | (with_reducible refine Kd.C_alloc ?_ _) | (with_reducible refine Kd.C_drewN ?_ _) | (with_reducible refine Kd.C_drew ?_))); (case side4 => exact HC181.out); rintro e w' ⟨rfl, ⟨nd, rfl⟩⟩))
                                    go_ret
                                    exact ⟨by first | rfl | (simp [errW_none, errW_some] <;> rfl) | (simp only [← hji27]; first | rfl | (simp [errW_none, errW_some] <;> rfl)) | (simp [*, errW_none, errW_some] <;> rfl), by repeat (first | (with_reducible first | exact HB.out | apply below_alloc | apply pw_below_drewN | apply below_drew1) | exact HB.out)⟩
                                  · rw [if_neg c79] at H
                                    exact absurd H (by simp)
                                · rw [if_neg c78] at H
                                  exact absurd H (by simp)
                              · rw [if_neg c77] at H
                                have c77b0 : (t157 == 0) = false := beq_eq_false_iff_ne.mpr c77
                                have c77b1 : (t157 != 0) = true := bne_iff_ne.mpr c77
                                obtain rfl := Option.some.inj H
                                obtain ⟨Ao84, co84, eo84⟩ := Kd.R_slice HO_7.out
                                subst eo84
                                go_wp2
                                go_ret
                                exact ⟨by first | rfl | (simp [errW_none, errW_some] <;> rfl) | (simp only [← hji27]; first | rfl | (simp [errW_none, errW_some] <;> rfl)) | (simp [*, errW_none, errW_some] <;> rfl), by repeat (first | (with_reducible first | exact HB.out | apply below_alloc | apply pw_below_drewN | apply below_drew1) | exact HB.out)⟩
                            · replace c76 := Bool.eq_false_iff.mpr c76
                              subst c76
                              have H1 : (some false) = some r := by rw [if_neg (show ¬ (false = true) by decide)] at H; exact H
                              clear H
                              have H := H1
                              clear H1
                              obtain rfl := Option.some.inj H
                              obtain ⟨Ao85, co85, eo85⟩ := Kd.R_slice HO_7.out
                              subst eo85
                              go_wp2
                              go_ret
                              exact ⟨by first | rfl | (simp [errW_none, errW_some] <;> rfl) | (simp only [← hji27]; first | rfl | (simp [errW_none, errW_some] <;> rfl)) | (simp [*, errW_none, errW_some] <;> rfl), by repeat (first | (with_reducible first | exact HB.out | apply below_alloc | apply pw_below_drewN | apply below_drew1) | exact HB.out)⟩
                  · rw [if_neg c29] at H
                    exact absurd H (by simp)
                · rw [if_neg c28] at H
                  exact absurd H (by simp)

end Go.Proofs.Yteihfipojnfnfaa.PCrcTorn

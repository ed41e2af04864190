-- Written by a turned copy of the print, with contracts that this session proved by hand.
import Derived.Test.YteihfipojnfnfaaPCrcTurnedx0
import Derived.Test.YteihfipojnfnfaaPCrcTurnedx1
namespace Go.Proofs.Yteihfipojnfnfaa.PCrcTurned
open Go.RowKit Go.Proofs.YteihfipojnfnfaaW.PrintWords Go.Proofs.YteihfipojnfnfaaW.PrintLast Go.Proofs.YteihfipojnfnfaaW.PrintMore
attribute [local go_sem] max2_int min2_int max_two min_two max_three min_three max_four min_four   -- for this text's walks alone
set_option linter.unusedVariables false
set_option linter.unusedSimpArgs false

/-! ### tidemilllaw02_CrcTurned: function 4 -/
mutual
def tidemilllaw02_CrcTurned.j0 : Nat → List Int → Int → Int → Bool → List Int → Bool → Option (Bool)
  | 0, _, _, _, _, _, _ => none
  | k + 1, x0, x1, x2, x7, x8, x32 => if x32 = true then (if x7 = true then (some (decide ((x0.length : Int) > 4096))) else (some false)) else (tidemilllaw02_CrcTurned.l0 k x0 x1 x2 x7 x8 (wrap64 ((wrap64 ((x8.length : Int) - (x0.length : Int))) - 4)) false 0)
def tidemilllaw02_CrcTurned.l0 : Nat → List Int → Int → Int → Bool → List Int → Int → Bool → Int → Option (Bool)
  | 0, _, _, _, _, _, _, _, _ => none
  | k + 1, x0, x1, x2, x7, x8, x10, x11, x12 => if x12 < 32 then (if 0 ≤ x12 then (if (Go.bits .and .u32 (shr .u32 x2 x12) 1) = 1 then (if (wrap64 (x10 + (wrap64 (Int.tdiv (wrap64 ((wrap64 (x1)) + x12)) 8)))) < (x8.length : Int) then (if 0 ≤ (wrap64 (x10 + (wrap64 (Int.tdiv (wrap64 ((wrap64 (x1)) + x12)) 8)))) then (if 0 ≤ (Int.tmod (wrap64 ((wrap64 (x1)) + x12)) 8) then (tidemilllaw02_CrcTurned.l0 k x0 x1 x2 x7 (x8.set ((wrap64 (x10 + (wrap64 (Int.tdiv (wrap64 ((wrap64 (x1)) + x12)) 8)))) : Int).toNat (Go.bits .xor .u8 (rd x8 (wrap64 (x10 + (wrap64 (Int.tdiv (wrap64 ((wrap64 (x1)) + x12)) 8))))) (shl .u8 1 (Int.tmod (wrap64 ((wrap64 (x1)) + x12)) 8)))) x10 true (wrap64 (x12 + 1))) else (none)) else (none)) else (tidemilllaw02_CrcTurned.l0 k x0 x1 x2 x7 x8 x10 x11 (wrap64 (x12 + 1)))) else (tidemilllaw02_CrcTurned.l0 k x0 x1 x2 x7 x8 x10 x11 (wrap64 (x12 + 1)))) else (none)) else ((crc_Open.f x8).bind fun bt146 => (if x11 = true then (if x7 = true then (if bt146.2.2 = 5 then (if (bt146.1.length : Int) = 0 then (some (bt146.2.1 == 0)) else (some false)) else (some false)) else (some false)) else (if x7 = true then (if bt146.2.2 = 0 then (some ((strOfNums bt146.1).toList == (strOfNums x0).toList)) else (some false)) else (some false))))
end
def tidemilllaw02_CrcTurned.f (k : Nat) (l0 : List Int) (a1 : Int) (a2 : Int) : Option (Bool) := (tidemilllaw02_shown.f).bind fun t139 => ((crc_Frame.f k l0).bind fun bt140 => (if bt140.2 = 0 then (tidemilllaw02_CrcTurned.j0 k l0 a1 a2 t139 bt140.1 (decide ((bt140.1.length : Int) ≤ (wrap64 ((l0.length : Int) + 4))))) else (tidemilllaw02_CrcTurned.j0 k l0 a1 a2 t139 bt140.1 true)))
theorem tidemilllaw02_CrcTurned.mono_l : ∀ k, (∀ y0 y1 y2 y3 y4 y5, LeO (tidemilllaw02_CrcTurned.j0 k y0 y1 y2 y3 y4 y5) (tidemilllaw02_CrcTurned.j0 (k + 1) y0 y1 y2 y3 y4 y5)) ∧ (∀ y0 y1 y2 y3 y4 y5 y6 y7, LeO (tidemilllaw02_CrcTurned.l0 k y0 y1 y2 y3 y4 y5 y6 y7) (tidemilllaw02_CrcTurned.l0 (k + 1) y0 y1 y2 y3 y4 y5 y6 y7))
  | 0 => ⟨fun _ _ _ _ _ _ r h => by simp [tidemilllaw02_CrcTurned.j0] at h, fun _ _ _ _ _ _ _ _ r h => by simp [tidemilllaw02_CrcTurned.l0] at h⟩
  | k + 1 => by
    obtain ⟨ih0, ih1⟩ := tidemilllaw02_CrcTurned.mono_l k
    refine ⟨?_, ?_⟩
    · intro y0 y1 y2 y3 y4 y5
      unfold tidemilllaw02_CrcTurned.j0
      repeat' first
      | (with_reducible exact ih0 _ _ _ _ _ _)
      | (with_reducible exact ih1 _ _ _ _ _ _ _ _)
      | (with_reducible exact crc_Frame.mono _ _)
      | (with_reducible exact LeO.refl _)
      | (with_reducible exact LeO.none _)
      | (with_reducible refine LeO.ite ?_ ?_)
      | (with_reducible refine LeO.bind ?_ (fun _ => ?_))
      | exact ih0 _ _ _ _ _ _
      | exact ih1 _ _ _ _ _ _ _ _
      | exact crc_Frame.mono _ _
      | exact LeO.none _
      | refine LeO.ite ?_ ?_
      | refine LeO.bind ?_ (fun _ => ?_)
    · intro y0 y1 y2 y3 y4 y5 y6 y7
      unfold tidemilllaw02_CrcTurned.l0
      repeat' first
      | (with_reducible exact ih0 _ _ _ _ _ _)
      | (with_reducible exact ih1 _ _ _ _ _ _ _ _)
      | (with_reducible exact crc_Frame.mono _ _)
      | (with_reducible exact LeO.refl _)
      | (with_reducible exact LeO.none _)
      | (with_reducible refine LeO.ite ?_ ?_)
      | (with_reducible refine LeO.bind ?_ (fun _ => ?_))
      | exact ih0 _ _ _ _ _ _
      | exact ih1 _ _ _ _ _ _ _ _
      | exact crc_Frame.mono _ _
      | exact LeO.none _
      | refine LeO.ite ?_ ?_
      | refine LeO.bind ?_ (fun _ => ?_)
theorem tidemilllaw02_CrcTurned.mono : ∀ a0 a1 a2 k, LeO (tidemilllaw02_CrcTurned.f k a0 a1 a2) (tidemilllaw02_CrcTurned.f (k + 1) a0 a1 a2) := by
  intro a0 a1 a2 k
  obtain ⟨ih0, ih1⟩ := tidemilllaw02_CrcTurned.mono_l k
  unfold tidemilllaw02_CrcTurned.f
  repeat' first
      | (with_reducible exact ih0 _ _ _ _ _ _)
      | (with_reducible exact ih1 _ _ _ _ _ _ _ _)
      | (with_reducible exact crc_Frame.mono _ _)
      | (with_reducible exact LeO.refl _)
      | (with_reducible exact LeO.none _)
      | (with_reducible refine LeO.ite ?_ ?_)
      | (with_reducible refine LeO.bind ?_ (fun _ => ?_))
      | exact ih0 _ _ _ _ _ _
      | exact ih1 _ _ _ _ _ _ _ _
      | exact crc_Frame.mono _ _
      | exact LeO.none _
      | refine LeO.ite ?_ ?_
      | refine LeO.bind ?_ (fun _ => ?_)
def tidemilllaw02_CrcTurned.T12 : Bool × List (List Nat × List Nat) := (true, [([], []), ([], []), ([], []), ([2], [2]), ([1, 3], [1, 3]), ([], []), ([], []), ([], []), ([7], [7]), ([6, 8], [6, 8]), ([5, 9], [5, 9]), ([10], [10]), ([], []), ([12], [12]), ([13], [13]), ([11, 14], [11, 14]), ([0, 4, 0, 1, 2, 3, 4, 5, 6, 7, 8, 9, 10, 11, 12, 13, 14, 15], [0, 4]), ([16, 15, 0, 1, 2, 3, 4, 5, 6, 7, 8, 9, 10, 11, 12, 13, 14, 15], [15, 16])])
def tidemilllaw02_CrcTurned.B12 : List Nat := [0, 0, 0, 4, 14, 0, 0, 0, 128, 448, 992, 2016, 0, 4096, 12288, 32736, 65535, 131071]
theorem tidemilllaw02_CrcTurned.tab12 : rtab .any (opsOf Try.f4 12) = tidemilllaw02_CrcTurned.T12 := by kernel_rfl
theorem tidemilllaw02_CrcTurned.bits12 : waitsOk tidemilllaw02_CrcTurned.T12.2 tidemilllaw02_CrcTurned.B12 = true := by kernel_rfl
set_option maxHeartbeats 8000000 in
set_option maxRecDepth 100000 in
theorem tidemilllaw02_CrcTurned.calls (k : Nat) (A0 : Option Addr) (c0 : Nat) (l0 : List Int) (a1 : Int) (a2 : Int) (r : Bool) (w : World) (hr0 : Kd.C (Kd.int .u8) w A0 l0.length l0) (hc0 : l0.length ≤ c0) (h : tidemilllaw02_CrcTurned.f k l0 a1 a2 = some r) :
    Calls Try.prog 4 #[.slice A0 l0.length c0, .int .u16 a1, .int .u32 a2] w fun e w' => e = .returned (.bool r) ∧ Below w.heap.size w w' := by
  have HR0 := Aside0.mk hr0
  have HC0 := Aside0.mk hc0
  clear hr0 hc0
  have HB := Aside0.mk (Below.refl w.heap.size w)
  have H : ((tidemilllaw02_shown.f).bind fun t139 => ((crc_Frame.f k l0).bind fun bt140 => (if bt140.2 = 0 then (tidemilllaw02_CrcTurned.j0 k l0 a1 a2 t139 bt140.1 (decide ((bt140.1.length : Int) ≤ (wrap64 ((l0.length : Int) + 4))))) else (tidemilllaw02_CrcTurned.j0 k l0 a1 a2 t139 bt140.1 true)))) = some r := h
  clear h
  replace H := Option.bind_eq_some_iff.mp H
  obtain ⟨t139, A40, H⟩ := H
  replace H : ((crc_Frame.f k l0).bind fun bt140 => (if bt140.2 = 0 then (tidemilllaw02_CrcTurned.j0 k l0 a1 a2 t139 bt140.1 (decide ((bt140.1.length : Int) ≤ (wrap64 ((l0.length : Int) + 4))))) else (tidemilllaw02_CrcTurned.j0 k l0 a1 a2 t139 bt140.1 true))) = some r := H
  have A4 := Aside0.mk A40
  clear A40
  replace H := Option.bind_eq_some_iff.mp H
  obtain ⟨⟨t140, t141⟩, A50, H⟩ := H
  replace H : (if t141 = 0 then (tidemilllaw02_CrcTurned.j0 k l0 a1 a2 t139 t140 (decide ((t140.length : Int) ≤ (wrap64 ((l0.length : Int) + 4))))) else (tidemilllaw02_CrcTurned.j0 k l0 a1 a2 t139 t140 true)) = some r := H
  have A5 := Aside0.mk A50
  clear A50
  have HC6 := Aside0.mk H
  clear H
  go_enter Try.func4, Try.ntmps4
  go_upto_region 3 with (first | ((with_reducible refine gate_callee (f := 9) rfl ?_); refine goesL_ (some 17) rfl rfl Try.func9 (by kernel_rfl) rfl #[] rfl (by (try simp only [List.map_toArray, List.map_cons, List.map_nil]); first | done | rfl | (simp only [List.length_drop, List.length_take]; rfl)) ?_; (with_reducible refine (tidemilllaw02_shown.calls  t139 _ A4.out).mono ?_); rintro e w7 ⟨rfl, hb⟩; refine ⟨_, rfl, ?_⟩; have n0_ := Aside0.mk (below_step (by repeat (first | (with_reducible first | exact HB.out | apply below_alloc | apply pw_below_drewN | apply below_drew1) | exact HB.out)) hb); clear HB; have HB := n0_; clear n0_; (try clear hb); (try clear hb2); (try clear hk); (try clear hi)) | ((with_reducible refine gate_callee (f := 10) rfl ?_); refine goesL_ (some 20) rfl rfl Try.func10 (by kernel_rfl) rfl #[.slice A0 l0.length c0] rfl (by (try simp only [List.map_toArray, List.map_cons, List.map_nil]); first | done | rfl | (simp only [List.length_drop, List.length_take]; rfl)) ?_; (with_reducible refine (crc_Frame.calls k _ _ l0 t140 t141 _ ?side1 ?side2 A5.out).mono ?_); (case side1 => repeat (first | exact (Kd.C_below HR0.out HB.out) | (with_reducible refine Kd.C_alloc ?_ _) | (with_reducible refine Kd.C_drewN ?_ _) | (with_reducible refine Kd.C_drew ?_))); (case side2 => exact HC0.out); rintro e w8 ⟨v142, rfl, ho0, hb⟩; refine ⟨_, rfl, ?_⟩; have n0_ := Aside0.mk (Kd.R_lower ho0 (below_size (by repeat (first | (with_reducible first | exact HB.out | apply below_alloc | apply pw_below_drewN | apply below_drew1) | exact HB.out)))); have n1_ := Aside0.mk (below_step (by repeat (first | (with_reducible first | exact HB.out | apply below_alloc | apply pw_below_drewN | apply below_drew1) | exact HB.out)) hb); clear HB; have HO143 := n0_; have HB := n1_; clear n0_ n1_; (try clear hb); (try clear hb2); (try clear hk); (try clear hi); (try clear ho0)))
  (try simp only [Act.put, List.setIfInBounds_toArray, List.set_cons_zero, List.set_cons_succ])
  go_cut [32] (fun v32 wc => ∃ (kq : Nat) (x32_5 : Bool), v32 = .bool x32_5 ∧ Aside0 (tidemilllaw02_CrcTurned.j0 kq l0 a1 a2 t139 t140 x32_5 = some r) ∧ Aside0 (kq ≤ k) ∧ Aside0 (Kd.R (Kd.int .u8) 5 wc w.heap.size (fun _ => True) v142 t140) ∧ Aside0 (Below w.heap.size w wc))
  case first =>
    have H := HC6.out
    clear HC6
    by_cases c9 : t141 = 0
    · rw [if_pos c9] at H
      have c9b0 : (t141 == 0) = true := beq_iff_eq.mpr c9
      (try (have c9b0xhl8_2 := c9b0; rw [hl8_2] at c9b0xhl8_2))
      have c9b1 : (t141 != 0) = false := bne_eq_false_iff_eq.mpr c9
      (try (have c9b1xhl8_2 := c9b1; rw [hl8_2] at c9b1xhl8_2))
      clear c9
      (first | rw [c9b0] | (simp only [i64_w, i32_w]; rw [c9b0]) | skip)
      have H' := Aside0.mk H
      clear H
      obtain ⟨Ao10, co10, eo10⟩ := Kd.R_slice HO143.out
      subst eo10
      go_wp2
      go_meet
      case rel => exact ⟨_, (decide ((t140.length : Int) ≤ (wrap64 ((l0.length : Int) + 4)))), (by first | rfl | (simp; done) | (simp [*]; done)), H', ⟨by first | omega | exact Nat.le_refl _⟩, ⟨by (with_reducible repeat (first | apply Kd.R_alloc | apply Kd.R_drewN | apply Kd.R_drew)); exact HO143.out⟩, ⟨by repeat (first | (with_reducible first | exact HB.out | apply below_alloc | apply pw_below_drewN | apply below_drew1) | exact HB.out)⟩⟩
    · rw [if_neg c9] at H
      have c9b0 : (t141 == 0) = false := beq_eq_false_iff_ne.mpr c9
      (try (have c9b0xhl8_2 := c9b0; rw [hl8_2] at c9b0xhl8_2))
      have c9b1 : (t141 != 0) = true := bne_iff_ne.mpr c9
      (try (have c9b1xhl8_2 := c9b1; rw [hl8_2] at c9b1xhl8_2))
      (first | rw [c9b0] | (simp only [i64_w, i32_w]; rw [c9b0]) | skip)
      have H' := Aside0.mk H
      clear H
      go_wp2
      go_meet
      case rel => exact ⟨_, (true), (by first | rfl | (simp; done) | (simp [*]; done)), H', ⟨by first | omega | exact Nat.le_refl _⟩, ⟨by (with_reducible repeat (first | apply Kd.R_alloc | apply Kd.R_drewN | apply Kd.R_drew)); exact HO143.out⟩, ⟨by repeat (first | (with_reducible first | exact HB.out | apply below_alloc | apply pw_below_drewN | apply below_drew1) | exact HB.out)⟩⟩
  case rest =>
    clear HC6
    try clear c1
    try clear p2
    try clear c4
    try clear p6
    try clear c9
    try clear c9b0
    try clear c9b1
    try clear c10
    obtain ⟨kq, x32_5, rfl, HA, HJ5, HO_8, HB⟩ := hcut
    cases kq with
    | zero => exact absurd HA.out (by simp [tidemilllaw02_CrcTurned.j0])
    | succ kj5 =>
      have H := HA.out
      clear HA
      simp only [tidemilllaw02_CrcTurned.j0] at H
      by_cases c11 : x32_5 = true
      · subst c11
        have H1 : (if t139 = true then (some (decide ((l0.length : Int) > 4096))) else (some false)) = some r := by rw [if_pos rfl] at H; exact H
        clear H
        have H := H1
        clear H1
        by_cases c12 : t139 = true
        · subst c12
          have H1 : (some (decide ((l0.length : Int) > 4096))) = some r := by rw [if_pos rfl] at H; exact H
          clear H
          have H := H1
          clear H1
          obtain rfl := Option.some.inj H
          go_wp2
          go_ret
          exact ⟨by first | rfl | (simp [errW_none, errW_some] <;> rfl) | (simp [*, errW_none, errW_some] <;> rfl), by repeat (first | (with_reducible first | exact HB.out | apply below_alloc | apply pw_below_drewN | apply below_drew1) | exact HB.out)⟩
        · replace c12 := Bool.eq_false_iff.mpr c12
          subst c12
          have H1 : (some false) = some r := by rw [if_neg (show ¬ (false = true) by decide)] at H; exact H
          clear H
          have H := H1
          clear H1
          obtain rfl := Option.some.inj H
          go_wp2
          go_ret
          exact ⟨by first | rfl | (simp [errW_none, errW_some] <;> rfl) | (simp [*, errW_none, errW_some] <;> rfl), by repeat (first | (with_reducible first | exact HB.out | apply below_alloc | apply pw_below_drewN | apply below_drew1) | exact HB.out)⟩
      · replace c11 := Bool.eq_false_iff.mpr c11
        subst c11
        have H1 : (tidemilllaw02_CrcTurned.l0 kj5 l0 a1 a2 t139 t140 (wrap64 ((wrap64 ((t140.length : Int) - (l0.length : Int))) - 4)) false 0) = some r := by rw [if_neg (show ¬ (false = true) by decide)] at H; exact H
        clear H
        have H := H1
        clear H1
        have H' := Aside0.mk H
        clear H
        obtain ⟨Ao13, co13, eo13⟩ := Kd.R_slice HO_8.out
        subst eo13
        go_wp2
        go_loopg [11, 12] kj5 (fun kq v11 v12 w' => ∃ (x8_2 : List Int) (x11_2 : Bool) (x12_2 : Int), v11 = .bool x11_2 ∧ v12 = .int .i64 x12_2 ∧ Aside0 (tidemilllaw02_CrcTurned.l0 kq l0 a1 a2 t139 x8_2 (wrap64 ((wrap64 ((t140.length : Int) - (l0.length : Int))) - 4)) x11_2 x12_2 = some r) ∧ Aside0 (kq ≤ kj5) ∧ Aside0 (Kd.R (Kd.int .u8) 5 w' w.heap.size (fun _ => True) (.slice Ao13 t140.length co13) x8_2) ∧ Aside0 (Below w.heap.size w w'))
        case atStart => exact ⟨(t140), (false), (0), (by first | rfl | (simp; done) | (simp [*]; done)), (by first | rfl | (simp; done) | (simp [*]; done)), H', ⟨Nat.le_refl _⟩, ⟨by (with_reducible repeat (first | apply Kd.R_alloc | apply Kd.R_drewN | apply Kd.R_drew)); exact HO_8.out⟩, ⟨by repeat (first | (with_reducible first | exact HB.out | apply below_alloc | apply pw_below_drewN | apply below_drew1) | exact HB.out)⟩⟩
        case round =>
          clear H'
          try clear c1
          try clear p2
          try clear c4
          try clear p6
          try clear c9
          try clear c9b0
          try clear c9b1
          try clear c10
          try clear c11
          try clear c12
          try clear p2
          try clear p6
          obtain ⟨x8_2, x11_2, x12_2, rfl, rfl, HA, HK2, HO_8, HB⟩ := hrel
          have hl8_2 := (Kd.R_reads' HO_8.out).1
          rw [hl8_2] at HO_8
          (try simp only [hl8_2])
          cases gk with
          | zero => exact absurd HA.out (by simp [tidemilllaw02_CrcTurned.l0])
          | succ k2 =>
            have H := HA.out
            clear HA
            simp only [tidemilllaw02_CrcTurned.l0] at H
            by_cases c14 : x12_2 < 32
            · rw [if_pos c14] at H
              have c14b0 : decide (x12_2 < 32) = true := decide_eq_true c14
              (try (have c14b0xhl8_2 := c14b0; rw [hl8_2] at c14b0xhl8_2))
              clear c14
              by_cases c15 : 0 ≤ x12_2
              · rw [if_pos c15] at H
                have c15b0 := eq_true c15
                (try (have c15b0xhl8_2 := c15b0; rw [hl8_2] at c15b0xhl8_2))
                have c15b1 : decide (0 ≤ x12_2) = true := decide_eq_true c15
                (try (have c15b1xhl8_2 := c15b1; rw [hl8_2] at c15b1xhl8_2))
                clear c15
                obtain ⟨ji16, hji16⟩ : ∃ j_ : Int, (shr .u32 a2 x12_2) = j_ := ⟨_, rfl⟩
                (try (have hji16xhl8_2 := hji16; rw [hl8_2] at hji16xhl8_2))
                replace H : (if (Go.bits .and .u32 (ji16) 1) = 1 then (if (wrap64 ((wrap64 ((wrap64 ((t140.length : Int) - (l0.length : Int))) - 4)) + (wrap64 (Int.tdiv (wrap64 ((wrap64 (a1)) + x12_2)) 8)))) < (x8_2.length : Int) then (if 0 ≤ (wrap64 ((wrap64 ((wrap64 ((t140.length : Int) - (l0.length : Int))) - 4)) + (wrap64 (Int.tdiv (wrap64 ((wrap64 (a1)) + x12_2)) 8)))) then (if 0 ≤ (Int.tmod (wrap64 ((wrap64 (a1)) + x12_2)) 8) then (tidemilllaw02_CrcTurned.l0 k2 l0 a1 a2 t139 (x8_2.set ((wrap64 ((wrap64 ((wrap64 ((t140.length : Int) - (l0.length : Int))) - 4)) + (wrap64 (Int.tdiv (wrap64 ((wrap64 (a1)) + x12_2)) 8)))) : Int).toNat (Go.bits .xor .u8 (rd x8_2 (wrap64 ((wrap64 ((wrap64 ((t140.length : Int) - (l0.length : Int))) - 4)) + (wrap64 (Int.tdiv (wrap64 ((wrap64 (a1)) + x12_2)) 8))))) (shl .u8 1 (Int.tmod (wrap64 ((wrap64 (a1)) + x12_2)) 8)))) (wrap64 ((wrap64 ((t140.length : Int) - (l0.length : Int))) - 4)) true (wrap64 (x12_2 + 1))) else (none)) else (none)) else (tidemilllaw02_CrcTurned.l0 k2 l0 a1 a2 t139 x8_2 (wrap64 ((wrap64 ((t140.length : Int) - (l0.length : Int))) - 4)) x11_2 (wrap64 (x12_2 + 1)))) else (tidemilllaw02_CrcTurned.l0 k2 l0 a1 a2 t139 x8_2 (wrap64 ((wrap64 ((t140.length : Int) - (l0.length : Int))) - 4)) x11_2 (wrap64 (x12_2 + 1)))) = some r := by first | (rw [hji16] at H; exact H) | (simp only [hji16] at H ⊢; exact H)
                have hji16_ : (a2 / 2 ^ min x12_2.toNat 32) = ji16 := hji16
                have hji16z : x12_2 ≤ 32 → (a2 / 2 ^ x12_2.toNat) = ji16 := shr_small hji16
                by_cases c17 : (Go.bits .and .u32 (ji16) 1) = 1
                · rw [if_pos c17] at H
                  have c17b0 : ((Go.bits .and .u32 (ji16) 1) == 1) = true := beq_iff_eq.mpr c17
                  (try (have c17b0xhl8_2 := c17b0; rw [hl8_2] at c17b0xhl8_2))
                  have c17b1 : ((Go.bits .and .u32 (ji16) 1) != 1) = false := bne_eq_false_iff_eq.mpr c17
                  (try (have c17b1xhl8_2 := c17b1; rw [hl8_2] at c17b1xhl8_2))
                  clear c17
                  by_cases c18 : (wrap64 ((wrap64 ((wrap64 ((t140.length : Int) - (l0.length : Int))) - 4)) + (wrap64 (Int.tdiv (wrap64 ((wrap64 (a1)) + x12_2)) 8)))) < (x8_2.length : Int)
                  · rw [if_pos c18] at H
                    have c18b0 : decide ((wrap64 ((wrap64 ((wrap64 ((t140.length : Int) - (l0.length : Int))) - 4)) + (wrap64 (Int.tdiv (wrap64 ((wrap64 (a1)) + x12_2)) 8)))) < (x8_2.length : Int)) = true := decide_eq_true c18
                    (try (have c18b0xhl8_2 := c18b0; rw [hl8_2] at c18b0xhl8_2))
                    clear c18
                    obtain ⟨ji19, hji19⟩ : ∃ j_ : Int, (wrap64 ((wrap64 ((wrap64 ((t140.length : Int) - (l0.length : Int))) - 4)) + (wrap64 (Int.tdiv (wrap64 ((wrap64 (a1)) + x12_2)) 8)))) = j_ := ⟨_, rfl⟩
                    (try (have hji16xhji19 := hji16; rw [hji19] at hji16xhji19))
                    (try (have hji16wxhji19 := hji16w; rw [hji19] at hji16wxhji19))
                    (try (have hji19xhl8_2 := hji19; rw [hl8_2] at hji19xhl8_2))
                    replace H : (if 0 ≤ (ji19) then (if 0 ≤ (Int.tmod (wrap64 ((wrap64 (a1)) + x12_2)) 8) then (tidemilllaw02_CrcTurned.l0 k2 l0 a1 a2 t139 (x8_2.set ((ji19) : Int).toNat (Go.bits .xor .u8 (rd x8_2 (ji19)) (shl .u8 1 (Int.tmod (wrap64 ((wrap64 (a1)) + x12_2)) 8)))) (wrap64 ((wrap64 ((t140.length : Int) - (l0.length : Int))) - 4)) true (wrap64 (x12_2 + 1))) else (none)) else (none)) = some r := by first | (rw [hji19] at H; exact H) | (simp only [hji19] at H ⊢; exact H)
                    (try rw [hji19] at c18b0)
                    have hji19w : (IntKind.i64.wrap ((wrap64 ((wrap64 ((t140.length : Int) - (l0.length : Int))) - 4)) + (wrap64 (Int.tdiv (wrap64 ((wrap64 (a1)) + x12_2)) 8)))) = ji19 := (i64_w _).trans hji19
                    (try (have hji19wxhl8_2 := hji19w; rw [hl8_2] at hji19wxhl8_2))
                    by_cases c20 : 0 ≤ (ji19)
                    · rw [if_pos c20] at H
                      have c20b0 : decide (0 ≤ (ji19)) = true := decide_eq_true c20
                      (try (have c20b0xhl8_2 := c20b0; rw [hl8_2] at c20b0xhl8_2))
                      clear c20
                      obtain ⟨ji21, hji21⟩ : ∃ j_ : Int, (Int.tmod (wrap64 ((wrap64 (a1)) + x12_2)) 8) = j_ := ⟨_, rfl⟩
                      (try (have hji16xhji21 := hji16; rw [hji21] at hji16xhji21))
                      (try (have hji16wxhji21 := hji16w; rw [hji21] at hji16wxhji21))
                      (try (have hji19xhji21 := hji19; rw [hji21] at hji19xhji21))
                      (try (have hji19wxhji21 := hji19w; rw [hji21] at hji19wxhji21))
                      (try (have hji21xhl8_2 := hji21; rw [hl8_2] at hji21xhl8_2))
                      replace H : (if 0 ≤ (ji21) then (tidemilllaw02_CrcTurned.l0 k2 l0 a1 a2 t139 (x8_2.set ((ji19) : Int).toNat (Go.bits .xor .u8 (rd x8_2 (ji19)) (shl .u8 1 (ji21)))) (wrap64 ((wrap64 ((t140.length : Int) - (l0.length : Int))) - 4)) true (wrap64 (x12_2 + 1))) else (none)) = some r := by first | (rw [hji21] at H; exact H) | (simp only [hji21] at H ⊢; exact H)
                      by_cases c22 : 0 ≤ (ji21)
                      · rw [if_pos c22] at H
                        have c22b0 := eq_true c22
                        (try (have c22b0xhl8_2 := c22b0; rw [hl8_2] at c22b0xhl8_2))
                        have c22b1 : decide (0 ≤ (ji21)) = true := decide_eq_true c22
                        (try (have c22b1xhl8_2 := c22b1; rw [hl8_2] at c22b1xhl8_2))
                        clear c22
                        obtain ⟨ji23, hji23⟩ : ∃ j_ : Int, (shl .u8 1 (ji21)) = j_ := ⟨_, rfl⟩
                        (try (have hji16xhji23 := hji16; rw [hji23] at hji16xhji23))
                        (try (have hji16wxhji23 := hji16w; rw [hji23] at hji16wxhji23))
                        (try (have hji19xhji23 := hji19; rw [hji23] at hji19xhji23))
                        (try (have hji19wxhji23 := hji19w; rw [hji23] at hji19wxhji23))
                        (try (have hji21xhji23 := hji21; rw [hji23] at hji21xhji23))
                        (try (have hji21wxhji23 := hji21w; rw [hji23] at hji21wxhji23))
                        (try (have hji23xhl8_2 := hji23; rw [hl8_2] at hji23xhl8_2))
                        replace H : (tidemilllaw02_CrcTurned.l0 k2 l0 a1 a2 t139 (x8_2.set ((ji19) : Int).toNat (Go.bits .xor .u8 (rd x8_2 (ji19)) (ji23))) (wrap64 ((wrap64 ((t140.length : Int) - (l0.length : Int))) - 4)) true (wrap64 (x12_2 + 1))) = some r := by first | (rw [hji23] at H; exact H) | (simp only [hji23] at H ⊢; exact H)
                        have hji23_ : (IntKind.u8.wrap (1 * 2 ^ min (ji21).toNat 8)) = ji23 := hji23
                        have hji23z : (ji21) ≤ 8 → (IntKind.u8.wrap (1 * 2 ^ (ji21).toNat)) = ji23 := shl_small hji23
                        have hji23u : (IntKind.u8.wrap (2 ^ min (ji21).toNat 8)) = ji23 := by have h_ := hji23_; rw [Int.one_mul] at h_; exact h_
                        have hji23v : (ji21) ≤ 8 → (IntKind.u8.wrap (2 ^ (ji21).toNat)) = ji23 := fun hle_ => by have h_ := hji23z hle_; rw [Int.one_mul] at h_; exact h_
                        obtain ⟨y145, hy145⟩ : ∃ y_ : List Int, y_ = (x8_2.set ((ji19) : Int).toNat (Go.bits .xor .u8 (rd x8_2 (ji19)) (ji23))) := ⟨_, rfl⟩
                        replace H : (tidemilllaw02_CrcTurned.l0 k2 l0 a1 a2 t139 y145 (wrap64 ((wrap64 ((t140.length : Int) - (l0.length : Int))) - 4)) true (wrap64 (x12_2 + 1))) = some r := by first | (rw [hy145]; with_reducible exact H) | (have H2_ := (Option.bind_some _ _).symm.trans H; rw [hy145]; with_reducible exact H2_) | (have H2_ := (Option.bind_some _ _).symm.trans H; with_reducible exact H2_) | with_reducible exact H | (rw [hy145]; exact H) | exact H
                        have Ny145 := Aside0.mk hy145
                        clear hy145
                        have H' := Aside0.mk H
                        clear H
                        try go_wp2
                        have n0_ := Aside0.mk (Kd.R_drew HO_8.out)
                        have n1_ := Aside0.mk (below_drew1 HB.out)
                        clear HO_8
                        clear HB
                        have HO_8 := n0_
                        have HB := n1_
                        clear n0_ n1_
                        have p144 : 0 ≤ ((ji19) : Int) := of_decide_eq_true (by first | (with_reducible assumption) | assumption)
                        have q144 : (ji19) < (x8_2.length : Int) := of_decide_eq_true (by first | (with_reducible assumption) | assumption)
                        obtain ⟨ad144, e144, hx144_0⟩ := Kd.at_int (Kd.R_reads' HO_8.out).2.2 (ji19) p144 q144
                        cases e144
                        replace p144 := eq_true p144
                        replace q144 := eq_true q144
                        have p24 : 0 ≤ ((ji19) : Int) := of_decide_eq_true (by first | (with_reducible assumption) | assumption)
                        have q24 : ((ji19) : Int) < ((x8_2.length : Int) : Int) := of_decide_eq_true (by first | (with_reducible assumption) | assumption)
                        obtain ⟨go24, co24, eo24, gb24, gl24, cl24, HG24⟩ := Kd.R_form HO_8.out (by omega)
                        (first | cases eo24 | (injection eo24 with ea_ en_ ec_; (first | subst ea_ | (injection ea_ with ea_; subst ea_)); subst ec_; clear en_))
                        have GB24 := Aside0.mk gb24
                        have GG24 := Aside0.mk HG24
                        clear gb24 gl24 HG24
                        (first | simp only [add_plain] at hx144_0 | skip)
                        obtain ⟨hx24_0, hf24_0⟩ := Kd.R_celln 0 HO_8.out ((ji19) : Int) p24 q24
                        replace p24 := eq_true p24
                        replace q24 := eq_true q24
                        have HP26 := Kd.R_putn HO_8.out ((ji19) : Int) (Go.bits .xor .u8 (rd x8_2 (ji19)) (ji23))
                        rw [← Ny145.out] at HP26
                        have HQ26 := Aside0.mk HP26
                        clear HP26
                        refine start_ (n := 18) (S := fun w' => w'.cell? ⟨go24, ((ji19)).toNat, none⟩ = some (.int .u8 (rd x8_2 (ji19)))) (ds := [17]) #[false, false, false, false, false, false, false, false, false, false, false, false, false, false, false, false, false, false] (by kernel_rfl) rfl rfl (hx144_0) (fun hHeld => ?_); refine with_tabW tidemilllaw02_CrcTurned.tab12 tidemilllaw02_CrcTurned.bits12 (fun HT_ HW_ => ?_)
                        generalize wr.drew = w25 at HO_8 HB GG24 HQ26 hf24_0 hx144_0 hx24_0 hHeld ⊢
                        refine pure_ (i := 0) (N := some 67) (v := ?_) (a' := ?_) #[true, false, false, false, false, false, false, false, false, false, false, false, false, false, false, false, false, false] rfl rfl (any_of HT_.out (by kernel_rfl)) (fun _ _ _ h => h) (Or.inl ⟨by rfl, ?_⟩) ?_ ?_
                        rotate_left
                        · intro w'
                          go_simp
                          with_reducible rfl
                        rotate_left
                        · simp only [Act.put, List.setIfInBounds_toArray, List.set_cons_zero, List.set_cons_succ, i64_w, i32_w]
                          rfl
                        refine pure_ (i := 1) (N := some 68) (v := ?_) (a' := ?_) #[true, true, false, false, false, false, false, false, false, false, false, false, false, false, false, false, false, false] rfl rfl (any_of HT_.out (by kernel_rfl)) (fun _ _ _ h => h) (Or.inl ⟨by rfl, ?_⟩) ?_ ?_
                        rotate_left
                        · intro w'
                          go_simp
                          with_reducible rfl
                        rotate_left
                        · simp only [Act.put, List.setIfInBounds_toArray, List.set_cons_zero, List.set_cons_succ, i64_w, i32_w]
                          rfl
                        refine pure_ (i := 2) (N := some 69) (v := ?_) (a' := ?_) #[true, true, true, false, false, false, false, false, false, false, false, false, false, false, false, false, false, false] rfl rfl (any_of HT_.out (by kernel_rfl)) (fun _ _ _ h => h) (Or.inl ⟨by rfl, ?_⟩) ?_ ?_
                        rotate_left
                        · intro w'
                          go_simp
                          with_reducible rfl
                        rotate_left
                        · simp only [Act.put, List.setIfInBounds_toArray, List.set_cons_zero, List.set_cons_succ, i64_w, i32_w]
                          rfl
                        refine pure_ (i := 3) (N := some 70) (v := ?_) (a' := ?_) #[true, true, true, true, false, false, false, false, false, false, false, false, false, false, false, false, false, false] rfl rfl (any_of HT_.out (by kernel_rfl)) (fun _ _ _ h => h) (Or.inl ⟨by rfl, ?_⟩) ?_ ?_
                        rotate_left
                        · intro w'
                          go_simp
                          with_reducible rfl
                        rotate_left
                        · simp only [Act.put, List.setIfInBounds_toArray, List.set_cons_zero, List.set_cons_succ, i64_w, i32_w]
                          rfl
                        refine pure_ (i := 4) (N := some 71) (v := ?_) (a' := ?_) #[true, true, true, true, true, false, false, false, false, false, false, false, false, false, false, false, false, false] rfl rfl (any_of HT_.out (by kernel_rfl)) (fun _ _ _ h => h) (Or.inl ⟨by rfl, ?_⟩) ?_ ?_
                        rotate_left
                        · intro w'
                          go_simp
                          with_reducible rfl
                        rotate_left
                        · simp only [Act.put, List.setIfInBounds_toArray, List.set_cons_zero, List.set_cons_succ, i64_w, i32_w]
                          rfl
                        refine pure_ (i := 5) (N := some 72) (v := ?_) (a' := ?_) #[true, true, true, true, true, true, false, false, false, false, false, false, false, false, false, false, false, false] rfl rfl (any_of HT_.out (by kernel_rfl)) (fun _ _ _ h => h) (Or.inl ⟨by rfl, ?_⟩) ?_ ?_
                        rotate_left
                        · intro w'
                          go_simp
                          with_reducible rfl
                        rotate_left
                        · simp only [Act.put, List.setIfInBounds_toArray, List.set_cons_zero, List.set_cons_succ, i64_w, i32_w]
                          rfl
                        refine pure_ (i := 6) (N := some 73) (v := ?_) (a' := ?_) #[true, true, true, true, true, true, true, false, false, false, false, false, false, false, false, false, false, false] rfl rfl (any_of HT_.out (by kernel_rfl)) (fun _ _ _ h => h) (Or.inl ⟨by rfl, ?_⟩) ?_ ?_
                        rotate_left
                        · intro w'
                          go_simp
                          with_reducible rfl
                        rotate_left
                        · simp only [Act.put, List.setIfInBounds_toArray, List.set_cons_zero, List.set_cons_succ, i64_w, i32_w]
                          rfl
                        refine pure_ (i := 7) (N := some 74) (v := ?_) (a' := ?_) #[true, true, true, true, true, true, true, true, false, false, false, false, false, false, false, false, false, false] rfl rfl (any_of HT_.out (by kernel_rfl)) (fun _ _ _ h => h) (Or.inl ⟨by rfl, ?_⟩) ?_ ?_
                        rotate_left
                        · intro w'
                          go_simp
                          with_reducible rfl
                        rotate_left
                        · simp only [Act.put, List.setIfInBounds_toArray, List.set_cons_zero, List.set_cons_succ, i64_w, i32_w]
                          rfl
                        refine pure_ (i := 8) (N := some 75) (v := ?_) (a' := ?_) #[true, true, true, true, true, true, true, true, true, false, false, false, false, false, false, false, false, false] rfl rfl (any_of HT_.out (by kernel_rfl)) (fun _ _ _ h => h) (Or.inl ⟨by rfl, ?_⟩) ?_ ?_
                        rotate_left
                        · intro w'
                          go_simp
                          with_reducible rfl
                        rotate_left
                        · simp only [Act.put, List.setIfInBounds_toArray, List.set_cons_zero, List.set_cons_succ, i64_w, i32_w]
                          rfl
                        refine pure_ (i := 9) (N := some 76) (v := ?_) (a' := ?_) #[true, true, true, true, true, true, true, true, true, true, false, false, false, false, false, false, false, false] rfl rfl (any_of HT_.out (by kernel_rfl)) (fun _ _ _ h => h) (Or.inl ⟨by rfl, ?_⟩) ?_ ?_
                        rotate_left
                        · intro w'
                          go_simp
                          with_reducible rfl
                        rotate_left
                        · simp only [Act.put, List.setIfInBounds_toArray, List.set_cons_zero, List.set_cons_succ, i64_w, i32_w]
                          rfl
                        refine pure_ (i := 10) (N := some 77) (v := ?_) (a' := ?_) #[true, true, true, true, true, true, true, true, true, true, true, false, false, false, false, false, false, false] rfl rfl (any_of HT_.out (by kernel_rfl)) (fun _ _ _ h => h) (Or.inl ⟨by rfl, ?_⟩) ?_ ?_
                        rotate_left
                        · intro w'
                          go_simp
                          with_reducible rfl
                        rotate_left
                        · simp only [Act.put, List.setIfInBounds_toArray, List.set_cons_zero, List.set_cons_succ, i64_w, i32_w]
                          rfl
                        refine pure_ (i := 12) (N := some 79) (v := ?_) (a' := ?_) #[true, true, true, true, true, true, true, true, true, true, true, false, true, false, false, false, false, false] rfl rfl (any_of HT_.out (by kernel_rfl)) (fun _ _ _ h => h) (Or.inl ⟨by rfl, ?_⟩) ?_ ?_
                        rotate_left
                        · intro w'
                          go_simp
                          with_reducible rfl
                        rotate_left
                        · simp only [Act.put, List.setIfInBounds_toArray, List.set_cons_zero, List.set_cons_succ, i64_w, i32_w]
                          rfl
                        refine pure_ (i := 13) (N := some 80) (v := ?_) (a' := ?_) #[true, true, true, true, true, true, true, true, true, true, true, false, true, true, false, false, false, false] rfl rfl (any_of HT_.out (by kernel_rfl)) (fun _ _ _ h => h) (Or.inl ⟨by rfl, ?_⟩) ?_ ?_
                        rotate_left
                        · intro w'
                          go_simp
                          with_reducible rfl
                        rotate_left
                        · simp only [Act.put, List.setIfInBounds_toArray, List.set_cons_zero, List.set_cons_succ, i64_w, i32_w]
                          rfl
                        refine pure_ (i := 14) (N := some 81) (v := ?_) (a' := ?_) #[true, true, true, true, true, true, true, true, true, true, true, false, true, true, true, false, false, false] rfl rfl (any_of HT_.out (by kernel_rfl)) (fun _ _ _ h => h) (Or.inl ⟨by rfl, ?_⟩) ?_ ?_
                        rotate_left
                        · intro w'
                          go_simp
                          with_reducible rfl
                        rotate_left
                        · simp only [Act.put, List.setIfInBounds_toArray, List.set_cons_zero, List.set_cons_succ, i64_w, i32_w]
                          rfl
                        refine take_ (i := 11) (N := some 78) (v := ?_) (a' := ?_) #[true, true, true, true, true, true, true, true, true, true, true, true, true, true, true, false, false, false] rfl rfl (take_ofW HT_.out HW_.out (by kernel_rfl)) (fun _ _ _ h => h) (Or.inl ⟨by rfl, ?_⟩) hHeld ?_ ?_
                        rotate_left
                        · intro w' s0
                          go_simp
                          with_reducible rfl
                        rotate_left
                        · simp only [Act.put, List.setIfInBounds_toArray, List.set_cons_zero, List.set_cons_succ, i64_w, i32_w]
                          rfl
                        refine pure_ (i := 15) (N := some 82) (v := ?_) (a' := ?_) #[true, true, true, true, true, true, true, true, true, true, true, true, true, true, true, true, false, false] rfl rfl (any_of HT_.out (by kernel_rfl)) (fun _ _ _ h => h) (Or.inl ⟨by rfl, ?_⟩) ?_ ?_
                        rotate_left
                        · intro w'
                          go_simp
                          with_reducible rfl
                        rotate_left
                        · simp only [Act.put, List.setIfInBounds_toArray, List.set_cons_zero, List.set_cons_succ, i64_w, i32_w]
                          rfl
                        refine pure_ (i := 16) (N := some 83) (v := ?_) (a' := ?_) #[true, true, true, true, true, true, true, true, true, true, true, true, true, true, true, true, true, false] rfl rfl (any_of HT_.out (by kernel_rfl)) (fun _ _ _ h => h) (Or.inl ⟨by rfl, ?_⟩) ?_ ?_
                        rotate_left
                        · intro w'
                          go_simp
                          with_reducible rfl
                        rotate_left
                        · simp only [Act.put, List.setIfInBounds_toArray, List.set_cons_zero, List.set_cons_succ, i64_w, i32_w]
                          rfl
                        refine last_ (i := 17) (N := none) #[true, true, true, true, true, true, true, true, true, true, true, true, true, true, true, true, true, true] rfl rfl (one_of HT_.out (by kernel_rfl)) (by decide) (fun K hK => ?_)
                        refine skip_ (w1 := ?_) (by rfl) rfl ?_ ?_
                        rotate_left
                        · go_simp
                          rfl
                        refine hK.out _ _ ?_
                        clear hK K
                        refine done_ (done_of HT_.out (by kernel_rfl)) ?_
                        try go_wp2
                        (try simp only [← hl8_2])
                        go_roundg k2
                        case measure => have := HJ5.out; have := HK2.out; omega
                        case rel => exact ⟨(y145), (true), (wrap64 (x12_2 + 1)), (by first | rfl | (simp; done) | (simp [*]; done)), (by first | rfl | (simp; done) | (simp [*]; done)), H', ⟨by have := HJ5.out; have := HK2.out; omega⟩, ⟨by (try simp only [hl8_2]); (with_reducible repeat (first | apply Kd.R_alloc | apply Kd.R_drewN | apply Kd.R_drew)); exact HQ26.out⟩, ⟨by repeat (first | (with_reducible first | exact HB.out | apply below_alloc | apply pw_below_drewN | apply below_drew1 | refine below_set ?_ GB24.out) | exact HB.out)⟩⟩
                      · rw [if_neg c22] at H
                        exact absurd H (by simp)
                    · rw [if_neg c20] at H
                      exact absurd H (by simp)
                  · rw [if_neg c18] at H
                    have c18b0 : decide ((wrap64 ((wrap64 ((wrap64 ((t140.length : Int) - (l0.length : Int))) - 4)) + (wrap64 (Int.tdiv (wrap64 ((wrap64 (a1)) + x12_2)) 8)))) < (x8_2.length : Int)) = false := decide_eq_false c18
                    (try (have c18b0xhl8_2 := c18b0; rw [hl8_2] at c18b0xhl8_2))
                    clear c18
                    have H' := Aside0.mk H
                    clear H
                    go_wp2
                    (try simp only [← hl8_2])
                    go_roundg k2
                    case measure => have := HJ5.out; have := HK2.out; omega
                    case rel => exact ⟨(x8_2), (x11_2), (wrap64 (x12_2 + 1)), (by first | rfl | (simp; done) | (simp [*]; done)), (by first | rfl | (simp; done) | (simp [*]; done)), H', ⟨by have := HJ5.out; have := HK2.out; omega⟩, ⟨by (try simp only [hl8_2]); (with_reducible repeat (first | apply Kd.R_alloc | apply Kd.R_drewN | apply Kd.R_drew)); exact HO_8.out⟩, ⟨by repeat (first | (with_reducible first | exact HB.out | apply below_alloc | apply pw_below_drewN | apply below_drew1) | exact HB.out)⟩⟩
                · rw [if_neg c17] at H
                  have c17b0 : ((Go.bits .and .u32 (ji16) 1) == 1) = false := beq_eq_false_iff_ne.mpr c17
                  (try (have c17b0xhl8_2 := c17b0; rw [hl8_2] at c17b0xhl8_2))
                  have c17b1 : ((Go.bits .and .u32 (ji16) 1) != 1) = true := bne_iff_ne.mpr c17
                  (try (have c17b1xhl8_2 := c17b1; rw [hl8_2] at c17b1xhl8_2))
                  have H' := Aside0.mk H
                  clear H
                  go_wp2
                  (try simp only [← hl8_2])
                  go_roundg k2
                  case measure => have := HJ5.out; have := HK2.out; omega
                  case rel => exact ⟨(x8_2), (x11_2), (wrap64 (x12_2 + 1)), (by first | rfl | (simp; done) | (simp [*]; done)), (by first | rfl | (simp; done) | (simp [*]; done)), H', ⟨by have := HJ5.out; have := HK2.out; omega⟩, ⟨by (try simp only [hl8_2]); (with_reducible repeat (first | apply Kd.R_alloc | apply Kd.R_drewN | apply Kd.R_drew)); exact HO_8.out⟩, ⟨by repeat (first | (with_reducible first | exact HB.out | apply below_alloc | apply pw_below_drewN | apply below_drew1) | exact HB.out)⟩⟩
              · rw [if_neg c15] at H
                exact absurd H (by simp)
            · rw [if_neg c14] at H
              have c14b0 : decide (x12_2 < 32) = false := decide_eq_false c14
              (try (have c14b0xhl8_2 := c14b0; rw [hl8_2] at c14b0xhl8_2))
              clear c14
              replace H := Option.bind_eq_some_iff.mp H
              obtain ⟨⟨t146, t147, t148⟩, A270, H⟩ := H
              replace H : (if x11_2 = true then (if t139 = true then (if t148 = 5 then (if (t146.length : Int) = 0 then (some (t147 == 0)) else (some false)) else (some false)) else (some false)) else (if t139 = true then (if t148 = 0 then (some ((strOfNums t146).toList == (strOfNums l0).toList)) else (some false)) else (some false))) = some r := H
              have A27 := Aside0.mk A270
              clear A270
              by_cases c28 : x11_2 = true
              · subst c28
                have H1 : (if t139 = true then (if t148 = 5 then (if (t146.length : Int) = 0 then (some (t147 == 0)) else (some false)) else (some false)) else (some false)) = some r := by rw [if_pos rfl] at H; exact H
                clear H
                have H := H1
                clear H1
                by_cases c29 : t139 = true
                · subst c29
                  have H1 : (if t148 = 5 then (if (t146.length : Int) = 0 then (some (t147 == 0)) else (some false)) else (some false)) = some r := by rw [if_pos rfl] at H; exact H
                  clear H
                  have H := H1
                  clear H1
                  by_cases c30 : t148 = 5
                  · rw [if_pos c30] at H
                    have c30b0 : (t148 == 5) = true := beq_iff_eq.mpr c30
                    (try (have c30b0xhl8_2 := c30b0; rw [hl8_2] at c30b0xhl8_2))
                    have c30b1 : (t148 != 5) = false := bne_eq_false_iff_eq.mpr c30
                    (try (have c30b1xhl8_2 := c30b1; rw [hl8_2] at c30b1xhl8_2))
                    clear c30
                    by_cases c31 : (t146.length : Int) = 0
                    · rw [if_pos c31] at H
                      have c31b0 : ((t146.length : Int) == 0) = true := beq_iff_eq.mpr c31
                      (try (have c31b0xhl8_2 := c31b0; rw [hl8_2] at c31b0xhl8_2))
                      have c31b1 : ((t146.length : Int) != 0) = false := bne_eq_false_iff_eq.mpr c31
                      (try (have c31b1xhl8_2 := c31b1; rw [hl8_2] at c31b1xhl8_2))
                      clear c31
                      obtain rfl := Option.some.inj H
                      go_wp2_with (first | ((with_reducible refine gate_callee (f := 11) rfl ?_); refine goesL_ (some 86) rfl rfl Try.func11 (by kernel_rfl) rfl #[.slice Ao13 x8_2.length co13] rfl (by (try simp only [List.map_toArray, List.map_cons, List.map_nil]); first | done | rfl | (simp only [List.length_drop, List.length_take]; rfl)) ?_; (with_reducible refine (crc_Open.calls _ _ x8_2 t146 t147 t148 _ ?side1 ?side2 A27.out).mono ?_); (case side1 => repeat (first | exact (Kd.R_reads' HO_8.out).2.2 | (with_reducible refine Kd.C_alloc ?_ _) | (with_reducible refine Kd.C_drewN ?_ _) | (with_reducible refine Kd.C_drew ?_))); (case side2 => exact (Kd.R_reads' HO_8.out).2.1); rintro e w32 ⟨v149, rfl, ho0, hb⟩; refine ⟨_, rfl, ?_⟩; have n0_ := Aside0.mk (Kd.R_elder' (by (with_reducible repeat (first | apply Kd.R_alloc | apply Kd.R_drewN | apply Kd.R_drew)); exact HO_8.out) (Kd.R_base ho0) hb); have n1_ := Aside0.mk (Kd.R_lower (Kd.R_new' ho0 (Kd.R_lt (by (with_reducible repeat (first | apply Kd.R_alloc | apply Kd.R_drewN | apply Kd.R_drew)); exact HO_8.out))) (below_size (by repeat (first | (with_reducible first | exact HB.out | apply below_alloc | apply pw_below_drewN | apply below_drew1) | exact HB.out)))); have n2_ := Aside0.mk (below_step (by repeat (first | (with_reducible first | exact HB.out | apply below_alloc | apply pw_below_drewN | apply below_drew1) | exact HB.out)) hb); clear HO_8; clear HB; have HO_8 := n0_; have HO150 := n1_; have HB := n2_; clear n0_ n1_ n2_; (try clear hb); (try clear hb2); (try clear hk); (try clear hi); (try clear ho0); obtain ⟨Ao33, co33, eo33⟩ := Kd.R_slice HO150.out; subst eo33))
                      go_ret
                      exact ⟨by first | rfl | (simp [errW_none, errW_some] <;> rfl) | (simp [*, errW_none, errW_some] <;> rfl), by repeat (first | (with_reducible first | exact HB.out | apply below_alloc | apply pw_below_drewN | apply below_drew1) | exact HB.out)⟩
                    · rw [if_neg c31] at H
                      have c31b0 : ((t146.length : Int) == 0) = false := beq_eq_false_iff_ne.mpr c31
                      (try (have c31b0xhl8_2 := c31b0; rw [hl8_2] at c31b0xhl8_2))
                      have c31b1 : ((t146.length : Int) != 0) = true := bne_iff_ne.mpr c31
                      (try (have c31b1xhl8_2 := c31b1; rw [hl8_2] at c31b1xhl8_2))
                      have c31b2 : ¬ (t146 = []) := fun h_ => c31 (by rw [h_]; rfl)
                      (try (have c31b2xhl8_2 := c31b2; rw [hl8_2] at c31b2xhl8_2))
                      obtain rfl := Option.some.inj H
                      go_wp2_with (first | ((with_reducible refine gate_callee (f := 11) rfl ?_); refine goesL_ (some 86) rfl rfl Try.func11 (by kernel_rfl) rfl #[.slice Ao13 x8_2.length co13] rfl (by (try simp only [List.map_toArray, List.map_cons, List.map_nil]); first | done | rfl | (simp only [List.length_drop, List.length_take]; rfl)) ?_; (with_reducible refine (crc_Open.calls _ _ x8_2 t146 t147 t148 _ ?side1 ?side2 A27.out).mono ?_); (case side1 => repeat (first | exact (Kd.R_reads' HO_8.out).2.2 | (with_reducible refine Kd.C_alloc ?_ _) | (with_reducible refine Kd.C_drewN ?_ _) | (with_reducible refine Kd.C_drew ?_))); (case side2 => exact (Kd.R_reads' HO_8.out).2.1); rintro e w34 ⟨v149, rfl, ho0, hb⟩; refine ⟨_, rfl, ?_⟩; have n0_ := Aside0.mk (Kd.R_elder' (by (with_reducible repeat (first | apply Kd.R_alloc | apply Kd.R_drewN | apply Kd.R_drew)); exact HO_8.out) (Kd.R_base ho0) hb); have n1_ := Aside0.mk (Kd.R_lower (Kd.R_new' ho0 (Kd.R_lt (by (with_reducible repeat (first | apply Kd.R_alloc | apply Kd.R_drewN | apply Kd.R_drew)); exact HO_8.out))) (below_size (by repeat (first | (with_reducible first | exact HB.out | apply below_alloc | apply pw_below_drewN | apply below_drew1) | exact HB.out)))); have n2_ := Aside0.mk (below_step (by repeat (first | (with_reducible first | exact HB.out | apply below_alloc | apply pw_below_drewN | apply below_drew1) | exact HB.out)) hb); clear HO_8; clear HB; have HO_8 := n0_; have HO150 := n1_; have HB := n2_; clear n0_ n1_ n2_; (try clear hb); (try clear hb2); (try clear hk); (try clear hi); (try clear ho0); obtain ⟨Ao35, co35, eo35⟩ := Kd.R_slice HO150.out; subst eo35))
                      go_ret
                      exact ⟨by first | rfl | (simp [errW_none, errW_some] <;> rfl) | (simp [*, errW_none, errW_some] <;> rfl), by repeat (first | (with_reducible first | exact HB.out | apply below_alloc | apply pw_below_drewN | apply below_drew1) | exact HB.out)⟩
                  · rw [if_neg c30] at H
                    have c30b0 : (t148 == 5) = false := beq_eq_false_iff_ne.mpr c30
                    (try (have c30b0xhl8_2 := c30b0; rw [hl8_2] at c30b0xhl8_2))
                    have c30b1 : (t148 != 5) = true := bne_iff_ne.mpr c30
                    (try (have c30b1xhl8_2 := c30b1; rw [hl8_2] at c30b1xhl8_2))
                    obtain rfl := Option.some.inj H
                    go_wp2_with (first | ((with_reducible refine gate_callee (f := 11) rfl ?_); refine goesL_ (some 86) rfl rfl Try.func11 (by kernel_rfl) rfl #[.slice Ao13 x8_2.length co13] rfl (by (try simp only [List.map_toArray, List.map_cons, List.map_nil]); first | done | rfl | (simp only [List.length_drop, List.length_take]; rfl)) ?_; (with_reducible refine (crc_Open.calls _ _ x8_2 t146 t147 t148 _ ?side1 ?side2 A27.out).mono ?_); (case side1 => repeat (first | exact (Kd.R_reads' HO_8.out).2.2 | (with_reducible refine Kd.C_alloc ?_ _) | (with_reducible refine Kd.C_drewN ?_ _) | (with_reducible refine Kd.C_drew ?_))); (case side2 => exact (Kd.R_reads' HO_8.out).2.1); rintro e w36 ⟨v149, rfl, ho0, hb⟩; refine ⟨_, rfl, ?_⟩; have n0_ := Aside0.mk (Kd.R_elder' (by (with_reducible repeat (first | apply Kd.R_alloc | apply Kd.R_drewN | apply Kd.R_drew)); exact HO_8.out) (Kd.R_base ho0) hb); have n1_ := Aside0.mk (Kd.R_lower (Kd.R_new' ho0 (Kd.R_lt (by (with_reducible repeat (first | apply Kd.R_alloc | apply Kd.R_drewN | apply Kd.R_drew)); exact HO_8.out))) (below_size (by repeat (first | (with_reducible first | exact HB.out | apply below_alloc | apply pw_below_drewN | apply below_drew1) | exact HB.out)))); have n2_ := Aside0.mk (below_step (by repeat (first | (with_reducible first | exact HB.out | apply below_alloc | apply pw_below_drewN | apply below_drew1) | exact HB.out)) hb); clear HO_8; clear HB; have HO_8 := n0_; have HO150 := n1_; have HB := n2_; clear n0_ n1_ n2_; (try clear hb); (try clear hb2); (try clear hk); (try clear hi); (try clear ho0)))
                    go_ret
                    exact ⟨by first | rfl | (simp [errW_none, errW_some] <;> rfl) | (simp [*, errW_none, errW_some] <;> rfl), by repeat (first | (with_reducible first | exact HB.out | apply below_alloc | apply pw_below_drewN | apply below_drew1) | exact HB.out)⟩
                · replace c29 := Bool.eq_false_iff.mpr c29
                  subst c29
                  have H1 : (some false) = some r := by rw [if_neg (show ¬ (false = true) by decide)] at H; exact H
                  clear H
                  have H := H1
                  clear H1
                  obtain rfl := Option.some.inj H
                  go_wp2_with (first | ((with_reducible refine gate_callee (f := 11) rfl ?_); refine goesL_ (some 86) rfl rfl Try.func11 (by kernel_rfl) rfl #[.slice Ao13 x8_2.length co13] rfl (by (try simp only [List.map_toArray, List.map_cons, List.map_nil]); first | done | rfl | (simp only [List.length_drop, List.length_take]; rfl)) ?_; (with_reducible refine (crc_Open.calls _ _ x8_2 t146 t147 t148 _ ?side1 ?side2 A27.out).mono ?_); (case side1 => repeat (first | exact (Kd.R_reads' HO_8.out).2.2 | (with_reducible refine Kd.C_alloc ?_ _) | (with_reducible refine Kd.C_drewN ?_ _) | (with_reducible refine Kd.C_drew ?_))); (case side2 => exact (Kd.R_reads' HO_8.out).2.1); rintro e w37 ⟨v149, rfl, ho0, hb⟩; refine ⟨_, rfl, ?_⟩; have n0_ := Aside0.mk (Kd.R_elder' (by (with_reducible repeat (first | apply Kd.R_alloc | apply Kd.R_drewN | apply Kd.R_drew)); exact HO_8.out) (Kd.R_base ho0) hb); have n1_ := Aside0.mk (Kd.R_lower (Kd.R_new' ho0 (Kd.R_lt (by (with_reducible repeat (first | apply Kd.R_alloc | apply Kd.R_drewN | apply Kd.R_drew)); exact HO_8.out))) (below_size (by repeat (first | (with_reducible first | exact HB.out | apply below_alloc | apply pw_below_drewN | apply below_drew1) | exact HB.out)))); have n2_ := Aside0.mk (below_step (by repeat (first | (with_reducible first | exact HB.out | apply below_alloc | apply pw_below_drewN | apply below_drew1) | exact HB.out)) hb); clear HO_8; clear HB; have HO_8 := n0_; have HO150 := n1_; have HB := n2_; clear n0_ n1_ n2_; (try clear hb); (try clear hb2); (try clear hk); (try clear hi); (try clear ho0)))
                  go_ret
                  exact ⟨by first | rfl | (simp [errW_none, errW_some] <;> rfl) | (simp [*, errW_none, errW_some] <;> rfl), by repeat (first | (with_reducible first | exact HB.out | apply below_alloc | apply pw_below_drewN | apply below_drew1) | exact HB.out)⟩
              · replace c28 := Bool.eq_false_iff.mpr c28
                subst c28
                have H1 : (if t139 = true then (if t148 = 0 then (some ((strOfNums t146).toList == (strOfNums l0).toList)) else (some false)) else (some false)) = some r := by rw [if_neg (show ¬ (false = true) by decide)] at H; exact H
                clear H
                have H := H1
                clear H1
                by_cases c38 : t139 = true
                · subst c38
                  have H1 : (if t148 = 0 then (some ((strOfNums t146).toList == (strOfNums l0).toList)) else (some false)) = some r := by rw [if_pos rfl] at H; exact H
                  clear H
                  have H := H1
                  clear H1
                  by_cases c39 : t148 = 0
                  · rw [if_pos c39] at H
                    have c39b0 : (t148 == 0) = true := beq_iff_eq.mpr c39
                    (try (have c39b0xhl8_2 := c39b0; rw [hl8_2] at c39b0xhl8_2))
                    have c39b1 : (t148 != 0) = false := bne_eq_false_iff_eq.mpr c39
                    (try (have c39b1xhl8_2 := c39b1; rw [hl8_2] at c39b1xhl8_2))
                    clear c39
                    obtain rfl := Option.some.inj H
                    go_wp2_with (first | ((with_reducible refine gate_callee (f := 11) rfl ?_); refine goesL_ (some 86) rfl rfl Try.func11 (by kernel_rfl) rfl #[.slice Ao13 x8_2.length co13] rfl (by (try simp only [List.map_toArray, List.map_cons, List.map_nil]); first | done | rfl | (simp only [List.length_drop, List.length_take]; rfl)) ?_; (with_reducible refine (crc_Open.calls _ _ x8_2 t146 t147 t148 _ ?side1 ?side2 A27.out).mono ?_); (case side1 => repeat (first | exact (Kd.R_reads' HO_8.out).2.2 | (with_reducible refine Kd.C_alloc ?_ _) | (with_reducible refine Kd.C_drewN ?_ _) | (with_reducible refine Kd.C_drew ?_))); (case side2 => exact (Kd.R_reads' HO_8.out).2.1); rintro e w40 ⟨v149, rfl, ho0, hb⟩; refine ⟨_, rfl, ?_⟩; have n0_ := Aside0.mk (Kd.R_elder' (by (with_reducible repeat (first | apply Kd.R_alloc | apply Kd.R_drewN | apply Kd.R_drew)); exact HO_8.out) (Kd.R_base ho0) hb); have n1_ := Aside0.mk (Kd.R_lower (Kd.R_new' ho0 (Kd.R_lt (by (with_reducible repeat (first | apply Kd.R_alloc | apply Kd.R_drewN | apply Kd.R_drew)); exact HO_8.out))) (below_size (by repeat (first | (with_reducible first | exact HB.out | apply below_alloc | apply pw_below_drewN | apply below_drew1) | exact HB.out)))); have n2_ := Aside0.mk (below_step (by repeat (first | (with_reducible first | exact HB.out | apply below_alloc | apply pw_below_drewN | apply below_drew1) | exact HB.out)) hb); clear HO_8; clear HB; have HO_8 := n0_; have HO150 := n1_; have HB := n2_; clear n0_ n1_ n2_; (try clear hb); (try clear hb2); (try clear hk); (try clear hi); (try clear ho0); have hcv41 := own_string (P := Try.prog) Try.underlying22 Try.underlying5 Try.underlying9 (Kd.own_of_R HO150.out); have hcv42 := Kd.C_string (P := Try.prog) (A := A0) (c := c0) Try.underlying22 Try.underlying5 Try.underlying9 (Kd.C_below HR0.out HB.out)))
                    go_ret
                    exact ⟨by first | rfl | (simp [errW_none, errW_some] <;> rfl) | (simp [*, errW_none, errW_some] <;> rfl), by repeat (first | (with_reducible first | exact HB.out | apply below_alloc | apply pw_below_drewN | apply below_drew1) | exact HB.out)⟩
                  · rw [if_neg c39] at H
                    have c39b0 : (t148 == 0) = false := beq_eq_false_iff_ne.mpr c39
                    (try (have c39b0xhl8_2 := c39b0; rw [hl8_2] at c39b0xhl8_2))
                    have c39b1 : (t148 != 0) = true := bne_iff_ne.mpr c39
                    (try (have c39b1xhl8_2 := c39b1; rw [hl8_2] at c39b1xhl8_2))
                    obtain rfl := Option.some.inj H
                    go_wp2_with (first | ((with_reducible refine gate_callee (f := 11) rfl ?_); refine goesL_ (some 86) rfl rfl Try.func11 (by kernel_rfl) rfl #[.slice Ao13 x8_2.length co13] rfl (by (try simp only [List.map_toArray, List.map_cons, List.map_nil]); first | done | rfl | (simp only [List.length_drop, List.length_take]; rfl)) ?_; (with_reducible refine (crc_Open.calls _ _ x8_2 t146 t147 t148 _ ?side1 ?side2 A27.out).mono ?_); (case side1 => repeat (first | exact (Kd.R_reads' HO_8.out).2.2 | (with_reducible refine Kd.C_alloc ?_ _) | (with_reducible refine Kd.C_drewN ?_ _) | (with_reducible refine Kd.C_drew ?_))); (case side2 => exact (Kd.R_reads' HO_8.out).2.1); rintro e w43 ⟨v149, rfl, ho0, hb⟩; refine ⟨_, rfl, ?_⟩; have n0_ := Aside0.mk (Kd.R_elder' (by (with_reducible repeat (first | apply Kd.R_alloc | apply Kd.R_drewN | apply Kd.R_drew)); exact HO_8.out) (Kd.R_base ho0) hb); have n1_ := Aside0.mk (Kd.R_lower (Kd.R_new' ho0 (Kd.R_lt (by (with_reducible repeat (first | apply Kd.R_alloc | apply Kd.R_drewN | apply Kd.R_drew)); exact HO_8.out))) (below_size (by repeat (first | (with_reducible first | exact HB.out | apply below_alloc | apply pw_below_drewN | apply below_drew1) | exact HB.out)))); have n2_ := Aside0.mk (below_step (by repeat (first | (with_reducible first | exact HB.out | apply below_alloc | apply pw_below_drewN | apply below_drew1) | exact HB.out)) hb); clear HO_8; clear HB; have HO_8 := n0_; have HO150 := n1_; have HB := n2_; clear n0_ n1_ n2_; (try clear hb); (try clear hb2); (try clear hk); (try clear hi); (try clear ho0)))
                    go_ret
                    exact ⟨by first | rfl | (simp [errW_none, errW_some] <;> rfl) | (simp [*, errW_none, errW_some] <;> rfl), by repeat (first | (with_reducible first | exact HB.out | apply below_alloc | apply pw_below_drewN | apply below_drew1) | exact HB.out)⟩
                · replace c38 := Bool.eq_false_iff.mpr c38
                  subst c38
                  have H1 : (some false) = some r := by rw [if_neg (show ¬ (false = true) by decide)] at H; exact H
                  clear H
                  have H := H1
                  clear H1
                  obtain rfl := Option.some.inj H
                  go_wp2_with (first | ((with_reducible refine gate_callee (f := 11) rfl ?_); refine goesL_ (some 86) rfl rfl Try.func11 (by kernel_rfl) rfl #[.slice Ao13 x8_2.length co13] rfl (by (try simp only [List.map_toArray, List.map_cons, List.map_nil]); first | done | rfl | (simp only [List.length_drop, List.length_take]; rfl)) ?_; (with_reducible refine (crc_Open.calls _ _ x8_2 t146 t147 t148 _ ?side1 ?side2 A27.out).mono ?_); (case side1 => repeat (first | exact (Kd.R_reads' HO_8.out).2.2 | (with_reducible refine Kd.C_alloc ?_ _) | (with_reducible refine Kd.C_drewN ?_ _) | (with_reducible refine Kd.C_drew ?_))); (case side2 => exact (Kd.R_reads' HO_8.out).2.1); rintro e w44 ⟨v149, rfl, ho0, hb⟩; refine ⟨_, rfl, ?_⟩; have n0_ := Aside0.mk (Kd.R_elder' (by (with_reducible repeat (first | apply Kd.R_alloc | apply Kd.R_drewN | apply Kd.R_drew)); exact HO_8.out) (Kd.R_base ho0) hb); have n1_ := Aside0.mk (Kd.R_lower (Kd.R_new' ho0 (Kd.R_lt (by (with_reducible repeat (first | apply Kd.R_alloc | apply Kd.R_drewN | apply Kd.R_drew)); exact HO_8.out))) (below_size (by repeat (first | (with_reducible first | exact HB.out | apply below_alloc | apply pw_below_drewN | apply below_drew1) | exact HB.out)))); have n2_ := Aside0.mk (below_step (by repeat (first | (with_reducible first | exact HB.out | apply below_alloc | apply pw_below_drewN | apply below_drew1) | exact HB.out)) hb); clear HO_8; clear HB; have HO_8 := n0_; have HO150 := n1_; have HB := n2_; clear n0_ n1_ n2_; (try clear hb); (try clear hb2); (try clear hk); (try clear hi); (try clear ho0)))
                  go_ret
                  exact ⟨by first | rfl | (simp [errW_none, errW_some] <;> rfl) | (simp [*, errW_none, errW_some] <;> rfl), by repeat (first | (with_reducible first | exact HB.out | apply below_alloc | apply pw_below_drewN | apply below_drew1) | exact HB.out)⟩

/-- THE ONE PURE STATEMENT of tidemilllaw02_CrcTurned: yours. -/
def tidemilllaw02_CrcTurned.Pure : Prop := ∀ (l0 : List Int) (a1 : Int) (a2 : Int), l0.length ≤ maxLen → l0.length * 1 ≤ 140737488351232 → (∀ x ∈ l0, (Lit.int .u8 x).wf = true) → (Lit.int .u16 a1).wf = true → (Lit.int .u32 a2).wf = true → ∃ k, tidemilllaw02_CrcTurned.f k l0 a1 a2 = some true
theorem tidemilllaw02_CrcTurned.walk (P : tidemilllaw02_CrcTurned.Pure) (a0 : Option Addr) (len0 cap0 : Nat) (z0 : List Int) (a1 : Int) (a2 : Int) (w : World) (w0 : (a0 = none ∧ len0 = 0 ∧ cap0 = 0 ∧ z0 = []) ∨ ∃ x, a0 = some x ∧ len0 ≤ cap0 ∧ cap0 ≤ maxLen ∧ z0.length = cap0 ∧ (∀ i, i < z0.length → w.cell? (x.add i) = some (.int .u8 (z0.getD i 0))) ∧ ∀ n ∈ z0, (Lit.int .u8 n).wf = true) (y0 : len0 * 1 ≤ 140737488351232) (w1 : (Lit.int .u16 a1).wf = true) (w2 : (Lit.int .u32 a2).wf = true) :
    Calls Try.prog 4 #[.slice a0 len0 cap0, .int .u16 a1, .int .u32 a2] w fun e w' => e = .returned (.bool true) ∧ Below w.heap.size w w' := by
  obtain ⟨l0, rfl, hr0, hm0, hw0, hc0⟩ := ReadsInt.ofRowC w0
  obtain ⟨k, h⟩ := P l0 a1 a2 hm0 y0 hw0 w1 w2
  refine (tidemilllaw02_CrcTurned.calls k _ _ l0 a1 a2 true w (Kd.C_of_reads (d := (0 : Int)) (h1 := fun _ => rfl) hr0) hc0 h).mono ?_
  rintro e w' ⟨rfl, hd⟩
  exact ⟨rfl, hd⟩

end Go.Proofs.Yteihfipojnfnfaa.PCrcTurned

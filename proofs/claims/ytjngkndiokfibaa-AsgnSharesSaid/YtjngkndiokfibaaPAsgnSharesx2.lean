-- Written by a turned copy of the print, with contracts that this session proved by hand.
import Derived.Test.YtjngkndiokfibaaPAsgnSharesx0
import Derived.Test.YtjngkndiokfibaaPAsgnSharesx1
namespace Go.Proofs.Ytjngkndiokfibaa.PAsgnShares
open Go.RowKit Go.Proofs.YtjngkndiokfibaaW.PrintWords Go.Proofs.YtjngkndiokfibaaW.PrintLast Go.Proofs.YtjngkndiokfibaaW.PrintMore
attribute [local go_sem] max2_int min2_int max_two min_two max_three min_three max_four min_four   -- for this text's walks alone
set_option linter.unusedVariables false
set_option linter.unusedSimpArgs false

/-! ### tidemilllaw22_AsgnShares: function 6 -/
mutual
def tidemilllaw22_AsgnShares.l0 : Nat → Int → List Bool → Bool → Int → List Int → Int → Option (Bool)
  | 0, _, _, _, _, _, _ => none
  | k + 1, x0, x1, x7, x8, x9, x10 => if x10 < (x9.length : Int) then (if x8 = 0 then (if 0 ≤ x10 then (if (rd x9 x10) = (-1) then (if x8 > 0 then (if (rd x9 x10) < 0 then (some false) else (if (rd x9 x10) ≥ (x1.length : Int) then (some false) else (if 0 ≤ (rd x9 x10) then (if (rd x9 x10) < (x1.length : Int) then (if (rdOf false x1 (rd x9 x10) = true) then (tidemilllaw22_AsgnShares.l0 k x0 x1 x7 x8 x9 (wrap64 (x10 + 1))) else (some false)) else (none)) else (none)))) else (tidemilllaw22_AsgnShares.l0 k x0 x1 x7 x8 x9 (wrap64 (x10 + 1)))) else (some false)) else (none)) else (if x8 > 0 then (if 0 ≤ x10 then (if (rd x9 x10) < 0 then (some false) else (if (rd x9 x10) ≥ (x1.length : Int) then (some false) else (if 0 ≤ (rd x9 x10) then (if (rd x9 x10) < (x1.length : Int) then (if (rdOf false x1 (rd x9 x10) = true) then (tidemilllaw22_AsgnShares.l0 k x0 x1 x7 x8 x9 (wrap64 (x10 + 1))) else (some false)) else (none)) else (none)))) else (none)) else (tidemilllaw22_AsgnShares.l0 k x0 x1 x7 x8 x9 (wrap64 (x10 + 1))))) else ((asgn_Assign.f (wrap64 (x0)) x1 ([] : List Int)).bind fun t147 => (tidemilllaw22_AsgnShares.l1 k x0 x1 x7 x8 x9 t147 0))
def tidemilllaw22_AsgnShares.l1 : Nat → Int → List Bool → Bool → Int → List Int → List Int → Int → Option (Bool)
  | 0, _, _, _, _, _, _, _ => none
  | k + 1, x0, x1, x7, x8, x9, x11, x12 => if x12 < (x1.length : Int) then (if x8 > 0 then ((tidemillref22_Count.f k x9 x12).bind fun t150 => ((tidemillref22_Share.f k (wrap64 (x0)) x8).bind fun t151 => (tidemilllaw22_AsgnShares.j2 k x0 x1 x7 x8 x9 x11 x12 (decide (t150 > t151))))) else (tidemilllaw22_AsgnShares.j2 k x0 x1 x7 x8 x9 x11 x12 false)) else (some x7)
def tidemilllaw22_AsgnShares.j2 : Nat → Int → List Bool → Bool → Int → List Int → List Int → Int → Bool → Option (Bool)
  | 0, _, _, _, _, _, _, _, _ => none
  | k + 1, x0, x1, x7, x8, x9, x11, x12, x95 => if x95 = true then (some false) else (tidemilllaw22_AsgnShares.l2 k x0 x1 x7 x8 x9 x11 x12 0)
def tidemilllaw22_AsgnShares.l2 : Nat → Int → List Bool → Bool → Int → List Int → List Int → Int → Int → Option (Bool)
  | 0, _, _, _, _, _, _, _, _ => none
  | k + 1, x0, x1, x7, x8, x9, x11, x12, x13 => if x13 < (x1.length : Int) then (if 0 ≤ x12 then (if x12 < (x1.length : Int) then (if rdOf false x1 x12 = true then (if 0 ≤ x13 then (if rdOf false x1 x13 = true then ((tidemillref22_Count.f k x11 x12).bind fun t154 => ((tidemillref22_Count.f k x11 x13).bind fun t155 => (if t154 > (wrap64 (t155 + 1)) then (some false) else (tidemilllaw22_AsgnShares.l2 k x0 x1 x7 x8 x9 x11 x12 (wrap64 (x13 + 1)))))) else (tidemilllaw22_AsgnShares.l2 k x0 x1 x7 x8 x9 x11 x12 (wrap64 (x13 + 1)))) else (none)) else (tidemilllaw22_AsgnShares.l2 k x0 x1 x7 x8 x9 x11 x12 (wrap64 (x13 + 1)))) else (none)) else (none)) else (tidemilllaw22_AsgnShares.l1 k x0 x1 x7 x8 x9 x11 (wrap64 (x12 + 1)))
end
def tidemilllaw22_AsgnShares.f (k : Nat) (a0 : Int) (l1 : List Bool) (l2 : List Int) : Option (Bool) := (tidemilllaw22_shown.f k).bind fun t130 => ((tidemilllaw22_few.f l1).bind fun t131 => ((tidemillref22_Living.f k t131).bind fun t134 => ((asgn_Assign.f (wrap64 (a0)) t131 l2).bind fun t135 => (if (t135.length : Int) = (wrap64 (a0)) then (tidemilllaw22_AsgnShares.l0 k a0 t131 t130 t134 t135 0) else (some false)))))
theorem tidemilllaw22_AsgnShares.mono_l : ∀ k, (∀ y0 y1 y2 y3 y4 y5, LeO (tidemilllaw22_AsgnShares.l0 k y0 y1 y2 y3 y4 y5) (tidemilllaw22_AsgnShares.l0 (k + 1) y0 y1 y2 y3 y4 y5)) ∧ (∀ y0 y1 y2 y3 y4 y5 y6, LeO (tidemilllaw22_AsgnShares.l1 k y0 y1 y2 y3 y4 y5 y6) (tidemilllaw22_AsgnShares.l1 (k + 1) y0 y1 y2 y3 y4 y5 y6)) ∧ (∀ y0 y1 y2 y3 y4 y5 y6 y7, LeO (tidemilllaw22_AsgnShares.j2 k y0 y1 y2 y3 y4 y5 y6 y7) (tidemilllaw22_AsgnShares.j2 (k + 1) y0 y1 y2 y3 y4 y5 y6 y7)) ∧ (∀ y0 y1 y2 y3 y4 y5 y6 y7, LeO (tidemilllaw22_AsgnShares.l2 k y0 y1 y2 y3 y4 y5 y6 y7) (tidemilllaw22_AsgnShares.l2 (k + 1) y0 y1 y2 y3 y4 y5 y6 y7))
  | 0 => ⟨fun _ _ _ _ _ _ r h => by simp [tidemilllaw22_AsgnShares.l0] at h, fun _ _ _ _ _ _ _ r h => by simp [tidemilllaw22_AsgnShares.l1] at h, fun _ _ _ _ _ _ _ _ r h => by simp [tidemilllaw22_AsgnShares.j2] at h, fun _ _ _ _ _ _ _ _ r h => by simp [tidemilllaw22_AsgnShares.l2] at h⟩
  | k + 1 => by
    obtain ⟨ih0, ih1, ih2, ih3⟩ := tidemilllaw22_AsgnShares.mono_l k
    refine ⟨?_, ?_, ?_, ?_⟩
    · intro y0 y1 y2 y3 y4 y5
      unfold tidemilllaw22_AsgnShares.l0
      repeat' first
      | (with_reducible exact ih0 _ _ _ _ _ _)
      | (with_reducible exact ih1 _ _ _ _ _ _ _)
      | (with_reducible exact ih2 _ _ _ _ _ _ _ _)
      | (with_reducible exact ih3 _ _ _ _ _ _ _ _)
      | (with_reducible exact tidemilllaw22_shown.mono _)
      | (with_reducible exact tidemillref22_Count.mono _ _ _)
      | (with_reducible exact tidemillref22_Living.mono _ _)
      | (with_reducible exact tidemillref22_Share.mono _ _ _)
      | (with_reducible exact LeO.refl _)
      | (with_reducible exact LeO.none _)
      | (with_reducible refine LeO.ite ?_ ?_)
      | (with_reducible refine LeO.bind ?_ (fun _ => ?_))
      | exact ih0 _ _ _ _ _ _
      | exact ih1 _ _ _ _ _ _ _
      | exact ih2 _ _ _ _ _ _ _ _
      | exact ih3 _ _ _ _ _ _ _ _
      | exact tidemilllaw22_shown.mono _
      | exact tidemillref22_Count.mono _ _ _
      | exact tidemillref22_Living.mono _ _
      | exact tidemillref22_Share.mono _ _ _
      | exact LeO.none _
      | refine LeO.ite ?_ ?_
      | refine LeO.bind ?_ (fun _ => ?_)
    · intro y0 y1 y2 y3 y4 y5 y6
      unfold tidemilllaw22_AsgnShares.l1
      repeat' first
      | (with_reducible exact ih0 _ _ _ _ _ _)
      | (with_reducible exact ih1 _ _ _ _ _ _ _)
      | (with_reducible exact ih2 _ _ _ _ _ _ _ _)
      | (with_reducible exact ih3 _ _ _ _ _ _ _ _)
      | (with_reducible exact tidemilllaw22_shown.mono _)
      | (with_reducible exact tidemillref22_Count.mono _ _ _)
      | (with_reducible exact tidemillref22_Living.mono _ _)
      | (with_reducible exact tidemillref22_Share.mono _ _ _)
      | (with_reducible exact LeO.refl _)
      | (with_reducible exact LeO.none _)
      | (with_reducible refine LeO.ite ?_ ?_)
      | (with_reducible refine LeO.bind ?_ (fun _ => ?_))
      | exact ih0 _ _ _ _ _ _
      | exact ih1 _ _ _ _ _ _ _
      | exact ih2 _ _ _ _ _ _ _ _
      | exact ih3 _ _ _ _ _ _ _ _
      | exact tidemilllaw22_shown.mono _
      | exact tidemillref22_Count.mono _ _ _
      | exact tidemillref22_Living.mono _ _
      | exact tidemillref22_Share.mono _ _ _
      | exact LeO.none _
      | refine LeO.ite ?_ ?_
      | refine LeO.bind ?_ (fun _ => ?_)
    · intro y0 y1 y2 y3 y4 y5 y6 y7
      unfold tidemilllaw22_AsgnShares.j2
      repeat' first
      | (with_reducible exact ih0 _ _ _ _ _ _)
      | (with_reducible exact ih1 _ _ _ _ _ _ _)
      | (with_reducible exact ih2 _ _ _ _ _ _ _ _)
      | (with_reducible exact ih3 _ _ _ _ _ _ _ _)
      | (with_reducible exact tidemilllaw22_shown.mono _)
      | (with_reducible exact tidemillref22_Count.mono _ _ _)
      | (with_reducible exact tidemillref22_Living.mono _ _)
      | (with_reducible exact tidemillref22_Share.mono _ _ _)
      | (with_reducible exact LeO.refl _)
      | (with_reducible exact LeO.none _)
      | (with_reducible refine LeO.ite ?_ ?_)
      | (with_reducible refine LeO.bind ?_ (fun _ => ?_))
      | exact ih0 _ _ _ _ _ _
      | exact ih1 _ _ _ _ _ _ _
      | exact ih2 _ _ _ _ _ _ _ _
      | exact ih3 _ _ _ _ _ _ _ _
      | exact tidemilllaw22_shown.mono _
      | exact tidemillref22_Count.mono _ _ _
      | exact tidemillref22_Living.mono _ _
      | exact tidemillref22_Share.mono _ _ _
      | exact LeO.none _
      | refine LeO.ite ?_ ?_
      | refine LeO.bind ?_ (fun _ => ?_)
    · intro y0 y1 y2 y3 y4 y5 y6 y7
      unfold tidemilllaw22_AsgnShares.l2
      repeat' first
      | (with_reducible exact ih0 _ _ _ _ _ _)
      | (with_reducible exact ih1 _ _ _ _ _ _ _)
      | (with_reducible exact ih2 _ _ _ _ _ _ _ _)
      | (with_reducible exact ih3 _ _ _ _ _ _ _ _)
      | (with_reducible exact tidemilllaw22_shown.mono _)
      | (with_reducible exact tidemillref22_Count.mono _ _ _)
      | (with_reducible exact tidemillref22_Living.mono _ _)
      | (with_reducible exact tidemillref22_Share.mono _ _ _)
      | (with_reducible exact LeO.refl _)
      | (with_reducible exact LeO.none _)
      | (with_reducible refine LeO.ite ?_ ?_)
      | (with_reducible refine LeO.bind ?_ (fun _ => ?_))
      | exact ih0 _ _ _ _ _ _
      | exact ih1 _ _ _ _ _ _ _
      | exact ih2 _ _ _ _ _ _ _ _
      | exact ih3 _ _ _ _ _ _ _ _
      | exact tidemilllaw22_shown.mono _
      | exact tidemillref22_Count.mono _ _ _
      | exact tidemillref22_Living.mono _ _
      | exact tidemillref22_Share.mono _ _ _
      | exact LeO.none _
      | refine LeO.ite ?_ ?_
      | refine LeO.bind ?_ (fun _ => ?_)
theorem tidemilllaw22_AsgnShares.mono : ∀ a0 a1 a2 k, LeO (tidemilllaw22_AsgnShares.f k a0 a1 a2) (tidemilllaw22_AsgnShares.f (k + 1) a0 a1 a2) := by
  intro a0 a1 a2 k
  obtain ⟨ih0, ih1, ih2, ih3⟩ := tidemilllaw22_AsgnShares.mono_l k
  unfold tidemilllaw22_AsgnShares.f
  repeat' first
      | (with_reducible exact ih0 _ _ _ _ _ _)
      | (with_reducible exact ih1 _ _ _ _ _ _ _)
      | (with_reducible exact ih2 _ _ _ _ _ _ _ _)
      | (with_reducible exact ih3 _ _ _ _ _ _ _ _)
      | (with_reducible exact tidemilllaw22_shown.mono _)
      | (with_reducible exact tidemillref22_Count.mono _ _ _)
      | (with_reducible exact tidemillref22_Living.mono _ _)
      | (with_reducible exact tidemillref22_Share.mono _ _ _)
      | (with_reducible exact LeO.refl _)
      | (with_reducible exact LeO.none _)
      | (with_reducible refine LeO.ite ?_ ?_)
      | (with_reducible refine LeO.bind ?_ (fun _ => ?_))
      | exact ih0 _ _ _ _ _ _
      | exact ih1 _ _ _ _ _ _ _
      | exact ih2 _ _ _ _ _ _ _ _
      | exact ih3 _ _ _ _ _ _ _ _
      | exact tidemilllaw22_shown.mono _
      | exact tidemillref22_Count.mono _ _ _
      | exact tidemillref22_Living.mono _ _
      | exact tidemillref22_Share.mono _ _ _
      | exact LeO.none _
      | refine LeO.ite ?_ ?_
      | refine LeO.bind ?_ (fun _ => ?_)
set_option maxHeartbeats 8000000 in
set_option maxRecDepth 100000 in
theorem tidemilllaw22_AsgnShares.calls (k : Nat) (a0 : Int) (A1 : Option Addr) (c1 : Nat) (l1 : List Bool) (A2 : Option Addr) (c2 : Nat) (l2 : List Int) (r : Bool) (w : World) (hr1 : Kd.C Kd.bool w A1 l1.length l1) (hc1 : l1.length ≤ c1) (hr2 : Kd.C (Kd.int .i64) w A2 l2.length l2) (hc2 : l2.length ≤ c2) (h : tidemilllaw22_AsgnShares.f k a0 l1 l2 = some r) :
    Calls Try.prog 6 #[.int .u8 a0, .slice A1 l1.length c1, .slice A2 l2.length c2] w fun e w' => e = .returned (.bool r) ∧ Below w.heap.size w w' := by
  have HR1 := Aside0.mk hr1
  have HC1 := Aside0.mk hc1
  clear hr1 hc1
  have HR2 := Aside0.mk hr2
  have HC2 := Aside0.mk hc2
  clear hr2 hc2
  have HB := Aside0.mk (Below.refl w.heap.size w)
  have H : ((tidemilllaw22_shown.f k).bind fun t130 => ((tidemilllaw22_few.f l1).bind fun t131 => ((tidemillref22_Living.f k t131).bind fun t134 => ((asgn_Assign.f (wrap64 (a0)) t131 l2).bind fun t135 => (if (t135.length : Int) = (wrap64 (a0)) then (tidemilllaw22_AsgnShares.l0 k a0 t131 t130 t134 t135 0) else (some false)))))) = some r := h
  clear h
  replace H := Option.bind_eq_some_iff.mp H
  obtain ⟨t130, A40, H⟩ := H
  replace H : ((tidemilllaw22_few.f l1).bind fun t131 => ((tidemillref22_Living.f k t131).bind fun t134 => ((asgn_Assign.f (wrap64 (a0)) t131 l2).bind fun t135 => (if (t135.length : Int) = (wrap64 (a0)) then (tidemilllaw22_AsgnShares.l0 k a0 t131 t130 t134 t135 0) else (some false))))) = some r := H
  have A4 := Aside0.mk A40
  clear A40
  replace H := Option.bind_eq_some_iff.mp H
  obtain ⟨t131, A50, H⟩ := H
  replace H : ((tidemillref22_Living.f k t131).bind fun t134 => ((asgn_Assign.f (wrap64 (a0)) t131 l2).bind fun t135 => (if (t135.length : Int) = (wrap64 (a0)) then (tidemilllaw22_AsgnShares.l0 k a0 t131 t130 t134 t135 0) else (some false)))) = some r := H
  have A5 := Aside0.mk A50
  clear A50
  replace H := Option.bind_eq_some_iff.mp H
  obtain ⟨t134, A60, H⟩ := H
  replace H : ((asgn_Assign.f (wrap64 (a0)) t131 l2).bind fun t135 => (if (t135.length : Int) = (wrap64 (a0)) then (tidemilllaw22_AsgnShares.l0 k a0 t131 t130 t134 t135 0) else (some false))) = some r := H
  have A6 := Aside0.mk A60
  clear A60
  replace H := Option.bind_eq_some_iff.mp H
  obtain ⟨t135, A70, H⟩ := H
  replace H : (if (t135.length : Int) = (wrap64 (a0)) then (tidemilllaw22_AsgnShares.l0 k a0 t131 t130 t134 t135 0) else (some false)) = some r := H
  have A7 := Aside0.mk A70
  clear A70
  by_cases c8 : (t135.length : Int) = (wrap64 (a0))
  · rw [if_pos c8] at H
    have c8b0 : ((t135.length : Int) == (wrap64 (a0))) = true := beq_iff_eq.mpr c8
    have c8b1 : ((t135.length : Int) != (wrap64 (a0))) = false := bne_eq_false_iff_eq.mpr c8
    clear c8
    have H' := Aside0.mk H
    clear H
    go_enter Try.func6, Try.ntmps6
    go_wp2_with (first | ((with_reducible refine gate_callee (f := 20) rfl ?_); refine goesL_ (some 14) rfl rfl Try.func20 (by kernel_rfl) rfl #[] rfl (by (try simp only [List.map_toArray, List.map_cons, List.map_nil]); first | done | rfl | (simp only [List.length_drop, List.length_take]; rfl)) ?_; (with_reducible refine (tidemilllaw22_shown.calls k  t130 _ A4.out).mono ?_); rintro e w9 ⟨rfl, hb⟩; refine ⟨_, rfl, ?_⟩; have n0_ := Aside0.mk (below_step (by repeat (first | (with_reducible first | exact HB.out | apply below_alloc | apply pw_below_drewN | apply below_drew1) | exact HB.out)) hb); clear HB; have HB := n0_; clear n0_; (try clear hb); (try clear hb2); (try clear hk); (try clear hi)) | ((with_reducible refine gate_callee (f := 21) rfl ?_); refine goesL_ (some 16) rfl rfl Try.func21 (by kernel_rfl) rfl #[.slice A1 l1.length c1] rfl (by (try simp only [List.map_toArray, List.map_cons, List.map_nil]); first | done | rfl | (simp only [List.length_drop, List.length_take]; rfl)) ?_; (with_reducible refine (tidemilllaw22_few.calls (fun k_ => k_ < w.heap.size) _ _ l1 t131 _ ?side1 A5.out).mono ?_); (case side1 => exact Kd.V_mk HC1.out (Kd.F_below (Kd.C_F Kd.heap_bool HR1.out) (by repeat (first | (with_reducible first | exact HB.out | apply below_alloc | apply pw_below_drewN | apply below_drew1) | exact HB.out)))); rintro e w10 ⟨v132, rfl, ho0, hb⟩; refine ⟨_, rfl, ?_⟩; have n0_ := Aside0.mk (Kd.V_lower (Kd.V_mono (ok' := fun k_ => True) ho0 (fun k_ hk_ => trivial)) (below_size (by repeat (first | (with_reducible first | exact HB.out | apply below_alloc | apply pw_below_drewN | apply below_drew1) | exact HB.out)))); have n1_ := Aside0.mk (below_step (by repeat (first | (with_reducible first | exact HB.out | apply below_alloc | apply pw_below_drewN | apply below_drew1) | exact HB.out)) hb); clear HB; have HO133 := n0_; have HB := n1_; clear n0_ n1_; (try clear hb); (try clear hb2); (try clear hk); (try clear hi); (try clear ho0); obtain ⟨Ao11, co11, eo11⟩ := Kd.V_slice HO133.out; subst eo11) | ((with_reducible refine gate_callee (f := 25) rfl ?_); refine goesL_ (some 18) rfl rfl Try.func25 (by kernel_rfl) rfl #[.slice Ao11 t131.length co11] rfl (by (try simp only [List.map_toArray, List.map_cons, List.map_nil]); first | done | rfl | (simp only [List.length_drop, List.length_take]; rfl)) ?_; (with_reducible refine (tidemillref22_Living.calls k _ _ t131 t134 _ ?side1 ?side2 A6.out).mono ?_); (case side1 => repeat (first | exact (Kd.V_reads' HO133.out).2.2 | (with_reducible refine Kd.C_alloc ?_ _) | (with_reducible refine Kd.C_drewN ?_ _) | (with_reducible refine Kd.C_drew ?_))); (case side2 => exact (Kd.V_reads' HO133.out).2.1); rintro e w' ⟨rfl, ⟨nd, rfl⟩⟩; refine ⟨_, rfl, ?_⟩) | ((with_reducible refine gate_callee (f := 23) rfl ?_); refine goesL_ (some 23) rfl rfl Try.func23 (by kernel_rfl) rfl #[.int .i64 (wrap64 (a0)), .slice Ao11 t131.length co11, .slice A2 l2.length c2] rfl (by (try simp only [List.map_toArray, List.map_cons, List.map_nil]); first | done | rfl | (simp only [List.length_drop, List.length_take]; rfl)) ?_; (with_reducible refine (asgn_Assign.calls (wrap64 (a0)) _ _ t131 _ _ l2 t135 _ ?side1 ?side2 ?side3 ?side4 A7.out).mono ?_); (case side1 => repeat (first | exact (Kd.V_reads' HO133.out).2.2 | (with_reducible refine Kd.C_alloc ?_ _) | (with_reducible refine Kd.C_drewN ?_ _) | (with_reducible refine Kd.C_drew ?_))); (case side2 => exact (Kd.V_reads' HO133.out).2.1); (case side3 => repeat (first | exact (Kd.C_below HR2.out (by repeat (first | (with_reducible first | exact HB.out | apply below_alloc | apply pw_below_drewN | apply below_drew1) | exact HB.out))) | (with_reducible refine Kd.C_alloc ?_ _) | (with_reducible refine Kd.C_drewN ?_ _) | (with_reducible refine Kd.C_drew ?_))); (case side4 => exact HC2.out); rintro e w12 ⟨v136, rfl, ho0, hb⟩; refine ⟨_, rfl, ?_⟩; have n0_ := Aside0.mk (Kd.V_elder' (by (with_reducible repeat (first | apply Kd.V_alloc | apply Kd.V_drewN | apply Kd.V_drew)); exact HO133.out) (Kd.R_base ho0) hb); have n1_ := Aside0.mk (Kd.R_lower ho0 (below_size (by repeat (first | (with_reducible first | exact HB.out | apply below_alloc | apply pw_below_drewN | apply below_drew1) | exact HB.out)))); have n2_ := Aside0.mk (below_step (by repeat (first | (with_reducible first | exact HB.out | apply below_alloc | apply pw_below_drewN | apply below_drew1) | exact HB.out)) hb); clear HO133; clear HB; have HO133 := n0_; have HO137 := n1_; have HB := n2_; clear n0_ n1_ n2_; (try clear hb); (try clear hb2); (try clear hk); (try clear hi); (try clear ho0); obtain ⟨Ao13, co13, eo13⟩ := Kd.R_slice HO137.out; subst eo13))
    go_loopg [10] k (fun kq v10 w' => ∃ (x10_1 : Int), v10 = .int .i64 x10_1 ∧ Aside0 (tidemilllaw22_AsgnShares.l0 kq a0 t131 t130 t134 t135 x10_1 = some r) ∧ Aside0 (kq ≤ k) ∧ Aside0 (Kd.V Kd.bool 4 w' w.heap.size (fun k_ => some k_ ≠ ((.slice Ao13 t135.length co13) : Value).ownBlock) (.slice Ao11 t131.length co11) t131) ∧ Aside0 (Kd.R (Kd.int .i64) 3 w' w.heap.size (fun _ => True) (.slice Ao13 t135.length co13) t135) ∧ Aside0 (Below w.heap.size w w'))
    case atStart => exact ⟨(0), (by first | rfl | (simp; done) | (simp [*]; done)), H', ⟨Nat.le_refl _⟩, ⟨by (with_reducible repeat (first | apply Kd.V_alloc | apply Kd.V_drewN | apply Kd.V_drew)); exact Kd.V_mono HO133.out (fun _ hk => hk.2)⟩, ⟨by (with_reducible repeat (first | apply Kd.R_alloc | apply Kd.R_drewN | apply Kd.R_drew)); exact HO137.out⟩, ⟨by repeat (first | (with_reducible first | exact HB.out | apply below_alloc | apply pw_below_drewN | apply below_drew1) | exact HB.out)⟩⟩
    case round =>
      clear H'
      try clear c1
      try clear c2
      try clear p2
      try clear c6
      try clear p6
      try clear c8
      try clear c8b0
      try clear c8b1
      obtain ⟨x10_1, rfl, HA, HK1, HO_1, HO_9, HB⟩ := hrel
      cases gk with
      | zero => exact absurd HA.out (by simp [tidemilllaw22_AsgnShares.l0])
      | succ k1 =>
        have H := HA.out
        clear HA
        simp only [tidemilllaw22_AsgnShares.l0] at H
        by_cases c14 : x10_1 < (t135.length : Int)
        · rw [if_pos c14] at H
          have c14b0 : decide (x10_1 < (t135.length : Int)) = true := decide_eq_true c14
          clear c14
          by_cases c15 : t134 = 0
          · rw [if_pos c15] at H
            have c15b0 : (t134 == 0) = true := beq_iff_eq.mpr c15
            have c15b1 : (t134 != 0) = false := bne_eq_false_iff_eq.mpr c15
            clear c15
            by_cases c16 : 0 ≤ x10_1
            · rw [if_pos c16] at H
              have c16b0 : decide (0 ≤ x10_1) = true := decide_eq_true c16
              clear c16
              by_cases c17 : (rd t135 x10_1) = (-1)
              · rw [if_pos c17] at H
                have c17b0 : ((rd t135 x10_1) == (-1)) = true := beq_iff_eq.mpr c17
                have c17b1 : ((rd t135 x10_1) != (-1)) = false := bne_eq_false_iff_eq.mpr c17
                clear c17
                by_cases c18 : t134 > 0
                · rw [if_pos c18] at H
                  have c18b0 : decide (0 < t134) = true := decide_eq_true c18
                  clear c18
                  by_cases c19 : (rd t135 x10_1) < 0
                  · rw [if_pos c19] at H
                    have c19b0 : decide ((rd t135 x10_1) < 0) = true := decide_eq_true c19
                    clear c19
                    obtain rfl := Option.some.inj H
                    have p138 : 0 ≤ (x10_1 : Int) := of_decide_eq_true (by first | (with_reducible assumption) | assumption)
                    have q138 : x10_1 < (t135.length : Int) := of_decide_eq_true (by first | (with_reducible assumption) | assumption)
                    obtain ⟨ad138, e138, hx138_0⟩ := Kd.at_int (Kd.R_reads' HO_9.out).2.2 x10_1 p138 q138
                    cases e138
                    replace p138 := eq_true p138
                    replace q138 := eq_true q138
                    have p139 : 0 ≤ (x10_1 : Int) := of_decide_eq_true (by first | (with_reducible assumption) | assumption)
                    have q139 : x10_1 < (t135.length : Int) := of_decide_eq_true (by first | (with_reducible assumption) | assumption)
                    obtain ⟨ad139, e139, hx139_0⟩ := Kd.at_int (Kd.R_reads' HO_9.out).2.2 x10_1 p139 q139
                    obtain rfl : ad138 = ad139 := (by injection e139)
                    replace p139 := eq_true p139
                    replace q139 := eq_true q139
                    go_wp2
                    go_ret
                    exact ⟨by first | rfl | (simp [errW_none, errW_some] <;> rfl) | (simp [*, errW_none, errW_some] <;> rfl), by repeat (first | (with_reducible first | exact HB.out | apply below_alloc | apply pw_below_drewN | apply below_drew1) | exact HB.out)⟩
                  · rw [if_neg c19] at H
                    have c19b0 : decide ((rd t135 x10_1) < 0) = false := decide_eq_false c19
                    clear c19
                    by_cases c20 : (rd t135 x10_1) ≥ (t131.length : Int)
                    · rw [if_pos c20] at H
                      have c20b0 : decide ((t131.length : Int) ≤ (rd t135 x10_1)) = true := decide_eq_true c20
                      clear c20
                      obtain rfl := Option.some.inj H
                      have p138 : 0 ≤ (x10_1 : Int) := of_decide_eq_true (by first | (with_reducible assumption) | assumption)
                      have q138 : x10_1 < (t135.length : Int) := of_decide_eq_true (by first | (with_reducible assumption) | assumption)
                      obtain ⟨ad138, e138, hx138_0⟩ := Kd.at_int (Kd.R_reads' HO_9.out).2.2 x10_1 p138 q138
                      cases e138
                      replace p138 := eq_true p138
                      replace q138 := eq_true q138
                      have p139 : 0 ≤ (x10_1 : Int) := of_decide_eq_true (by first | (with_reducible assumption) | assumption)
                      have q139 : x10_1 < (t135.length : Int) := of_decide_eq_true (by first | (with_reducible assumption) | assumption)
                      obtain ⟨ad139, e139, hx139_0⟩ := Kd.at_int (Kd.R_reads' HO_9.out).2.2 x10_1 p139 q139
                      obtain rfl : ad138 = ad139 := (by injection e139)
                      replace p139 := eq_true p139
                      replace q139 := eq_true q139
                      have p140 : 0 ≤ (x10_1 : Int) := of_decide_eq_true (by first | (with_reducible assumption) | assumption)
                      have q140 : x10_1 < (t135.length : Int) := of_decide_eq_true (by first | (with_reducible assumption) | assumption)
                      obtain ⟨ad140, e140, hx140_0⟩ := Kd.at_int (Kd.R_reads' HO_9.out).2.2 x10_1 p140 q140
                      obtain rfl : ad138 = ad140 := (by injection e140)
                      replace p140 := eq_true p140
                      replace q140 := eq_true q140
                      go_wp2
                      go_ret
                      exact ⟨by first | rfl | (simp [errW_none, errW_some] <;> rfl) | (simp [*, errW_none, errW_some] <;> rfl), by repeat (first | (with_reducible first | exact HB.out | apply below_alloc | apply pw_below_drewN | apply below_drew1) | exact HB.out)⟩
                    · rw [if_neg c20] at H
                      have c20b0 : decide ((t131.length : Int) ≤ (rd t135 x10_1)) = false := decide_eq_false c20
                      clear c20
                      by_cases c21 : 0 ≤ (rd t135 x10_1)
                      · rw [if_pos c21] at H
                        have c21b0 : decide (0 ≤ (rd t135 x10_1)) = true := decide_eq_true c21
                        clear c21
                        by_cases c22 : (rd t135 x10_1) < (t131.length : Int)
                        · rw [if_pos c22] at H
                          have c22b0 : decide ((rd t135 x10_1) < (t131.length : Int)) = true := decide_eq_true c22
                          clear c22
                          obtain ⟨bq23, hbq23⟩ : ∃ b_ : Bool, b_ = (rdOf false t131 (rd t135 x10_1)) := ⟨_, rfl⟩
                          replace H : (if (bq23 = true) then (tidemilllaw22_AsgnShares.l0 k1 a0 t131 t130 t134 t135 (wrap64 (x10_1 + 1))) else (some false)) = some r := by rw [← hbq23] at H; exact H
                          have Nbq23 := Aside0.mk hbq23
                          clear hbq23
                          by_cases c24 : (bq23 = true)
                          · subst c24
                            have H1 : (tidemilllaw22_AsgnShares.l0 k1 a0 t131 t130 t134 t135 (wrap64 (x10_1 + 1))) = some r := by rw [if_pos rfl] at H; exact H
                            clear H
                            have H := H1
                            clear H1
                            have H' := Aside0.mk H
                            clear H
                            have p138 : 0 ≤ (x10_1 : Int) := of_decide_eq_true (by first | (with_reducible assumption) | assumption)
                            have q138 : x10_1 < (t135.length : Int) := of_decide_eq_true (by first | (with_reducible assumption) | assumption)
                            obtain ⟨ad138, e138, hx138_0⟩ := Kd.at_int (Kd.R_reads' HO_9.out).2.2 x10_1 p138 q138
                            cases e138
                            replace p138 := eq_true p138
                            replace q138 := eq_true q138
                            have p139 : 0 ≤ (x10_1 : Int) := of_decide_eq_true (by first | (with_reducible assumption) | assumption)
                            have q139 : x10_1 < (t135.length : Int) := of_decide_eq_true (by first | (with_reducible assumption) | assumption)
                            obtain ⟨ad139, e139, hx139_0⟩ := Kd.at_int (Kd.R_reads' HO_9.out).2.2 x10_1 p139 q139
                            obtain rfl : ad138 = ad139 := (by injection e139)
                            replace p139 := eq_true p139
                            replace q139 := eq_true q139
                            have p140 : 0 ≤ (x10_1 : Int) := of_decide_eq_true (by first | (with_reducible assumption) | assumption)
                            have q140 : x10_1 < (t135.length : Int) := of_decide_eq_true (by first | (with_reducible assumption) | assumption)
                            obtain ⟨ad140, e140, hx140_0⟩ := Kd.at_int (Kd.R_reads' HO_9.out).2.2 x10_1 p140 q140
                            obtain rfl : ad138 = ad140 := (by injection e140)
                            replace p140 := eq_true p140
                            replace q140 := eq_true q140
                            have p141 : 0 ≤ (x10_1 : Int) := of_decide_eq_true (by first | (with_reducible assumption) | assumption)
                            have q141 : x10_1 < (t135.length : Int) := of_decide_eq_true (by first | (with_reducible assumption) | assumption)
                            obtain ⟨ad141, e141, hx141_0⟩ := Kd.at_int (Kd.R_reads' HO_9.out).2.2 x10_1 p141 q141
                            obtain rfl : ad138 = ad141 := (by injection e141)
                            replace p141 := eq_true p141
                            replace q141 := eq_true q141
                            have p142 : 0 ≤ ((rd t135 x10_1) : Int) := of_decide_eq_true (by first | (with_reducible assumption) | assumption)
                            have q142 : (rd t135 x10_1) < (t131.length : Int) := of_decide_eq_true (by first | (with_reducible assumption) | assumption)
                            obtain ⟨ad142, e142, hx142_0⟩ := Kd.at_bool (Kd.V_reads' HO_1.out).2.2 (rd t135 x10_1) p142 q142
                            (try rw [← Nbq23.out] at hx142_0)
                            cases e142
                            replace p142 := eq_true p142
                            replace q142 := eq_true q142
                            go_wp2
                            go_roundg k1
                            case measure => have := HK1.out; omega
                            case rel => exact ⟨(wrap64 (x10_1 + 1)), (by first | rfl | (simp; done) | (simp [*]; done)), H', ⟨by have := HK1.out; omega⟩, ⟨by (with_reducible repeat (first | apply Kd.V_alloc | apply Kd.V_drewN | apply Kd.V_drew)); exact HO_1.out⟩, ⟨by (with_reducible repeat (first | apply Kd.R_alloc | apply Kd.R_drewN | apply Kd.R_drew)); exact HO_9.out⟩, ⟨by repeat (first | (with_reducible first | exact HB.out | apply below_alloc | apply pw_below_drewN | apply below_drew1) | exact HB.out)⟩⟩
                          · replace c24 := Bool.eq_false_iff.mpr c24
                            subst c24
                            have H1 : (some false) = some r := by rw [if_neg (show ¬ (false = true) by decide)] at H; exact H
                            clear H
                            have H := H1
                            clear H1
                            obtain rfl := Option.some.inj H
                            have p138 : 0 ≤ (x10_1 : Int) := of_decide_eq_true (by first | (with_reducible assumption) | assumption)
                            have q138 : x10_1 < (t135.length : Int) := of_decide_eq_true (by first | (with_reducible assumption) | assumption)
                            obtain ⟨ad138, e138, hx138_0⟩ := Kd.at_int (Kd.R_reads' HO_9.out).2.2 x10_1 p138 q138
                            cases e138
                            replace p138 := eq_true p138
                            replace q138 := eq_true q138
                            have p139 : 0 ≤ (x10_1 : Int) := of_decide_eq_true (by first | (with_reducible assumption) | assumption)
                            have q139 : x10_1 < (t135.length : Int) := of_decide_eq_true (by first | (with_reducible assumption) | assumption)
                            obtain ⟨ad139, e139, hx139_0⟩ := Kd.at_int (Kd.R_reads' HO_9.out).2.2 x10_1 p139 q139
                            obtain rfl : ad138 = ad139 := (by injection e139)
                            replace p139 := eq_true p139
                            replace q139 := eq_true q139
                            have p140 : 0 ≤ (x10_1 : Int) := of_decide_eq_true (by first | (with_reducible assumption) | assumption)
                            have q140 : x10_1 < (t135.length : Int) := of_decide_eq_true (by first | (with_reducible assumption) | assumption)
                            obtain ⟨ad140, e140, hx140_0⟩ := Kd.at_int (Kd.R_reads' HO_9.out).2.2 x10_1 p140 q140
                            obtain rfl : ad138 = ad140 := (by injection e140)
                            replace p140 := eq_true p140
                            replace q140 := eq_true q140
                            have p141 : 0 ≤ (x10_1 : Int) := of_decide_eq_true (by first | (with_reducible assumption) | assumption)
                            have q141 : x10_1 < (t135.length : Int) := of_decide_eq_true (by first | (with_reducible assumption) | assumption)
                            obtain ⟨ad141, e141, hx141_0⟩ := Kd.at_int (Kd.R_reads' HO_9.out).2.2 x10_1 p141 q141
                            obtain rfl : ad138 = ad141 := (by injection e141)
                            replace p141 := eq_true p141
                            replace q141 := eq_true q141
                            have p142 : 0 ≤ ((rd t135 x10_1) : Int) := of_decide_eq_true (by first | (with_reducible assumption) | assumption)
                            have q142 : (rd t135 x10_1) < (t131.length : Int) := of_decide_eq_true (by first | (with_reducible assumption) | assumption)
                            obtain ⟨ad142, e142, hx142_0⟩ := Kd.at_bool (Kd.V_reads' HO_1.out).2.2 (rd t135 x10_1) p142 q142
                            (try rw [← Nbq23.out] at hx142_0)
                            cases e142
                            replace p142 := eq_true p142
                            replace q142 := eq_true q142
                            go_wp2
                            go_ret
                            exact ⟨by first | rfl | (simp [errW_none, errW_some] <;> rfl) | (simp [*, errW_none, errW_some] <;> rfl), by repeat (first | (with_reducible first | exact HB.out | apply below_alloc | apply pw_below_drewN | apply below_drew1) | exact HB.out)⟩
                        · rw [if_neg c22] at H
                          exact absurd H (by simp)
                      · rw [if_neg c21] at H
                        exact absurd H (by simp)
                · rw [if_neg c18] at H
                  have c18b0 : decide (0 < t134) = false := decide_eq_false c18
                  clear c18
                  have H' := Aside0.mk H
                  clear H
                  have p138 : 0 ≤ (x10_1 : Int) := of_decide_eq_true (by first | (with_reducible assumption) | assumption)
                  have q138 : x10_1 < (t135.length : Int) := of_decide_eq_true (by first | (with_reducible assumption) | assumption)
                  obtain ⟨ad138, e138, hx138_0⟩ := Kd.at_int (Kd.R_reads' HO_9.out).2.2 x10_1 p138 q138
                  cases e138
                  replace p138 := eq_true p138
                  replace q138 := eq_true q138
                  go_wp2
                  go_roundg k1
                  case measure => have := HK1.out; omega
                  case rel => exact ⟨(wrap64 (x10_1 + 1)), (by first | rfl | (simp; done) | (simp [*]; done)), H', ⟨by have := HK1.out; omega⟩, ⟨by (with_reducible repeat (first | apply Kd.V_alloc | apply Kd.V_drewN | apply Kd.V_drew)); exact HO_1.out⟩, ⟨by (with_reducible repeat (first | apply Kd.R_alloc | apply Kd.R_drewN | apply Kd.R_drew)); exact HO_9.out⟩, ⟨by repeat (first | (with_reducible first | exact HB.out | apply below_alloc | apply pw_below_drewN | apply below_drew1) | exact HB.out)⟩⟩
              · rw [if_neg c17] at H
                have c17b0 : ((rd t135 x10_1) == (-1)) = false := beq_eq_false_iff_ne.mpr c17
                have c17b1 : ((rd t135 x10_1) != (-1)) = true := bne_iff_ne.mpr c17
                obtain rfl := Option.some.inj H
                have p138 : 0 ≤ (x10_1 : Int) := of_decide_eq_true (by first | (with_reducible assumption) | assumption)
                have q138 : x10_1 < (t135.length : Int) := of_decide_eq_true (by first | (with_reducible assumption) | assumption)
                obtain ⟨ad138, e138, hx138_0⟩ := Kd.at_int (Kd.R_reads' HO_9.out).2.2 x10_1 p138 q138
                cases e138
                replace p138 := eq_true p138
                replace q138 := eq_true q138
                go_wp2
                go_ret
                exact ⟨by first | rfl | (simp [errW_none, errW_some] <;> rfl) | (simp [*, errW_none, errW_some] <;> rfl), by repeat (first | (with_reducible first | exact HB.out | apply below_alloc | apply pw_below_drewN | apply below_drew1) | exact HB.out)⟩
            · rw [if_neg c16] at H
              exact absurd H (by simp)
          · rw [if_neg c15] at H
            have c15b0 : (t134 == 0) = false := beq_eq_false_iff_ne.mpr c15
            have c15b1 : (t134 != 0) = true := bne_iff_ne.mpr c15
            by_cases c25 : t134 > 0
            · rw [if_pos c25] at H
              have c25b0 : decide (0 < t134) = true := decide_eq_true c25
              clear c25
              by_cases c26 : 0 ≤ x10_1
              · rw [if_pos c26] at H
                have c26b0 : decide (0 ≤ x10_1) = true := decide_eq_true c26
                clear c26
                by_cases c27 : (rd t135 x10_1) < 0
                · rw [if_pos c27] at H
                  have c27b0 : decide ((rd t135 x10_1) < 0) = true := decide_eq_true c27
                  clear c27
                  obtain rfl := Option.some.inj H
                  have p143 : 0 ≤ (x10_1 : Int) := of_decide_eq_true (by first | (with_reducible assumption) | assumption)
                  have q143 : x10_1 < (t135.length : Int) := of_decide_eq_true (by first | (with_reducible assumption) | assumption)
                  obtain ⟨ad143, e143, hx143_0⟩ := Kd.at_int (Kd.R_reads' HO_9.out).2.2 x10_1 p143 q143
                  cases e143
                  replace p143 := eq_true p143
                  replace q143 := eq_true q143
                  go_wp2
                  go_ret
                  exact ⟨by first | rfl | (simp [errW_none, errW_some] <;> rfl) | (simp [*, errW_none, errW_some] <;> rfl), by repeat (first | (with_reducible first | exact HB.out | apply below_alloc | apply pw_below_drewN | apply below_drew1) | exact HB.out)⟩
                · rw [if_neg c27] at H
                  have c27b0 : decide ((rd t135 x10_1) < 0) = false := decide_eq_false c27
                  clear c27
                  by_cases c28 : (rd t135 x10_1) ≥ (t131.length : Int)
                  · rw [if_pos c28] at H
                    have c28b0 : decide ((t131.length : Int) ≤ (rd t135 x10_1)) = true := decide_eq_true c28
                    clear c28
                    obtain rfl := Option.some.inj H
                    have p143 : 0 ≤ (x10_1 : Int) := of_decide_eq_true (by first | (with_reducible assumption) | assumption)
                    have q143 : x10_1 < (t135.length : Int) := of_decide_eq_true (by first | (with_reducible assumption) | assumption)
                    obtain ⟨ad143, e143, hx143_0⟩ := Kd.at_int (Kd.R_reads' HO_9.out).2.2 x10_1 p143 q143
                    cases e143
                    replace p143 := eq_true p143
                    replace q143 := eq_true q143
                    have p144 : 0 ≤ (x10_1 : Int) := of_decide_eq_true (by first | (with_reducible assumption) | assumption)
                    have q144 : x10_1 < (t135.length : Int) := of_decide_eq_true (by first | (with_reducible assumption) | assumption)
                    obtain ⟨ad144, e144, hx144_0⟩ := Kd.at_int (Kd.R_reads' HO_9.out).2.2 x10_1 p144 q144
                    obtain rfl : ad143 = ad144 := (by injection e144)
                    replace p144 := eq_true p144
                    replace q144 := eq_true q144
                    go_wp2
                    go_ret
                    exact ⟨by first | rfl | (simp [errW_none, errW_some] <;> rfl) | (simp [*, errW_none, errW_some] <;> rfl), by repeat (first | (with_reducible first | exact HB.out | apply below_alloc | apply pw_below_drewN | apply below_drew1) | exact HB.out)⟩
                  · rw [if_neg c28] at H
                    have c28b0 : decide ((t131.length : Int) ≤ (rd t135 x10_1)) = false := decide_eq_false c28
                    clear c28
                    by_cases c29 : 0 ≤ (rd t135 x10_1)
                    · rw [if_pos c29] at H
                      have c29b0 : decide (0 ≤ (rd t135 x10_1)) = true := decide_eq_true c29
                      clear c29
                      by_cases c30 : (rd t135 x10_1) < (t131.length : Int)
                      · rw [if_pos c30] at H
                        have c30b0 : decide ((rd t135 x10_1) < (t131.length : Int)) = true := decide_eq_true c30
                        clear c30
                        obtain ⟨bq31, hbq31⟩ : ∃ b_ : Bool, b_ = (rdOf false t131 (rd t135 x10_1)) := ⟨_, rfl⟩
                        replace H : (if (bq31 = true) then (tidemilllaw22_AsgnShares.l0 k1 a0 t131 t130 t134 t135 (wrap64 (x10_1 + 1))) else (some false)) = some r := by rw [← hbq31] at H; exact H
                        have Nbq31 := Aside0.mk hbq31
                        clear hbq31
                        by_cases c32 : (bq31 = true)
                        · subst c32
                          have H1 : (tidemilllaw22_AsgnShares.l0 k1 a0 t131 t130 t134 t135 (wrap64 (x10_1 + 1))) = some r := by rw [if_pos rfl] at H; exact H
                          clear H
                          have H := H1
                          clear H1
                          have H' := Aside0.mk H
                          clear H
                          have p143 : 0 ≤ (x10_1 : Int) := of_decide_eq_true (by first | (with_reducible assumption) | assumption)
                          have q143 : x10_1 < (t135.length : Int) := of_decide_eq_true (by first | (with_reducible assumption) | assumption)
                          obtain ⟨ad143, e143, hx143_0⟩ := Kd.at_int (Kd.R_reads' HO_9.out).2.2 x10_1 p143 q143
                          cases e143
                          replace p143 := eq_true p143
                          replace q143 := eq_true q143
                          have p144 : 0 ≤ (x10_1 : Int) := of_decide_eq_true (by first | (with_reducible assumption) | assumption)
                          have q144 : x10_1 < (t135.length : Int) := of_decide_eq_true (by first | (with_reducible assumption) | assumption)
                          obtain ⟨ad144, e144, hx144_0⟩ := Kd.at_int (Kd.R_reads' HO_9.out).2.2 x10_1 p144 q144
                          obtain rfl : ad143 = ad144 := (by injection e144)
                          replace p144 := eq_true p144
                          replace q144 := eq_true q144
                          have p145 : 0 ≤ (x10_1 : Int) := of_decide_eq_true (by first | (with_reducible assumption) | assumption)
                          have q145 : x10_1 < (t135.length : Int) := of_decide_eq_true (by first | (with_reducible assumption) | assumption)
                          obtain ⟨ad145, e145, hx145_0⟩ := Kd.at_int (Kd.R_reads' HO_9.out).2.2 x10_1 p145 q145
                          obtain rfl : ad143 = ad145 := (by injection e145)
                          replace p145 := eq_true p145
                          replace q145 := eq_true q145
                          have p146 : 0 ≤ ((rd t135 x10_1) : Int) := of_decide_eq_true (by first | (with_reducible assumption) | assumption)
                          have q146 : (rd t135 x10_1) < (t131.length : Int) := of_decide_eq_true (by first | (with_reducible assumption) | assumption)
                          obtain ⟨ad146, e146, hx146_0⟩ := Kd.at_bool (Kd.V_reads' HO_1.out).2.2 (rd t135 x10_1) p146 q146
                          (try rw [← Nbq31.out] at hx146_0)
                          cases e146
                          replace p146 := eq_true p146
                          replace q146 := eq_true q146
                          go_wp2
                          go_roundg k1
                          case measure => have := HK1.out; omega
                          case rel => exact ⟨(wrap64 (x10_1 + 1)), (by first | rfl | (simp; done) | (simp [*]; done)), H', ⟨by have := HK1.out; omega⟩, ⟨by (with_reducible repeat (first | apply Kd.V_alloc | apply Kd.V_drewN | apply Kd.V_drew)); exact HO_1.out⟩, ⟨by (with_reducible repeat (first | apply Kd.R_alloc | apply Kd.R_drewN | apply Kd.R_drew)); exact HO_9.out⟩, ⟨by repeat (first | (with_reducible first | exact HB.out | apply below_alloc | apply pw_below_drewN | apply below_drew1) | exact HB.out)⟩⟩
                        · replace c32 := Bool.eq_false_iff.mpr c32
                          subst c32
                          have H1 : (some false) = some r := by rw [if_neg (show ¬ (false = true) by decide)] at H; exact H
                          clear H
                          have H := H1
                          clear H1
                          obtain rfl := Option.some.inj H
                          have p143 : 0 ≤ (x10_1 : Int) := of_decide_eq_true (by first | (with_reducible assumption) | assumption)
                          have q143 : x10_1 < (t135.length : Int) := of_decide_eq_true (by first | (with_reducible assumption) | assumption)
                          obtain ⟨ad143, e143, hx143_0⟩ := Kd.at_int (Kd.R_reads' HO_9.out).2.2 x10_1 p143 q143
                          cases e143
                          replace p143 := eq_true p143
                          replace q143 := eq_true q143
                          have p144 : 0 ≤ (x10_1 : Int) := of_decide_eq_true (by first | (with_reducible assumption) | assumption)
                          have q144 : x10_1 < (t135.length : Int) := of_decide_eq_true (by first | (with_reducible assumption) | assumption)
                          obtain ⟨ad144, e144, hx144_0⟩ := Kd.at_int (Kd.R_reads' HO_9.out).2.2 x10_1 p144 q144
                          obtain rfl : ad143 = ad144 := (by injection e144)
                          replace p144 := eq_true p144
                          replace q144 := eq_true q144
                          have p145 : 0 ≤ (x10_1 : Int) := of_decide_eq_true (by first | (with_reducible assumption) | assumption)
                          have q145 : x10_1 < (t135.length : Int) := of_decide_eq_true (by first | (with_reducible assumption) | assumption)
                          obtain ⟨ad145, e145, hx145_0⟩ := Kd.at_int (Kd.R_reads' HO_9.out).2.2 x10_1 p145 q145
                          obtain rfl : ad143 = ad145 := (by injection e145)
                          replace p145 := eq_true p145
                          replace q145 := eq_true q145
                          have p146 : 0 ≤ ((rd t135 x10_1) : Int) := of_decide_eq_true (by first | (with_reducible assumption) | assumption)
                          have q146 : (rd t135 x10_1) < (t131.length : Int) := of_decide_eq_true (by first | (with_reducible assumption) | assumption)
                          obtain ⟨ad146, e146, hx146_0⟩ := Kd.at_bool (Kd.V_reads' HO_1.out).2.2 (rd t135 x10_1) p146 q146
                          (try rw [← Nbq31.out] at hx146_0)
                          cases e146
                          replace p146 := eq_true p146
                          replace q146 := eq_true q146
                          go_wp2
                          go_ret
                          exact ⟨by first | rfl | (simp [errW_none, errW_some] <;> rfl) | (simp [*, errW_none, errW_some] <;> rfl), by repeat (first | (with_reducible first | exact HB.out | apply below_alloc | apply pw_below_drewN | apply below_drew1) | exact HB.out)⟩
                      · rw [if_neg c30] at H
                        exact absurd H (by simp)
                    · rw [if_neg c29] at H
                      exact absurd H (by simp)
              · rw [if_neg c26] at H
                exact absurd H (by simp)
            · rw [if_neg c25] at H
              have c25b0 : decide (0 < t134) = false := decide_eq_false c25
              clear c25
              have H' := Aside0.mk H
              clear H
              go_wp2
              go_roundg k1
              case measure => have := HK1.out; omega
              case rel => exact ⟨(wrap64 (x10_1 + 1)), (by first | rfl | (simp; done) | (simp [*]; done)), H', ⟨by have := HK1.out; omega⟩, ⟨by (with_reducible repeat (first | apply Kd.V_alloc | apply Kd.V_drewN | apply Kd.V_drew)); exact HO_1.out⟩, ⟨by (with_reducible repeat (first | apply Kd.R_alloc | apply Kd.R_drewN | apply Kd.R_drew)); exact HO_9.out⟩, ⟨by repeat (first | (with_reducible first | exact HB.out | apply below_alloc | apply pw_below_drewN | apply below_drew1) | exact HB.out)⟩⟩
        · rw [if_neg c14] at H
          have c14b0 : decide (x10_1 < (t135.length : Int)) = false := decide_eq_false c14
          clear c14
          replace H := Option.bind_eq_some_iff.mp H
          obtain ⟨t147, A330, H⟩ := H
          replace H : (tidemilllaw22_AsgnShares.l1 k1 a0 t131 t130 t134 t135 t147 0) = some r := H
          have A33 := Aside0.mk A330
          clear A330
          have H' := Aside0.mk H
          clear H
          go_wp2_with (first | ((with_reducible refine gate_callee (f := 23) rfl ?_); refine goesL_ (some 77) rfl rfl Try.func23 (by kernel_rfl) rfl #[.int .i64 (wrap64 (a0)), .slice Ao11 t131.length co11, .slice none 0 0] rfl (by (try simp only [List.map_toArray, List.map_cons, List.map_nil]); first | done | rfl | (simp only [List.length_drop, List.length_take]; rfl)) ?_; (refine (asgn_Assign.calls (wrap64 (a0)) _ _ t131 _ _ ([] : List Int) t147 _ ?side1 ?side2 ?side3 ?side4 A33.out).mono ?_); (case side1 => repeat (first | exact (Kd.V_reads' HO_1.out).2.2 | (with_reducible refine Kd.C_alloc ?_ _) | (with_reducible refine Kd.C_drewN ?_ _) | (with_reducible refine Kd.C_drew ?_))); (case side2 => exact (Kd.V_reads' HO_1.out).2.1); (case side3 => exact Kd.C_nil _ _); (case side4 => exact Nat.le_refl _); rintro e w34 ⟨v148, rfl, ho0, hb⟩; refine ⟨_, rfl, ?_⟩; have n0_ := Aside0.mk (Kd.V_elder' (by (with_reducible repeat (first | apply Kd.V_alloc | apply Kd.V_drewN | apply Kd.V_drew)); exact HO_1.out) (Kd.R_base ho0) hb); have n1_ := Aside0.mk (Kd.R_elder' (by (with_reducible repeat (first | apply Kd.R_alloc | apply Kd.R_drewN | apply Kd.R_drew)); exact HO_9.out) (Kd.R_base ho0) hb); have n2_ := Aside0.mk (Kd.R_lower (Kd.R_new' ho0 (Kd.R_lt (by (with_reducible repeat (first | apply Kd.R_alloc | apply Kd.R_drewN | apply Kd.R_drew)); exact HO_9.out))) (below_size (by repeat (first | (with_reducible first | exact HB.out | apply below_alloc | apply pw_below_drewN | apply below_drew1) | exact HB.out)))); have n3_ := Aside0.mk (below_step (by repeat (first | (with_reducible first | exact HB.out | apply below_alloc | apply pw_below_drewN | apply below_drew1) | exact HB.out)) hb); clear HO_1; clear HO_9; clear HB; have HO_1 := n0_; have HO_9 := n1_; have HO149 := n2_; have HB := n3_; clear n0_ n1_ n2_ n3_; (try clear hb); (try clear hb2); (try clear hk); (try clear hi); (try clear ho0)))
          go_loopg [12] k1 (fun kq v12 w' => ∃ (x12_2 : Int), v12 = .int .i64 x12_2 ∧ Aside0 (tidemilllaw22_AsgnShares.l1 kq a0 t131 t130 t134 t135 t147 x12_2 = some r) ∧ Aside0 (kq ≤ k1) ∧ Aside0 (Kd.V Kd.bool 4 w' w.heap.size (fun k_ => some k_ ≠ ((.slice Ao13 t135.length co13) : Value).ownBlock ∧ some k_ ≠ (v148 : Value).ownBlock) (.slice Ao11 t131.length co11) t131) ∧ Aside0 (Kd.R (Kd.int .i64) 3 w' w.heap.size (fun k_ => some k_ ≠ (v148 : Value).ownBlock) (.slice Ao13 t135.length co13) t135) ∧ Aside0 (Kd.R (Kd.int .i64) 3 w' w.heap.size (fun k_ => some k_ ≠ ((.slice Ao13 t135.length co13) : Value).ownBlock) v148 t147) ∧ Aside0 (Below w.heap.size w w'))
          case atStart => exact ⟨(0), (by first | rfl | (simp; done) | (simp [*]; done)), H', ⟨Nat.le_refl _⟩, ⟨by (with_reducible repeat (first | apply Kd.V_alloc | apply Kd.V_drewN | apply Kd.V_drew)); exact HO_1.out⟩, ⟨by (with_reducible repeat (first | apply Kd.R_alloc | apply Kd.R_drewN | apply Kd.R_drew)); exact Kd.R_mono HO_9.out (fun _ hk => hk.2)⟩, ⟨by (with_reducible repeat (first | apply Kd.R_alloc | apply Kd.R_drewN | apply Kd.R_drew)); exact Kd.R_mono HO149.out (fun _ hk => hk.2)⟩, ⟨by repeat (first | (with_reducible first | exact HB.out | apply below_alloc | apply pw_below_drewN | apply below_drew1) | exact HB.out)⟩⟩
          case round =>
            clear H'
            try clear c1
            try clear p1
            try clear q1
            try clear hx1
            try clear c2
            try clear p2
            try clear q2
            try clear c3
            try clear q3
            try clear c6
            try clear p6
            try clear c8
            try clear c8b0
            try clear c8b1
            try clear p13
            try clear q13
            try clear hx13
            try clear c14
            try clear c14b0
            try clear p14
            try clear q14
            try clear hx14
            try clear c15
            try clear c15b0
            try clear c15b1
            try clear c16
            try clear c16b0
            try clear c17
            try clear c17b0
            try clear c17b1
            try clear c18
            try clear c18b0
            try clear c19
            try clear c19b0
            try clear c20
            try clear c20b0
            try clear c21
            try clear c21b0
            try clear c22
            try clear c22b0
            try clear c23
            try clear q23
            try clear c24
            try clear c25
            try clear c25b0
            try clear c26
            try clear c26b0
            try clear c27
            try clear c27b0
            try clear c28
            try clear c28b0
            try clear c29
            try clear c29b0
            try clear c30
            try clear c30b0
            try clear q31
            try clear c32
            try clear hx138_0
            try clear hx139_0
            try clear hx140_0
            try clear hx141_0
            try clear hx142_0
            try clear hx143_0
            try clear hx144_0
            try clear hx145_0
            try clear hx146_0
            try clear p138
            try clear p139
            try clear p140
            try clear p141
            try clear p142
            try clear p143
            try clear p144
            try clear p145
            try clear p146
            try clear p2
            try clear p6
            try clear q138
            try clear q139
            try clear q140
            try clear q141
            try clear q142
            try clear q143
            try clear q144
            try clear q145
            try clear q146
            obtain ⟨x12_2, rfl, HA, HK2, HO_1, HO_9, HO_11, HB⟩ := hrel
            cases gk with
            | zero => exact absurd HA.out (by simp [tidemilllaw22_AsgnShares.l1])
            | succ k2 =>
              have H := HA.out
              clear HA
              simp only [tidemilllaw22_AsgnShares.l1] at H
              by_cases c35 : x12_2 < (t131.length : Int)
              · rw [if_pos c35] at H
                have c35b0 : decide (x12_2 < (t131.length : Int)) = true := decide_eq_true c35
                clear c35
                have HC36 := Aside0.mk H
                clear H
                go_upto_region 16 with (fail)
                go_cut [95] (fun v95 wc => ∃ (kq : Nat) (x95_35 : Bool), v95 = .bool x95_35 ∧ Aside0 (tidemilllaw22_AsgnShares.j2 kq a0 t131 t130 t134 t135 t147 x12_2 x95_35 = some r) ∧ Aside0 (kq ≤ k2) ∧ Aside0 (Kd.V Kd.bool 4 wc w.heap.size (fun k_ => some k_ ≠ ((.slice Ao13 t135.length co13) : Value).ownBlock ∧ some k_ ≠ (v148 : Value).ownBlock) (.slice Ao11 t131.length co11) t131) ∧ Aside0 (Kd.R (Kd.int .i64) 3 wc w.heap.size (fun k_ => some k_ ≠ (v148 : Value).ownBlock) (.slice Ao13 t135.length co13) t135) ∧ Aside0 (Kd.R (Kd.int .i64) 3 wc w.heap.size (fun k_ => some k_ ≠ ((.slice Ao13 t135.length co13) : Value).ownBlock) v148 t147) ∧ Aside0 (Below w.heap.size w wc))
                case first =>
                  have H := HC36.out
                  clear HC36
                  by_cases c37 : t134 > 0
                  · rw [if_pos c37] at H
                    have c37b0 : decide (0 < t134) = true := decide_eq_true c37
                    clear c37
                    (first | rw [c37b0] | (simp only [i64_w, i32_w]; rw [c37b0]) | skip)
                    replace H := Option.bind_eq_some_iff.mp H
                    obtain ⟨t150, A380, H⟩ := H
                    replace H : ((tidemillref22_Share.f k2 (wrap64 (a0)) t134).bind fun t151 => (tidemilllaw22_AsgnShares.j2 k2 a0 t131 t130 t134 t135 t147 x12_2 (decide (t150 > t151)))) = some r := H
                    have A38 := Aside0.mk A380
                    clear A380
                    replace H := Option.bind_eq_some_iff.mp H
                    obtain ⟨t151, A390, H⟩ := H
                    replace H : (tidemilllaw22_AsgnShares.j2 k2 a0 t131 t130 t134 t135 t147 x12_2 (decide (t150 > t151))) = some r := H
                    have A39 := Aside0.mk A390
                    clear A390
                    have H' := Aside0.mk H
                    clear H
                    go_wp2_with (first | (go_at_call 26; (with_reducible refine (tidemillref22_Count.calls k2 _ _ t135 x12_2 t150 _ ?side1 ?side2 A38.out).mono ?_); (case side1 => repeat (first | exact (Kd.R_reads' HO_9.out).2.2 | (with_reducible refine Kd.C_alloc ?_ _) | (with_reducible refine Kd.C_drewN ?_ _) | (with_reducible refine Kd.C_drew ?_))); (case side2 => exact (Kd.R_reads' HO_9.out).2.1); rintro e w' ⟨rfl, ⟨nd, rfl⟩⟩) | (go_at_call 27; (with_reducible refine (tidemillref22_Share.calls k2 (wrap64 (a0)) t134 t151 _ A39.out).mono ?_); rintro e w' ⟨rfl, ⟨nd, rfl⟩⟩))
                    go_meet
                    case rel => exact ⟨_, (decide (t150 > t151)), (by first | rfl | (simp; done) | (simp [*]; done)), H', ⟨by have := HK1.out; have := HK2.out; first | omega | exact Nat.le_refl _⟩, ⟨by (with_reducible repeat (first | apply Kd.V_alloc | apply Kd.V_drewN | apply Kd.V_drew)); exact HO_1.out⟩, ⟨by (with_reducible repeat (first | apply Kd.R_alloc | apply Kd.R_drewN | apply Kd.R_drew)); exact HO_9.out⟩, ⟨by (with_reducible repeat (first | apply Kd.R_alloc | apply Kd.R_drewN | apply Kd.R_drew)); exact HO_11.out⟩, ⟨by repeat (first | (with_reducible first | exact HB.out | apply below_alloc | apply pw_below_drewN | apply below_drew1) | exact HB.out)⟩⟩
                  · rw [if_neg c37] at H
                    have c37b0 : decide (0 < t134) = false := decide_eq_false c37
                    clear c37
                    (first | rw [c37b0] | (simp only [i64_w, i32_w]; rw [c37b0]) | skip)
                    have H' := Aside0.mk H
                    clear H
                    go_wp2
                    go_meet
                    case rel => exact ⟨_, (false), (by first | rfl | (simp; done) | (simp [*]; done)), H', ⟨by have := HK1.out; have := HK2.out; first | omega | exact Nat.le_refl _⟩, ⟨by (with_reducible repeat (first | apply Kd.V_alloc | apply Kd.V_drewN | apply Kd.V_drew)); exact HO_1.out⟩, ⟨by (with_reducible repeat (first | apply Kd.R_alloc | apply Kd.R_drewN | apply Kd.R_drew)); exact HO_9.out⟩, ⟨by (with_reducible repeat (first | apply Kd.R_alloc | apply Kd.R_drewN | apply Kd.R_drew)); exact HO_11.out⟩, ⟨by repeat (first | (with_reducible first | exact HB.out | apply below_alloc | apply pw_below_drewN | apply below_drew1) | exact HB.out)⟩⟩
                case rest =>
                  clear HC36
                  try clear c1
                  try clear p1
                  try clear q1
                  try clear hx1
                  try clear c2
                  try clear p2
                  try clear q2
                  try clear c3
                  try clear q3
                  try clear c6
                  try clear p6
                  try clear c8
                  try clear c8b0
                  try clear c8b1
                  try clear p13
                  try clear q13
                  try clear hx13
                  try clear c14
                  try clear c14b0
                  try clear p14
                  try clear q14
                  try clear hx14
                  try clear c15
                  try clear c15b0
                  try clear c15b1
                  try clear c16
                  try clear c16b0
                  try clear c17
                  try clear c17b0
                  try clear c17b1
                  try clear c18
                  try clear c18b0
                  try clear c19
                  try clear c19b0
                  try clear c20
                  try clear c20b0
                  try clear c21
                  try clear c21b0
                  try clear c22
                  try clear c22b0
                  try clear c23
                  try clear q23
                  try clear c24
                  try clear c25
                  try clear c25b0
                  try clear c26
                  try clear c26b0
                  try clear c27
                  try clear c27b0
                  try clear c28
                  try clear c28b0
                  try clear c29
                  try clear c29b0
                  try clear c30
                  try clear c30b0
                  try clear q31
                  try clear c32
                  try clear c35
                  try clear c35b0
                  try clear c37
                  try clear c37b0
                  try clear hx138_0
                  try clear hx139_0
                  try clear hx140_0
                  try clear hx141_0
                  try clear hx142_0
                  try clear hx143_0
                  try clear hx144_0
                  try clear hx145_0
                  try clear hx146_0
                  try clear p1
                  try clear p13
                  try clear p138
                  try clear p139
                  try clear p14
                  try clear p140
                  try clear p141
                  try clear p142
                  try clear p143
                  try clear p144
                  try clear p145
                  try clear p146
                  try clear p2
                  try clear p6
                  try clear q1
                  try clear q13
                  try clear q138
                  try clear q139
                  try clear q14
                  try clear q140
                  try clear q141
                  try clear q142
                  try clear q143
                  try clear q144
                  try clear q145
                  try clear q146
                  try clear q2
                  try clear q23
                  try clear q3
                  try clear q31
                  obtain ⟨kq, x95_35, rfl, HA, HJ35, HO_1, HO_9, HO_11, HB⟩ := hcut
                  cases kq with
                  | zero => exact absurd HA.out (by simp [tidemilllaw22_AsgnShares.j2])
                  | succ kj35 =>
                    have H := HA.out
                    clear HA
                    simp only [tidemilllaw22_AsgnShares.j2] at H
                    by_cases c40 : x95_35 = true
                    · subst c40
                      have H1 : (some false) = some r := by rw [if_pos rfl] at H; exact H
                      clear H
                      have H := H1
                      clear H1
                      obtain rfl := Option.some.inj H
                      go_wp2
                      go_ret
                      exact ⟨by first | rfl | (simp [errW_none, errW_some] <;> rfl) | (simp [*, errW_none, errW_some] <;> rfl), by repeat (first | (with_reducible first | exact HB.out | apply below_alloc | apply pw_below_drewN | apply below_drew1) | exact HB.out)⟩
                    · replace c40 := Bool.eq_false_iff.mpr c40
                      subst c40
                      have H1 : (tidemilllaw22_AsgnShares.l2 kj35 a0 t131 t130 t134 t135 t147 x12_2 0) = some r := by rw [if_neg (show ¬ (false = true) by decide)] at H; exact H
                      clear H
                      have H := H1
                      clear H1
                      have H' := Aside0.mk H
                      clear H
                      go_wp2
                      go_loopg [13] kj35 (fun kq v13 w' => ∃ (x13_4 : Int), v13 = .int .i64 x13_4 ∧ Aside0 (tidemilllaw22_AsgnShares.l2 kq a0 t131 t130 t134 t135 t147 x12_2 x13_4 = some r) ∧ Aside0 (kq ≤ kj35) ∧ Aside0 (Kd.V Kd.bool 4 w' w.heap.size (fun k_ => some k_ ≠ ((.slice Ao13 t135.length co13) : Value).ownBlock ∧ some k_ ≠ (v148 : Value).ownBlock) (.slice Ao11 t131.length co11) t131) ∧ Aside0 (Kd.R (Kd.int .i64) 3 w' w.heap.size (fun k_ => some k_ ≠ (v148 : Value).ownBlock) (.slice Ao13 t135.length co13) t135) ∧ Aside0 (Kd.R (Kd.int .i64) 3 w' w.heap.size (fun k_ => some k_ ≠ ((.slice Ao13 t135.length co13) : Value).ownBlock) v148 t147) ∧ Aside0 (Below w.heap.size w w'))
                      case atStart => exact ⟨(0), (by first | rfl | (simp; done) | (simp [*]; done)), H', ⟨Nat.le_refl _⟩, ⟨by (with_reducible repeat (first | apply Kd.V_alloc | apply Kd.V_drewN | apply Kd.V_drew)); exact HO_1.out⟩, ⟨by (with_reducible repeat (first | apply Kd.R_alloc | apply Kd.R_drewN | apply Kd.R_drew)); exact HO_9.out⟩, ⟨by (with_reducible repeat (first | apply Kd.R_alloc | apply Kd.R_drewN | apply Kd.R_drew)); exact HO_11.out⟩, ⟨by repeat (first | (with_reducible first | exact HB.out | apply below_alloc | apply pw_below_drewN | apply below_drew1) | exact HB.out)⟩⟩
                      case round =>
                        clear H'
                        try clear c1
                        try clear p1
                        try clear q1
                        try clear hx1
                        try clear c2
                        try clear p2
                        try clear q2
                        try clear c3
                        try clear q3
                        try clear c4
                        try clear c6
                        try clear p6
                        try clear c8
                        try clear c8b0
                        try clear c8b1
                        try clear p13
                        try clear q13
                        try clear hx13
                        try clear c14
                        try clear c14b0
                        try clear p14
                        try clear q14
                        try clear hx14
                        try clear c15
                        try clear c15b0
                        try clear c15b1
                        try clear c16
                        try clear c16b0
                        try clear c17
                        try clear c17b0
                        try clear c17b1
                        try clear c18
                        try clear c18b0
                        try clear c19
                        try clear c19b0
                        try clear c20
                        try clear c20b0
                        try clear c21
                        try clear c21b0
                        try clear c22
                        try clear c22b0
                        try clear c23
                        try clear q23
                        try clear c24
                        try clear c25
                        try clear c25b0
                        try clear c26
                        try clear c26b0
                        try clear c27
                        try clear c27b0
                        try clear c28
                        try clear c28b0
                        try clear c29
                        try clear c29b0
                        try clear c30
                        try clear c30b0
                        try clear q31
                        try clear c32
                        try clear c35
                        try clear c35b0
                        try clear c37
                        try clear c37b0
                        try clear c40
                        try clear hx138_0
                        try clear hx139_0
                        try clear hx140_0
                        try clear hx141_0
                        try clear hx142_0
                        try clear hx143_0
                        try clear hx144_0
                        try clear hx145_0
                        try clear hx146_0
                        try clear p1
                        try clear p13
                        try clear p138
                        try clear p139
                        try clear p14
                        try clear p140
                        try clear p141
                        try clear p142
                        try clear p143
                        try clear p144
                        try clear p145
                        try clear p146
                        try clear p2
                        try clear p6
                        try clear q1
                        try clear q13
                        try clear q138
                        try clear q139
                        try clear q14
                        try clear q140
                        try clear q141
                        try clear q142
                        try clear q143
                        try clear q144
                        try clear q145
                        try clear q146
                        try clear q2
                        try clear q23
                        try clear q3
                        try clear q31
                        obtain ⟨x13_4, rfl, HA, HK4, HO_1, HO_9, HO_11, HB⟩ := hrel
                        cases gk with
                        | zero => exact absurd HA.out (by simp [tidemilllaw22_AsgnShares.l2])
                        | succ k4 =>
                          have H := HA.out
                          clear HA
                          simp only [tidemilllaw22_AsgnShares.l2] at H
                          by_cases c41 : x13_4 < (t131.length : Int)
                          · rw [if_pos c41] at H
                            have c41b0 : decide (x13_4 < (t131.length : Int)) = true := decide_eq_true c41
                            clear c41
                            by_cases c42 : 0 ≤ x12_2
                            · rw [if_pos c42] at H
                              have c42b0 : decide (0 ≤ x12_2) = true := decide_eq_true c42
                              clear c42
                              by_cases c43 : x12_2 < (t131.length : Int)
                              · rw [if_pos c43] at H
                                have c43b0 : decide (x12_2 < (t131.length : Int)) = true := decide_eq_true c43
                                clear c43
                                obtain ⟨bq44, hbq44⟩ : ∃ b_ : Bool, b_ = (rdOf false t131 x12_2) := ⟨_, rfl⟩
                                replace H : (if bq44 = true then (if 0 ≤ x13_4 then (if rdOf false t131 x13_4 = true then ((tidemillref22_Count.f k4 t147 x12_2).bind fun t154 => ((tidemillref22_Count.f k4 t147 x13_4).bind fun t155 => (if t154 > (wrap64 (t155 + 1)) then (some false) else (tidemilllaw22_AsgnShares.l2 k4 a0 t131 t130 t134 t135 t147 x12_2 (wrap64 (x13_4 + 1)))))) else (tidemilllaw22_AsgnShares.l2 k4 a0 t131 t130 t134 t135 t147 x12_2 (wrap64 (x13_4 + 1)))) else (none)) else (tidemilllaw22_AsgnShares.l2 k4 a0 t131 t130 t134 t135 t147 x12_2 (wrap64 (x13_4 + 1)))) = some r := by rw [← hbq44] at H; exact H
                                have Nbq44 := Aside0.mk hbq44
                                clear hbq44
                                by_cases c45 : bq44 = true
                                · subst c45
                                  have H1 : (if 0 ≤ x13_4 then (if rdOf false t131 x13_4 = true then ((tidemillref22_Count.f k4 t147 x12_2).bind fun t154 => ((tidemillref22_Count.f k4 t147 x13_4).bind fun t155 => (if t154 > (wrap64 (t155 + 1)) then (some false) else (tidemilllaw22_AsgnShares.l2 k4 a0 t131 t130 t134 t135 t147 x12_2 (wrap64 (x13_4 + 1)))))) else (tidemilllaw22_AsgnShares.l2 k4 a0 t131 t130 t134 t135 t147 x12_2 (wrap64 (x13_4 + 1)))) else (none)) = some r := by rw [if_pos rfl] at H; exact H
                                  clear H
                                  have H := H1
                                  clear H1
                                  by_cases c46 : 0 ≤ x13_4
                                  · rw [if_pos c46] at H
                                    have c46b0 : decide (0 ≤ x13_4) = true := decide_eq_true c46
                                    clear c46
                                    obtain ⟨bq47, hbq47⟩ : ∃ b_ : Bool, b_ = (rdOf false t131 x13_4) := ⟨_, rfl⟩
                                    replace H : (if bq47 = true then ((tidemillref22_Count.f k4 t147 x12_2).bind fun t154 => ((tidemillref22_Count.f k4 t147 x13_4).bind fun t155 => (if t154 > (wrap64 (t155 + 1)) then (some false) else (tidemilllaw22_AsgnShares.l2 k4 a0 t131 t130 t134 t135 t147 x12_2 (wrap64 (x13_4 + 1)))))) else (tidemilllaw22_AsgnShares.l2 k4 a0 t131 t130 t134 t135 t147 x12_2 (wrap64 (x13_4 + 1)))) = some r := by rw [← hbq47] at H; exact H
                                    have Nbq47 := Aside0.mk hbq47
                                    clear hbq47
                                    by_cases c48 : bq47 = true
                                    · subst c48
                                      have H1 : ((tidemillref22_Count.f k4 t147 x12_2).bind fun t154 => ((tidemillref22_Count.f k4 t147 x13_4).bind fun t155 => (if t154 > (wrap64 (t155 + 1)) then (some false) else (tidemilllaw22_AsgnShares.l2 k4 a0 t131 t130 t134 t135 t147 x12_2 (wrap64 (x13_4 + 1)))))) = some r := by rw [if_pos rfl] at H; exact H
                                      clear H
                                      have H := H1
                                      clear H1
                                      replace H := Option.bind_eq_some_iff.mp H
                                      obtain ⟨t154, A490, H⟩ := H
                                      replace H : ((tidemillref22_Count.f k4 t147 x13_4).bind fun t155 => (if t154 > (wrap64 (t155 + 1)) then (some false) else (tidemilllaw22_AsgnShares.l2 k4 a0 t131 t130 t134 t135 t147 x12_2 (wrap64 (x13_4 + 1))))) = some r := H
                                      have A49 := Aside0.mk A490
                                      clear A490
                                      replace H := Option.bind_eq_some_iff.mp H
                                      obtain ⟨t155, A500, H⟩ := H
                                      replace H : (if t154 > (wrap64 (t155 + 1)) then (some false) else (tidemilllaw22_AsgnShares.l2 k4 a0 t131 t130 t134 t135 t147 x12_2 (wrap64 (x13_4 + 1)))) = some r := H
                                      have A50 := Aside0.mk A500
                                      clear A500
                                      by_cases c51 : t154 > (wrap64 (t155 + 1))
                                      · rw [if_pos c51] at H
                                        have c51b0 : decide ((wrap64 (t155 + 1)) < t154) = true := decide_eq_true c51
                                        clear c51
                                        obtain rfl := Option.some.inj H
                                        have p152 : 0 ≤ (x12_2 : Int) := of_decide_eq_true (by first | (with_reducible assumption) | assumption)
                                        have q152 : x12_2 < (t131.length : Int) := of_decide_eq_true (by first | (with_reducible assumption) | assumption)
                                        obtain ⟨ad152, e152, hx152_0⟩ := Kd.at_bool (Kd.V_reads' HO_1.out).2.2 x12_2 p152 q152
                                        (try rw [← Nbq44.out] at hx152_0)
                                        (try rw [← Nbq47.out] at hx152_0)
                                        cases e152
                                        replace p152 := eq_true p152
                                        replace q152 := eq_true q152
                                        have p153 : 0 ≤ (x13_4 : Int) := of_decide_eq_true (by first | (with_reducible assumption) | assumption)
                                        have q153 : x13_4 < (t131.length : Int) := of_decide_eq_true (by first | (with_reducible assumption) | assumption)
                                        obtain ⟨ad153, e153, hx153_0⟩ := Kd.at_bool (Kd.V_reads' HO_1.out).2.2 x13_4 p153 q153
                                        (try rw [← Nbq44.out] at hx153_0)
                                        (try rw [← Nbq47.out] at hx153_0)
                                        obtain rfl : ad152 = ad153 := (by injection e153)
                                        replace p153 := eq_true p153
                                        replace q153 := eq_true q153
                                        obtain ⟨Ao52, co52, eo52⟩ := Kd.R_slice HO_11.out
                                        subst eo52
                                        go_wp2_with (first | (go_at_call 26; (with_reducible refine (tidemillref22_Count.calls k4 _ _ t147 x12_2 t154 _ ?side1 ?side2 A49.out).mono ?_); (case side1 => repeat (first | exact (Kd.R_reads' HO_11.out).2.2 | (with_reducible refine Kd.C_alloc ?_ _) | (with_reducible refine Kd.C_drewN ?_ _) | (with_reducible refine Kd.C_drew ?_))); (case side2 => exact (Kd.R_reads' HO_11.out).2.1); rintro e w' ⟨rfl, ⟨nd, rfl⟩⟩) | (go_at_call 26; (with_reducible refine (tidemillref22_Count.calls k4 _ _ t147 x13_4 t155 _ ?side1 ?side2 A50.out).mono ?_); (case side1 => repeat (first | exact (Kd.R_reads' HO_11.out).2.2 | (with_reducible refine Kd.C_alloc ?_ _) | (with_reducible refine Kd.C_drewN ?_ _) | (with_reducible refine Kd.C_drew ?_))); (case side2 => exact (Kd.R_reads' HO_11.out).2.1); rintro e w' ⟨rfl, ⟨nd, rfl⟩⟩))
                                        go_ret
                                        exact ⟨by first | rfl | (simp [errW_none, errW_some] <;> rfl) | (simp [*, errW_none, errW_some] <;> rfl), by repeat (first | (with_reducible first | exact HB.out | apply below_alloc | apply pw_below_drewN | apply below_drew1) | exact HB.out)⟩
                                      · rw [if_neg c51] at H
                                        have c51b0 : decide ((wrap64 (t155 + 1)) < t154) = false := decide_eq_false c51
                                        clear c51
                                        have H' := Aside0.mk H
                                        clear H
                                        have p152 : 0 ≤ (x12_2 : Int) := of_decide_eq_true (by first | (with_reducible assumption) | assumption)
                                        have q152 : x12_2 < (t131.length : Int) := of_decide_eq_true (by first | (with_reducible assumption) | assumption)
                                        obtain ⟨ad152, e152, hx152_0⟩ := Kd.at_bool (Kd.V_reads' HO_1.out).2.2 x12_2 p152 q152
                                        (try rw [← Nbq44.out] at hx152_0)
                                        (try rw [← Nbq47.out] at hx152_0)
                                        cases e152
                                        replace p152 := eq_true p152
                                        replace q152 := eq_true q152
                                        have p153 : 0 ≤ (x13_4 : Int) := of_decide_eq_true (by first | (with_reducible assumption) | assumption)
                                        have q153 : x13_4 < (t131.length : Int) := of_decide_eq_true (by first | (with_reducible assumption) | assumption)
                                        obtain ⟨ad153, e153, hx153_0⟩ := Kd.at_bool (Kd.V_reads' HO_1.out).2.2 x13_4 p153 q153
                                        (try rw [← Nbq44.out] at hx153_0)
                                        (try rw [← Nbq47.out] at hx153_0)
                                        obtain rfl : ad152 = ad153 := (by injection e153)
                                        replace p153 := eq_true p153
                                        replace q153 := eq_true q153
                                        obtain ⟨Ao53, co53, eo53⟩ := Kd.R_slice HO_11.out
                                        subst eo53
                                        go_wp2_with (first | (go_at_call 26; (with_reducible refine (tidemillref22_Count.calls k4 _ _ t147 x12_2 t154 _ ?side1 ?side2 A49.out).mono ?_); (case side1 => repeat (first | exact (Kd.R_reads' HO_11.out).2.2 | (with_reducible refine Kd.C_alloc ?_ _) | (with_reducible refine Kd.C_drewN ?_ _) | (with_reducible refine Kd.C_drew ?_))); (case side2 => exact (Kd.R_reads' HO_11.out).2.1); rintro e w' ⟨rfl, ⟨nd, rfl⟩⟩) | (go_at_call 26; (with_reducible refine (tidemillref22_Count.calls k4 _ _ t147 x13_4 t155 _ ?side1 ?side2 A50.out).mono ?_); (case side1 => repeat (first | exact (Kd.R_reads' HO_11.out).2.2 | (with_reducible refine Kd.C_alloc ?_ _) | (with_reducible refine Kd.C_drewN ?_ _) | (with_reducible refine Kd.C_drew ?_))); (case side2 => exact (Kd.R_reads' HO_11.out).2.1); rintro e w' ⟨rfl, ⟨nd, rfl⟩⟩))
                                        go_roundg k4
                                        case measure => have := HK1.out; have := HK2.out; have := HJ35.out; have := HK4.out; omega
                                        case rel => exact ⟨(wrap64 (x13_4 + 1)), (by first | rfl | (simp; done) | (simp [*]; done)), H', ⟨by have := HK1.out; have := HK2.out; have := HJ35.out; have := HK4.out; omega⟩, ⟨by (with_reducible repeat (first | apply Kd.V_alloc | apply Kd.V_drewN | apply Kd.V_drew)); exact HO_1.out⟩, ⟨by (with_reducible repeat (first | apply Kd.R_alloc | apply Kd.R_drewN | apply Kd.R_drew)); exact HO_9.out⟩, ⟨by (with_reducible repeat (first | apply Kd.R_alloc | apply Kd.R_drewN | apply Kd.R_drew)); exact HO_11.out⟩, ⟨by repeat (first | (with_reducible first | exact HB.out | apply below_alloc | apply pw_below_drewN | apply below_drew1) | exact HB.out)⟩⟩
                                    · replace c48 := Bool.eq_false_iff.mpr c48
                                      subst c48
                                      have H1 : (tidemilllaw22_AsgnShares.l2 k4 a0 t131 t130 t134 t135 t147 x12_2 (wrap64 (x13_4 + 1))) = some r := by rw [if_neg (show ¬ (false = true) by decide)] at H; exact H
                                      clear H
                                      have H := H1
                                      clear H1
                                      have H' := Aside0.mk H
                                      clear H
                                      have p152 : 0 ≤ (x12_2 : Int) := of_decide_eq_true (by first | (with_reducible assumption) | assumption)
                                      have q152 : x12_2 < (t131.length : Int) := of_decide_eq_true (by first | (with_reducible assumption) | assumption)
                                      obtain ⟨ad152, e152, hx152_0⟩ := Kd.at_bool (Kd.V_reads' HO_1.out).2.2 x12_2 p152 q152
                                      (try rw [← Nbq44.out] at hx152_0)
                                      (try rw [← Nbq47.out] at hx152_0)
                                      cases e152
                                      replace p152 := eq_true p152
                                      replace q152 := eq_true q152
                                      have p153 : 0 ≤ (x13_4 : Int) := of_decide_eq_true (by first | (with_reducible assumption) | assumption)
                                      have q153 : x13_4 < (t131.length : Int) := of_decide_eq_true (by first | (with_reducible assumption) | assumption)
                                      obtain ⟨ad153, e153, hx153_0⟩ := Kd.at_bool (Kd.V_reads' HO_1.out).2.2 x13_4 p153 q153
                                      (try rw [← Nbq44.out] at hx153_0)
                                      (try rw [← Nbq47.out] at hx153_0)
                                      obtain rfl : ad152 = ad153 := (by injection e153)
                                      replace p153 := eq_true p153
                                      replace q153 := eq_true q153
                                      go_wp2
                                      go_roundg k4
                                      case measure => have := HK1.out; have := HK2.out; have := HJ35.out; have := HK4.out; omega
                                      case rel => exact ⟨(wrap64 (x13_4 + 1)), (by first | rfl | (simp; done) | (simp [*]; done)), H', ⟨by have := HK1.out; have := HK2.out; have := HJ35.out; have := HK4.out; omega⟩, ⟨by (with_reducible repeat (first | apply Kd.V_alloc | apply Kd.V_drewN | apply Kd.V_drew)); exact HO_1.out⟩, ⟨by (with_reducible repeat (first | apply Kd.R_alloc | apply Kd.R_drewN | apply Kd.R_drew)); exact HO_9.out⟩, ⟨by (with_reducible repeat (first | apply Kd.R_alloc | apply Kd.R_drewN | apply Kd.R_drew)); exact HO_11.out⟩, ⟨by repeat (first | (with_reducible first | exact HB.out | apply below_alloc | apply pw_below_drewN | apply below_drew1) | exact HB.out)⟩⟩
                                  · rw [if_neg c46] at H
                                    exact absurd H (by simp)
                                · replace c45 := Bool.eq_false_iff.mpr c45
                                  subst c45
                                  have H1 : (tidemilllaw22_AsgnShares.l2 k4 a0 t131 t130 t134 t135 t147 x12_2 (wrap64 (x13_4 + 1))) = some r := by rw [if_neg (show ¬ (false = true) by decide)] at H; exact H
                                  clear H
                                  have H := H1
                                  clear H1
                                  have H' := Aside0.mk H
                                  clear H
                                  have p152 : 0 ≤ (x12_2 : Int) := of_decide_eq_true (by first | (with_reducible assumption) | assumption)
                                  have q152 : x12_2 < (t131.length : Int) := of_decide_eq_true (by first | (with_reducible assumption) | assumption)
                                  obtain ⟨ad152, e152, hx152_0⟩ := Kd.at_bool (Kd.V_reads' HO_1.out).2.2 x12_2 p152 q152
                                  (try rw [← Nbq44.out] at hx152_0)
                                  cases e152
                                  replace p152 := eq_true p152
                                  replace q152 := eq_true q152
                                  go_wp2
                                  go_roundg k4
                                  case measure => have := HK1.out; have := HK2.out; have := HJ35.out; have := HK4.out; omega
                                  case rel => exact ⟨(wrap64 (x13_4 + 1)), (by first | rfl | (simp; done) | (simp [*]; done)), H', ⟨by have := HK1.out; have := HK2.out; have := HJ35.out; have := HK4.out; omega⟩, ⟨by (with_reducible repeat (first | apply Kd.V_alloc | apply Kd.V_drewN | apply Kd.V_drew)); exact HO_1.out⟩, ⟨by (with_reducible repeat (first | apply Kd.R_alloc | apply Kd.R_drewN | apply Kd.R_drew)); exact HO_9.out⟩, ⟨by (with_reducible repeat (first | apply Kd.R_alloc | apply Kd.R_drewN | apply Kd.R_drew)); exact HO_11.out⟩, ⟨by repeat (first | (with_reducible first | exact HB.out | apply below_alloc | apply pw_below_drewN | apply below_drew1) | exact HB.out)⟩⟩
                              · rw [if_neg c43] at H
                                exact absurd H (by simp)
                            · rw [if_neg c42] at H
                              exact absurd H (by simp)
                          · rw [if_neg c41] at H
                            have c41b0 : decide (x13_4 < (t131.length : Int)) = false := decide_eq_false c41
                            clear c41
                            have H' := Aside0.mk H
                            clear H
                            go_wp2
                            go_roundg k4
                            case measure => have := HK1.out; have := HK2.out; have := HJ35.out; have := HK4.out; omega
                            case rel => exact ⟨(wrap64 (x12_2 + 1)), (by first | rfl | (simp; done) | (simp [*]; done)), H', ⟨by have := HK1.out; have := HK2.out; have := HJ35.out; have := HK4.out; omega⟩, ⟨by (with_reducible repeat (first | apply Kd.V_alloc | apply Kd.V_drewN | apply Kd.V_drew)); exact HO_1.out⟩, ⟨by (with_reducible repeat (first | apply Kd.R_alloc | apply Kd.R_drewN | apply Kd.R_drew)); exact HO_9.out⟩, ⟨by (with_reducible repeat (first | apply Kd.R_alloc | apply Kd.R_drewN | apply Kd.R_drew)); exact HO_11.out⟩, ⟨by repeat (first | (with_reducible first | exact HB.out | apply below_alloc | apply pw_below_drewN | apply below_drew1) | exact HB.out)⟩⟩
              · rw [if_neg c35] at H
                have c35b0 : decide (x12_2 < (t131.length : Int)) = false := decide_eq_false c35
                clear c35
                obtain rfl := Option.some.inj H
                go_wp2
                go_ret
                exact ⟨by first | rfl | (simp [errW_none, errW_some] <;> rfl) | (simp [*, errW_none, errW_some] <;> rfl), by repeat (first | (with_reducible first | exact HB.out | apply below_alloc | apply pw_below_drewN | apply below_drew1) | exact HB.out)⟩
  · rw [if_neg c8] at H
    have c8b0 : ((t135.length : Int) == (wrap64 (a0))) = false := beq_eq_false_iff_ne.mpr c8
    have c8b1 : ((t135.length : Int) != (wrap64 (a0))) = true := bne_iff_ne.mpr c8
    obtain rfl := Option.some.inj H
    go_enter Try.func6, Try.ntmps6
    go_wp2_with (first | ((with_reducible refine gate_callee (f := 20) rfl ?_); refine goesL_ (some 14) rfl rfl Try.func20 (by kernel_rfl) rfl #[] rfl (by (try simp only [List.map_toArray, List.map_cons, List.map_nil]); first | done | rfl | (simp only [List.length_drop, List.length_take]; rfl)) ?_; (with_reducible refine (tidemilllaw22_shown.calls k  t130 _ A4.out).mono ?_); rintro e w54 ⟨rfl, hb⟩; refine ⟨_, rfl, ?_⟩; have n0_ := Aside0.mk (below_step (by repeat (first | (with_reducible first | exact HB.out | apply below_alloc | apply pw_below_drewN | apply below_drew1) | exact HB.out)) hb); clear HB; have HB := n0_; clear n0_; (try clear hb); (try clear hb2); (try clear hk); (try clear hi)) | ((with_reducible refine gate_callee (f := 21) rfl ?_); refine goesL_ (some 16) rfl rfl Try.func21 (by kernel_rfl) rfl #[.slice A1 l1.length c1] rfl (by (try simp only [List.map_toArray, List.map_cons, List.map_nil]); first | done | rfl | (simp only [List.length_drop, List.length_take]; rfl)) ?_; (with_reducible refine (tidemilllaw22_few.calls (fun k_ => k_ < w.heap.size) _ _ l1 t131 _ ?side1 A5.out).mono ?_); (case side1 => exact Kd.V_mk HC1.out (Kd.F_below (Kd.C_F Kd.heap_bool HR1.out) (by repeat (first | (with_reducible first | exact HB.out | apply below_alloc | apply pw_below_drewN | apply below_drew1) | exact HB.out)))); rintro e w55 ⟨v132, rfl, ho0, hb⟩; refine ⟨_, rfl, ?_⟩; have n0_ := Aside0.mk (Kd.V_lower (Kd.V_mono (ok' := fun k_ => True) ho0 (fun k_ hk_ => trivial)) (below_size (by repeat (first | (with_reducible first | exact HB.out | apply below_alloc | apply pw_below_drewN | apply below_drew1) | exact HB.out)))); have n1_ := Aside0.mk (below_step (by repeat (first | (with_reducible first | exact HB.out | apply below_alloc | apply pw_below_drewN | apply below_drew1) | exact HB.out)) hb); clear HB; have HO133 := n0_; have HB := n1_; clear n0_ n1_; (try clear hb); (try clear hb2); (try clear hk); (try clear hi); (try clear ho0); obtain ⟨Ao56, co56, eo56⟩ := Kd.V_slice HO133.out; subst eo56) | ((with_reducible refine gate_callee (f := 25) rfl ?_); refine goesL_ (some 18) rfl rfl Try.func25 (by kernel_rfl) rfl #[.slice Ao56 t131.length co56] rfl (by (try simp only [List.map_toArray, List.map_cons, List.map_nil]); first | done | rfl | (simp only [List.length_drop, List.length_take]; rfl)) ?_; (with_reducible refine (tidemillref22_Living.calls k _ _ t131 t134 _ ?side1 ?side2 A6.out).mono ?_); (case side1 => repeat (first | exact (Kd.V_reads' HO133.out).2.2 | (with_reducible refine Kd.C_alloc ?_ _) | (with_reducible refine Kd.C_drewN ?_ _) | (with_reducible refine Kd.C_drew ?_))); (case side2 => exact (Kd.V_reads' HO133.out).2.1); rintro e w' ⟨rfl, ⟨nd, rfl⟩⟩; refine ⟨_, rfl, ?_⟩) | ((with_reducible refine gate_callee (f := 23) rfl ?_); refine goesL_ (some 23) rfl rfl Try.func23 (by kernel_rfl) rfl #[.int .i64 (wrap64 (a0)), .slice Ao56 t131.length co56, .slice A2 l2.length c2] rfl (by (try simp only [List.map_toArray, List.map_cons, List.map_nil]); first | done | rfl | (simp only [List.length_drop, List.length_take]; rfl)) ?_; (with_reducible refine (asgn_Assign.calls (wrap64 (a0)) _ _ t131 _ _ l2 t135 _ ?side1 ?side2 ?side3 ?side4 A7.out).mono ?_); (case side1 => repeat (first | exact (Kd.V_reads' HO133.out).2.2 | (with_reducible refine Kd.C_alloc ?_ _) | (with_reducible refine Kd.C_drewN ?_ _) | (with_reducible refine Kd.C_drew ?_))); (case side2 => exact (Kd.V_reads' HO133.out).2.1); (case side3 => repeat (first | exact (Kd.C_below HR2.out (by repeat (first | (with_reducible first | exact HB.out | apply below_alloc | apply pw_below_drewN | apply below_drew1) | exact HB.out))) | (with_reducible refine Kd.C_alloc ?_ _) | (with_reducible refine Kd.C_drewN ?_ _) | (with_reducible refine Kd.C_drew ?_))); (case side4 => exact HC2.out); rintro e w57 ⟨v136, rfl, ho0, hb⟩; refine ⟨_, rfl, ?_⟩; have n0_ := Aside0.mk (Kd.V_elder' (by (with_reducible repeat (first | apply Kd.V_alloc | apply Kd.V_drewN | apply Kd.V_drew)); exact HO133.out) (Kd.R_base ho0) hb); have n1_ := Aside0.mk (Kd.R_lower ho0 (below_size (by repeat (first | (with_reducible first | exact HB.out | apply below_alloc | apply pw_below_drewN | apply below_drew1) | exact HB.out)))); have n2_ := Aside0.mk (below_step (by repeat (first | (with_reducible first | exact HB.out | apply below_alloc | apply pw_below_drewN | apply below_drew1) | exact HB.out)) hb); clear HO133; clear HB; have HO133 := n0_; have HO137 := n1_; have HB := n2_; clear n0_ n1_ n2_; (try clear hb); (try clear hb2); (try clear hk); (try clear hi); (try clear ho0); obtain ⟨Ao58, co58, eo58⟩ := Kd.R_slice HO137.out; subst eo58))
    go_ret
    exact ⟨by first | rfl | (simp [errW_none, errW_some] <;> rfl) | (simp [*, errW_none, errW_some] <;> rfl), by repeat (first | (with_reducible first | exact HB.out | apply below_alloc | apply pw_below_drewN | apply below_drew1) | exact HB.out)⟩

end Go.Proofs.Ytjngkndiokfibaa.PAsgnShares

-- Written by a turned copy of the print, with contracts that this session proved by hand.
import Derived.Test.YtjngkndiokfibaaPAsgnGivesx0
import Derived.Test.YtjngkndiokfibaaPAsgnGivesx1
namespace Go.Proofs.Ytjngkndiokfibaa.PAsgnGives
open Go.RowKit Go.Proofs.YtjngkndiokfibaaW.PrintWords Go.Proofs.YtjngkndiokfibaaW.PrintLast Go.Proofs.YtjngkndiokfibaaW.PrintMore
attribute [local go_sem] max2_int min2_int max_two min_two max_three min_three max_four min_four   -- for this text's walks alone
set_option linter.unusedVariables false
set_option linter.unusedSimpArgs false

/-! ### tidemillref22_Assign: function 24 -/
mutual
def tidemillref22_Assign.j0 : Nat → Int → List Bool → List Int → Option (List Int)
  | 0, _, _, _ => none
  | k + 1, x0, x1, x2 => tidemillref22_Assign.l0 k x0 x1 x2 ([] : List Int) 0
def tidemillref22_Assign.l0 : Nat → Int → List Bool → List Int → List Int → Int → Option (List Int)
  | 0, _, _, _, _, _ => none
  | k + 1, x0, x1, x2, x7, x8 => if x8 < x0 then (if x7.length < 17592186044416 then (tidemillref22_Assign.l0 k x0 x1 x2 (x7 ++ [(-1)]) (wrap64 (x8 + 1))) else (none)) else ((tidemillref22_Living.f k x1).bind fun t133 => (if t133 = 0 then (some x7) else ((tidemillref22_Share.f k x0 t133).bind fun t134 => (tidemillref22_Assign.l1 k x0 x1 x2 x7 t134 0))))
def tidemillref22_Assign.l1 : Nat → Int → List Bool → List Int → List Int → Int → Int → Option (List Int)
  | 0, _, _, _, _, _, _ => none
  | k + 1, x0, x1, x2, x7, x10, x11 => if x11 < x0 then (tidemillref22_Assign.j3 k x0 x1 x2 x7 x10 x11 (decide (x11 < (x2.length : Int)))) else (tidemillref22_Assign.j3 k x0 x1 x2 x7 x10 x11 false)
def tidemillref22_Assign.j3 : Nat → Int → List Bool → List Int → List Int → Int → Int → Bool → Option (List Int)
  | 0, _, _, _, _, _, _, _ => none
  | k + 1, x0, x1, x2, x7, x10, x11, x42 => if x42 = true then (if 0 ≤ x11 then (if x11 < (x2.length : Int) then (if (rd x2 x11) ≥ 0 then (if (rd x2 x11) < (x1.length : Int) then (if 0 ≤ (rd x2 x11) then (if rdOf false x1 (rd x2 x11) = true then ((tidemillref22_Count.f k x7 (rd x2 x11)).bind fun t137 => (if t137 < x10 then (if x11 < (x7.length : Int) then (tidemillref22_Assign.l1 k x0 x1 x2 (x7.set (x11 : Int).toNat (rd x2 x11)) x10 (wrap64 (x11 + 1))) else (none)) else (tidemillref22_Assign.l1 k x0 x1 x2 x7 x10 (wrap64 (x11 + 1))))) else (tidemillref22_Assign.l1 k x0 x1 x2 x7 x10 (wrap64 (x11 + 1)))) else (none)) else (tidemillref22_Assign.l1 k x0 x1 x2 x7 x10 (wrap64 (x11 + 1)))) else (tidemillref22_Assign.l1 k x0 x1 x2 x7 x10 (wrap64 (x11 + 1)))) else (none)) else (none)) else (tidemillref22_Assign.l2 k x0 x1 x7 0)
def tidemillref22_Assign.l2 : Nat → Int → List Bool → List Int → Int → Option (List Int)
  | 0, _, _, _, _ => none
  | k + 1, x0, x1, x7, x13 => if x13 < x0 then (tidemillref22_Assign.l3 k x0 x1 x7 x13 (-1) 0) else (some x7)
def tidemillref22_Assign.l3 : Nat → Int → List Bool → List Int → Int → Int → Int → Option (List Int)
  | 0, _, _, _, _, _, _ => none
  | k + 1, x0, x1, x7, x13, x14, x15 => if x15 < (x1.length : Int) then (if 0 ≤ x13 then (if x13 < (x7.length : Int) then (tidemillref22_Assign.j6 k x0 x1 x7 x13 x14 x15 (decide ((rd x7 x13) < 0))) else (none)) else (none)) else (tidemillref22_Assign.j6 k x0 x1 x7 x13 x14 x15 false)
def tidemillref22_Assign.j6 : Nat → Int → List Bool → List Int → Int → Int → Int → Bool → Option (List Int)
  | 0, _, _, _, _, _, _, _ => none
  | k + 1, x0, x1, x7, x13, x14, x15, x89 => if x89 = true then (if 0 ≤ x15 then (if x15 < (x1.length : Int) then (if rdOf false x1 x15 = true then (if x14 < 0 then (tidemillref22_Assign.l3 k x0 x1 x7 x13 x15 (wrap64 (x15 + 1))) else ((tidemillref22_Count.f k x7 x15).bind fun t142 => ((tidemillref22_Count.f k x7 x14).bind fun t143 => (if t142 < t143 then (tidemillref22_Assign.l3 k x0 x1 x7 x13 x15 (wrap64 (x15 + 1))) else (tidemillref22_Assign.l3 k x0 x1 x7 x13 x14 (wrap64 (x15 + 1))))))) else (tidemillref22_Assign.l3 k x0 x1 x7 x13 x14 (wrap64 (x15 + 1)))) else (none)) else (none)) else (if x14 ≥ 0 then (if 0 ≤ x13 then (if x13 < (x7.length : Int) then (tidemillref22_Assign.l2 k x0 x1 (x7.set (x13 : Int).toNat x14) (wrap64 (x13 + 1))) else (none)) else (none)) else (tidemillref22_Assign.l2 k x0 x1 x7 (wrap64 (x13 + 1))))
end
def tidemillref22_Assign.f (k : Nat) (a0 : Int) (l1 : List Bool) (l2 : List Int) : Option (List Int) := if a0 > 1000 then (tidemillref22_Assign.j0 k 1000 l1 l2) else (tidemillref22_Assign.j0 k a0 l1 l2)
theorem tidemillref22_Assign.mono_l : ∀ k, (∀ y0 y1 y2, LeO (tidemillref22_Assign.j0 k y0 y1 y2) (tidemillref22_Assign.j0 (k + 1) y0 y1 y2)) ∧ (∀ y0 y1 y2 y3 y4, LeO (tidemillref22_Assign.l0 k y0 y1 y2 y3 y4) (tidemillref22_Assign.l0 (k + 1) y0 y1 y2 y3 y4)) ∧ (∀ y0 y1 y2 y3 y4 y5, LeO (tidemillref22_Assign.l1 k y0 y1 y2 y3 y4 y5) (tidemillref22_Assign.l1 (k + 1) y0 y1 y2 y3 y4 y5)) ∧ (∀ y0 y1 y2 y3 y4 y5 y6, LeO (tidemillref22_Assign.j3 k y0 y1 y2 y3 y4 y5 y6) (tidemillref22_Assign.j3 (k + 1) y0 y1 y2 y3 y4 y5 y6)) ∧ (∀ y0 y1 y2 y3, LeO (tidemillref22_Assign.l2 k y0 y1 y2 y3) (tidemillref22_Assign.l2 (k + 1) y0 y1 y2 y3)) ∧ (∀ y0 y1 y2 y3 y4 y5, LeO (tidemillref22_Assign.l3 k y0 y1 y2 y3 y4 y5) (tidemillref22_Assign.l3 (k + 1) y0 y1 y2 y3 y4 y5)) ∧ (∀ y0 y1 y2 y3 y4 y5 y6, LeO (tidemillref22_Assign.j6 k y0 y1 y2 y3 y4 y5 y6) (tidemillref22_Assign.j6 (k + 1) y0 y1 y2 y3 y4 y5 y6))
  | 0 => ⟨fun _ _ _ r h => by simp [tidemillref22_Assign.j0] at h, fun _ _ _ _ _ r h => by simp [tidemillref22_Assign.l0] at h, fun _ _ _ _ _ _ r h => by simp [tidemillref22_Assign.l1] at h, fun _ _ _ _ _ _ _ r h => by simp [tidemillref22_Assign.j3] at h, fun _ _ _ _ r h => by simp [tidemillref22_Assign.l2] at h, fun _ _ _ _ _ _ r h => by simp [tidemillref22_Assign.l3] at h, fun _ _ _ _ _ _ _ r h => by simp [tidemillref22_Assign.j6] at h⟩
  | k + 1 => by
    obtain ⟨ih0, ih1, ih2, ih3, ih4, ih5, ih6⟩ := tidemillref22_Assign.mono_l k
    refine ⟨?_, ?_, ?_, ?_, ?_, ?_, ?_⟩
    · intro y0 y1 y2
      unfold tidemillref22_Assign.j0
      repeat' first
      | (with_reducible exact ih0 _ _ _)
      | (with_reducible exact ih1 _ _ _ _ _)
      | (with_reducible exact ih2 _ _ _ _ _ _)
      | (with_reducible exact ih3 _ _ _ _ _ _ _)
      | (with_reducible exact ih4 _ _ _ _)
      | (with_reducible exact ih5 _ _ _ _ _ _)
      | (with_reducible exact ih6 _ _ _ _ _ _ _)
      | (with_reducible exact tidemillref22_Count.mono _ _ _)
      | (with_reducible exact tidemillref22_Living.mono _ _)
      | (with_reducible exact tidemillref22_Share.mono _ _ _)
      | (with_reducible exact LeO.refl _)
      | (with_reducible exact LeO.none _)
      | (with_reducible refine LeO.ite ?_ ?_)
      | (with_reducible refine LeO.bind ?_ (fun _ => ?_))
      | exact ih0 _ _ _
      | exact ih1 _ _ _ _ _
      | exact ih2 _ _ _ _ _ _
      | exact ih3 _ _ _ _ _ _ _
      | exact ih4 _ _ _ _
      | exact ih5 _ _ _ _ _ _
      | exact ih6 _ _ _ _ _ _ _
      | exact tidemillref22_Count.mono _ _ _
      | exact tidemillref22_Living.mono _ _
      | exact tidemillref22_Share.mono _ _ _
      | exact LeO.none _
      | refine LeO.ite ?_ ?_
      | refine LeO.bind ?_ (fun _ => ?_)
    · intro y0 y1 y2 y3 y4
      unfold tidemillref22_Assign.l0
      repeat' first
      | (with_reducible exact ih0 _ _ _)
      | (with_reducible exact ih1 _ _ _ _ _)
      | (with_reducible exact ih2 _ _ _ _ _ _)
      | (with_reducible exact ih3 _ _ _ _ _ _ _)
      | (with_reducible exact ih4 _ _ _ _)
      | (with_reducible exact ih5 _ _ _ _ _ _)
      | (with_reducible exact ih6 _ _ _ _ _ _ _)
      | (with_reducible exact tidemillref22_Count.mono _ _ _)
      | (with_reducible exact tidemillref22_Living.mono _ _)
      | (with_reducible exact tidemillref22_Share.mono _ _ _)
      | (with_reducible exact LeO.refl _)
      | (with_reducible exact LeO.none _)
      | (with_reducible refine LeO.ite ?_ ?_)
      | (with_reducible refine LeO.bind ?_ (fun _ => ?_))
      | exact ih0 _ _ _
      | exact ih1 _ _ _ _ _
      | exact ih2 _ _ _ _ _ _
      | exact ih3 _ _ _ _ _ _ _
      | exact ih4 _ _ _ _
      | exact ih5 _ _ _ _ _ _
      | exact ih6 _ _ _ _ _ _ _
      | exact tidemillref22_Count.mono _ _ _
      | exact tidemillref22_Living.mono _ _
      | exact tidemillref22_Share.mono _ _ _
      | exact LeO.none _
      | refine LeO.ite ?_ ?_
      | refine LeO.bind ?_ (fun _ => ?_)
    · intro y0 y1 y2 y3 y4 y5
      unfold tidemillref22_Assign.l1
      repeat' first
      | (with_reducible exact ih0 _ _ _)
      | (with_reducible exact ih1 _ _ _ _ _)
      | (with_reducible exact ih2 _ _ _ _ _ _)
      | (with_reducible exact ih3 _ _ _ _ _ _ _)
      | (with_reducible exact ih4 _ _ _ _)
      | (with_reducible exact ih5 _ _ _ _ _ _)
      | (with_reducible exact ih6 _ _ _ _ _ _ _)
      | (with_reducible exact tidemillref22_Count.mono _ _ _)
      | (with_reducible exact tidemillref22_Living.mono _ _)
      | (with_reducible exact tidemillref22_Share.mono _ _ _)
      | (with_reducible exact LeO.refl _)
      | (with_reducible exact LeO.none _)
      | (with_reducible refine LeO.ite ?_ ?_)
      | (with_reducible refine LeO.bind ?_ (fun _ => ?_))
      | exact ih0 _ _ _
      | exact ih1 _ _ _ _ _
      | exact ih2 _ _ _ _ _ _
      | exact ih3 _ _ _ _ _ _ _
      | exact ih4 _ _ _ _
      | exact ih5 _ _ _ _ _ _
      | exact ih6 _ _ _ _ _ _ _
      | exact tidemillref22_Count.mono _ _ _
      | exact tidemillref22_Living.mono _ _
      | exact tidemillref22_Share.mono _ _ _
      | exact LeO.none _
      | refine LeO.ite ?_ ?_
      | refine LeO.bind ?_ (fun _ => ?_)
    · intro y0 y1 y2 y3 y4 y5 y6
      unfold tidemillref22_Assign.j3
      repeat' first
      | (with_reducible exact ih0 _ _ _)
      | (with_reducible exact ih1 _ _ _ _ _)
      | (with_reducible exact ih2 _ _ _ _ _ _)
      | (with_reducible exact ih3 _ _ _ _ _ _ _)
      | (with_reducible exact ih4 _ _ _ _)
      | (with_reducible exact ih5 _ _ _ _ _ _)
      | (with_reducible exact ih6 _ _ _ _ _ _ _)
      | (with_reducible exact tidemillref22_Count.mono _ _ _)
      | (with_reducible exact tidemillref22_Living.mono _ _)
      | (with_reducible exact tidemillref22_Share.mono _ _ _)
      | (with_reducible exact LeO.refl _)
      | (with_reducible exact LeO.none _)
      | (with_reducible refine LeO.ite ?_ ?_)
      | (with_reducible refine LeO.bind ?_ (fun _ => ?_))
      | exact ih0 _ _ _
      | exact ih1 _ _ _ _ _
      | exact ih2 _ _ _ _ _ _
      | exact ih3 _ _ _ _ _ _ _
      | exact ih4 _ _ _ _
      | exact ih5 _ _ _ _ _ _
      | exact ih6 _ _ _ _ _ _ _
      | exact tidemillref22_Count.mono _ _ _
      | exact tidemillref22_Living.mono _ _
      | exact tidemillref22_Share.mono _ _ _
      | exact LeO.none _
      | refine LeO.ite ?_ ?_
      | refine LeO.bind ?_ (fun _ => ?_)
    · intro y0 y1 y2 y3
      unfold tidemillref22_Assign.l2
      repeat' first
      | (with_reducible exact ih0 _ _ _)
      | (with_reducible exact ih1 _ _ _ _ _)
      | (with_reducible exact ih2 _ _ _ _ _ _)
      | (with_reducible exact ih3 _ _ _ _ _ _ _)
      | (with_reducible exact ih4 _ _ _ _)
      | (with_reducible exact ih5 _ _ _ _ _ _)
      | (with_reducible exact ih6 _ _ _ _ _ _ _)
      | (with_reducible exact tidemillref22_Count.mono _ _ _)
      | (with_reducible exact tidemillref22_Living.mono _ _)
      | (with_reducible exact tidemillref22_Share.mono _ _ _)
      | (with_reducible exact LeO.refl _)
      | (with_reducible exact LeO.none _)
      | (with_reducible refine LeO.ite ?_ ?_)
      | (with_reducible refine LeO.bind ?_ (fun _ => ?_))
      | exact ih0 _ _ _
      | exact ih1 _ _ _ _ _
      | exact ih2 _ _ _ _ _ _
      | exact ih3 _ _ _ _ _ _ _
      | exact ih4 _ _ _ _
      | exact ih5 _ _ _ _ _ _
      | exact ih6 _ _ _ _ _ _ _
      | exact tidemillref22_Count.mono _ _ _
      | exact tidemillref22_Living.mono _ _
      | exact tidemillref22_Share.mono _ _ _
      | exact LeO.none _
      | refine LeO.ite ?_ ?_
      | refine LeO.bind ?_ (fun _ => ?_)
    · intro y0 y1 y2 y3 y4 y5
      unfold tidemillref22_Assign.l3
      repeat' first
      | (with_reducible exact ih0 _ _ _)
      | (with_reducible exact ih1 _ _ _ _ _)
      | (with_reducible exact ih2 _ _ _ _ _ _)
      | (with_reducible exact ih3 _ _ _ _ _ _ _)
      | (with_reducible exact ih4 _ _ _ _)
      | (with_reducible exact ih5 _ _ _ _ _ _)
      | (with_reducible exact ih6 _ _ _ _ _ _ _)
      | (with_reducible exact tidemillref22_Count.mono _ _ _)
      | (with_reducible exact tidemillref22_Living.mono _ _)
      | (with_reducible exact tidemillref22_Share.mono _ _ _)
      | (with_reducible exact LeO.refl _)
      | (with_reducible exact LeO.none _)
      | (with_reducible refine LeO.ite ?_ ?_)
      | (with_reducible refine LeO.bind ?_ (fun _ => ?_))
      | exact ih0 _ _ _
      | exact ih1 _ _ _ _ _
      | exact ih2 _ _ _ _ _ _
      | exact ih3 _ _ _ _ _ _ _
      | exact ih4 _ _ _ _
      | exact ih5 _ _ _ _ _ _
      | exact ih6 _ _ _ _ _ _ _
      | exact tidemillref22_Count.mono _ _ _
      | exact tidemillref22_Living.mono _ _
      | exact tidemillref22_Share.mono _ _ _
      | exact LeO.none _
      | refine LeO.ite ?_ ?_
      | refine LeO.bind ?_ (fun _ => ?_)
    · intro y0 y1 y2 y3 y4 y5 y6
      unfold tidemillref22_Assign.j6
      repeat' first
      | (with_reducible exact ih0 _ _ _)
      | (with_reducible exact ih1 _ _ _ _ _)
      | (with_reducible exact ih2 _ _ _ _ _ _)
      | (with_reducible exact ih3 _ _ _ _ _ _ _)
      | (with_reducible exact ih4 _ _ _ _)
      | (with_reducible exact ih5 _ _ _ _ _ _)
      | (with_reducible exact ih6 _ _ _ _ _ _ _)
      | (with_reducible exact tidemillref22_Count.mono _ _ _)
      | (with_reducible exact tidemillref22_Living.mono _ _)
      | (with_reducible exact tidemillref22_Share.mono _ _ _)
      | (with_reducible exact LeO.refl _)
      | (with_reducible exact LeO.none _)
      | (with_reducible refine LeO.ite ?_ ?_)
      | (with_reducible refine LeO.bind ?_ (fun _ => ?_))
      | exact ih0 _ _ _
      | exact ih1 _ _ _ _ _
      | exact ih2 _ _ _ _ _ _
      | exact ih3 _ _ _ _ _ _ _
      | exact ih4 _ _ _ _
      | exact ih5 _ _ _ _ _ _
      | exact ih6 _ _ _ _ _ _ _
      | exact tidemillref22_Count.mono _ _ _
      | exact tidemillref22_Living.mono _ _
      | exact tidemillref22_Share.mono _ _ _
      | exact LeO.none _
      | refine LeO.ite ?_ ?_
      | refine LeO.bind ?_ (fun _ => ?_)
theorem tidemillref22_Assign.mono : ∀ a0 a1 a2 k, LeO (tidemillref22_Assign.f k a0 a1 a2) (tidemillref22_Assign.f (k + 1) a0 a1 a2) := by
  intro a0 a1 a2 k
  obtain ⟨ih0, ih1, ih2, ih3, ih4, ih5, ih6⟩ := tidemillref22_Assign.mono_l k
  unfold tidemillref22_Assign.f
  repeat' first
      | (with_reducible exact ih0 _ _ _)
      | (with_reducible exact ih1 _ _ _ _ _)
      | (with_reducible exact ih2 _ _ _ _ _ _)
      | (with_reducible exact ih3 _ _ _ _ _ _ _)
      | (with_reducible exact ih4 _ _ _ _)
      | (with_reducible exact ih5 _ _ _ _ _ _)
      | (with_reducible exact ih6 _ _ _ _ _ _ _)
      | (with_reducible exact tidemillref22_Count.mono _ _ _)
      | (with_reducible exact tidemillref22_Living.mono _ _)
      | (with_reducible exact tidemillref22_Share.mono _ _ _)
      | (with_reducible exact LeO.refl _)
      | (with_reducible exact LeO.none _)
      | (with_reducible refine LeO.ite ?_ ?_)
      | (with_reducible refine LeO.bind ?_ (fun _ => ?_))
      | exact ih0 _ _ _
      | exact ih1 _ _ _ _ _
      | exact ih2 _ _ _ _ _ _
      | exact ih3 _ _ _ _ _ _ _
      | exact ih4 _ _ _ _
      | exact ih5 _ _ _ _ _ _
      | exact ih6 _ _ _ _ _ _ _
      | exact tidemillref22_Count.mono _ _ _
      | exact tidemillref22_Living.mono _ _
      | exact tidemillref22_Share.mono _ _ _
      | exact LeO.none _
      | refine LeO.ite ?_ ?_
      | refine LeO.bind ?_ (fun _ => ?_)
set_option maxHeartbeats 8000000 in
set_option maxRecDepth 100000 in
theorem tidemillref22_Assign.calls (k : Nat) (a0 : Int) (A1 : Option Addr) (c1 : Nat) (l1 : List Bool) (A2 : Option Addr) (c2 : Nat) (l2 : List Int) (r : List Int) (w : World) (hr1 : Kd.C Kd.bool w A1 l1.length l1) (hc1 : l1.length ≤ c1) (hr2 : Kd.C (Kd.int .i64) w A2 l2.length l2) (hc2 : l2.length ≤ c2) (h : tidemillref22_Assign.f k a0 l1 l2 = some r) :
    Calls Try.prog 24 #[.int .i64 a0, .slice A1 l1.length c1, .slice A2 l2.length c2] w fun e w' => ∃ v0_ : Value, e = .returned (v0_) ∧ Kd.R (Kd.int .i64) 3 w' w.heap.size (fun _ => True) v0_ r ∧ Below w.heap.size w w' := by
  have HR1 := Aside0.mk hr1
  have HC1 := Aside0.mk hc1
  clear hr1 hc1
  have HR2 := Aside0.mk hr2
  have HC2 := Aside0.mk hc2
  clear hr2 hc2
  have HB := Aside0.mk (Below.refl w.heap.size w)
  have H : (if a0 > 1000 then (tidemillref22_Assign.j0 k 1000 l1 l2) else (tidemillref22_Assign.j0 k a0 l1 l2)) = some r := h
  clear h
  have HC4 := Aside0.mk H
  clear H
  go_enter Try.func24, Try.ntmps24
  go_upto_if 17 with (fail)
  go_cut [0] (fun v0 wc => ∃ (kq : Nat) (x0_3 : Int), v0 = .int .i64 x0_3 ∧ Aside0 (tidemillref22_Assign.j0 kq x0_3 l1 l2 = some r) ∧ Aside0 (kq ≤ k) ∧ Aside0 (Below w.heap.size w wc))
  case first =>
    have H := HC4.out
    clear HC4
    by_cases c5 : a0 > 1000
    · rw [if_pos c5] at H
      have c5b0 : decide (1000 < a0) = true := decide_eq_true c5
      clear c5
      (first | rw [c5b0] | (simp only [i64_w, i32_w]; rw [c5b0]) | skip)
      have H' := Aside0.mk H
      clear H
      go_wp2
      go_meet
      case rel => exact ⟨_, (1000), (by first | rfl | (simp; done) | (simp [*]; done)), H', ⟨by first | omega | exact Nat.le_refl _⟩, ⟨by repeat (first | (with_reducible first | exact HB.out | apply below_alloc | apply pw_below_drewN | apply below_drew1) | exact HB.out)⟩⟩
    · rw [if_neg c5] at H
      have c5b0 : decide (1000 < a0) = false := decide_eq_false c5
      clear c5
      (first | rw [c5b0] | (simp only [i64_w, i32_w]; rw [c5b0]) | skip)
      have H' := Aside0.mk H
      clear H
      go_wp2
      go_meet
      case rel => exact ⟨_, (a0), (by first | rfl | (simp; done) | (simp [*]; done)), H', ⟨by first | omega | exact Nat.le_refl _⟩, ⟨by repeat (first | (with_reducible first | exact HB.out | apply below_alloc | apply pw_below_drewN | apply below_drew1) | exact HB.out)⟩⟩
  case rest =>
    clear HC4
    try clear c1
    try clear c2
    try clear p2
    try clear c5
    try clear c5b0
    obtain ⟨kq, x0_3, rfl, HA, HJ3, HB⟩ := hcut
    cases kq with
    | zero => exact absurd HA.out (by simp [tidemillref22_Assign.j0])
    | succ kj3 =>
      have H := HA.out
      clear HA
      simp only [tidemillref22_Assign.j0] at H
      have H' := Aside0.mk H
      clear H
      go_wp2
      go_loopg [7, 8] kj3 (fun kq v7 v8 w' => ∃ (x7_2 : List Int) (x8_2 : Int), v8 = .int .i64 x8_2 ∧ Aside0 (tidemillref22_Assign.l0 kq x0_3 l1 l2 x7_2 x8_2 = some r) ∧ Aside0 (kq ≤ kj3) ∧ Aside0 (Kd.R (Kd.int .i64) 3 w' w.heap.size (fun _ => True) v7 x7_2) ∧ Aside0 (Below w.heap.size w w'))
      case atStart => exact ⟨(([] : List Int)), (0), (by first | rfl | (simp; done) | (simp [*]; done)), H', ⟨Nat.le_refl _⟩, ⟨by first | exact Kd.R_nil _ _ _ _ _ | exact Kd.N_nil _ _ _ _ _ | exact Kd.V_nil _ _ _ _ _ | exact Kd.Q_nil _ _ _ _ _ | exact Kd.S_nil _ _ _ _ _⟩, ⟨by repeat (first | (with_reducible first | exact HB.out | apply below_alloc | apply pw_below_drewN | apply below_drew1) | exact HB.out)⟩⟩
      case round =>
        clear H'
        try clear c1
        try clear c2
        try clear p2
        try clear c5
        try clear c5b0
        try clear p2
        obtain ⟨x7_2, x8_2, rfl, HA, HK2, HO_7, HB⟩ := hrel
        cases gk with
        | zero => exact absurd HA.out (by simp [tidemillref22_Assign.l0])
        | succ k2 =>
          have H := HA.out
          clear HA
          simp only [tidemillref22_Assign.l0] at H
          by_cases c6 : x8_2 < x0_3
          · rw [if_pos c6] at H
            have c6b0 : decide (x8_2 < x0_3) = true := decide_eq_true c6
            clear c6
            by_cases c7 : x7_2.length < 17592186044416
            · rw [if_pos c7] at H
              have LMc7 := Aside0.mk c7
              clear c7
              obtain ⟨y130, hy130⟩ : ∃ y_ : List Int, y_ = (x7_2 ++ [(-1)]) := ⟨_, rfl⟩
              replace H : (tidemillref22_Assign.l0 k2 x0_3 l1 l2 y130 (wrap64 (x8_2 + 1))) = some r := by first | (rw [hy130]; with_reducible exact H) | (have H2_ := (Option.bind_some _ _).symm.trans H; rw [hy130]; with_reducible exact H2_) | (have H2_ := (Option.bind_some _ _).symm.trans H; with_reducible exact H2_) | with_reducible exact H | (rw [hy130]; exact H) | exact H
              have Ny130 := Aside0.mk hy130
              clear hy130
              have H' := Aside0.mk H
              clear H
              go_wp2_with (first | ((with_reducible refine gate_builtin (b := .append) (xs := #[.tmp 23, .tmp 24]) rfl ?_); (try (refine gate_guard (by rfl) ?_; dsimp only)); at_builtin; refine Kd.R_append (Kd.int .i64) (w0 := w) w.heap.size rfl (.tmp 23) (.tmp 24) 44 3 (.int .i64 0) 8 rfl Try.underlying44 info3 rfl (by decide) (by omega) u7 x7_2 (-1) [.int .i64 (-1)] (fun _ => True) (fun _ => False) rfl rfl ?aP (fun _ hk => hk.elim) ?aF ?aO ?aB ?aS ?aL ?_; (case aP => exact rfl); (case aB => exact (by repeat (first | (with_reducible first | exact HB.out | apply below_alloc | apply pw_below_drewN | apply below_drew1) | exact HB.out))); (case aF => exact (fun _ _ => trivial)); (case aO => exact (by (with_reducible repeat (first | apply Kd.R_alloc | apply Kd.R_drewN | apply Kd.R_drew)); exact HO_7.out)); (case aS => exact (below_size (by repeat (first | (with_reducible first | exact HB.out | apply below_alloc | apply pw_below_drewN | apply below_drew1) | exact HB.out)))); (case aL => have := LMc7.out; omega); intro v131 w8 ho hb hg hat; rw [← Ny130.out] at ho; have n0_ := Aside0.mk (hb); have n1_ := Aside0.mk (ho); clear HB; clear HO_7; have HB := n0_; have HO132 := n1_; clear n0_ n1_; clear ho hb hg hat))
              go_roundg k2
              case measure => have := HJ3.out; have := HK2.out; omega
              case rel => exact ⟨(y130), (wrap64 (x8_2 + 1)), (by first | rfl | (simp; done) | (simp [*]; done)), H', ⟨by have := HJ3.out; have := HK2.out; omega⟩, ⟨by (with_reducible repeat (first | apply Kd.R_alloc | apply Kd.R_drewN | apply Kd.R_drew)); exact HO132.out⟩, ⟨by repeat (first | (with_reducible first | exact HB.out | apply below_alloc | apply pw_below_drewN | apply below_drew1) | exact HB.out)⟩⟩
            · rw [if_neg c7] at H
              exact absurd H (by simp)
          · rw [if_neg c6] at H
            have c6b0 : decide (x8_2 < x0_3) = false := decide_eq_false c6
            clear c6
            replace H := Option.bind_eq_some_iff.mp H
            obtain ⟨t133, A90, H⟩ := H
            replace H : (if t133 = 0 then (some x7_2) else ((tidemillref22_Share.f k2 x0_3 t133).bind fun t134 => (tidemillref22_Assign.l1 k2 x0_3 l1 l2 x7_2 t134 0))) = some r := H
            have A9 := Aside0.mk A90
            clear A90
            by_cases c10 : t133 = 0
            · rw [if_pos c10] at H
              have c10b0 : (t133 == 0) = true := beq_iff_eq.mpr c10
              have c10b1 : (t133 != 0) = false := bne_eq_false_iff_eq.mpr c10
              clear c10
              obtain rfl := Option.some.inj H
              go_wp2_with (first | ((with_reducible refine gate_callee (f := 25) rfl ?_); refine goesL_ (some 27) rfl rfl Try.func25 (by kernel_rfl) rfl #[.slice A1 l1.length c1] rfl (by (try simp only [List.map_toArray, List.map_cons, List.map_nil]); first | done | rfl | (simp only [List.length_drop, List.length_take]; rfl)) ?_; (with_reducible refine (tidemillref22_Living.calls k2 _ _ l1 t133 _ ?side1 ?side2 A9.out).mono ?_); (case side1 => repeat (first | exact (Kd.C_below HR1.out HB.out) | (with_reducible refine Kd.C_alloc ?_ _) | (with_reducible refine Kd.C_drewN ?_ _) | (with_reducible refine Kd.C_drew ?_))); (case side2 => exact HC1.out); rintro e w' ⟨rfl, ⟨nd, rfl⟩⟩; refine ⟨_, rfl, ?_⟩))
              go_ret
              exact ⟨_, by first | rfl | (simp [errW_none, errW_some] <;> rfl) | (simp [*, errW_none, errW_some] <;> rfl), by (with_reducible repeat (first | apply Kd.R_alloc | apply Kd.R_drewN | apply Kd.R_drew)); exact HO_7.out, by repeat (first | (with_reducible first | exact HB.out | apply below_alloc | apply pw_below_drewN | apply below_drew1) | exact HB.out)⟩
            · rw [if_neg c10] at H
              have c10b0 : (t133 == 0) = false := beq_eq_false_iff_ne.mpr c10
              have c10b1 : (t133 != 0) = true := bne_iff_ne.mpr c10
              replace H := Option.bind_eq_some_iff.mp H
              obtain ⟨t134, A110, H⟩ := H
              replace H : (tidemillref22_Assign.l1 k2 x0_3 l1 l2 x7_2 t134 0) = some r := H
              have A11 := Aside0.mk A110
              clear A110
              have H' := Aside0.mk H
              clear H
              go_wp2_with (first | ((with_reducible refine gate_callee (f := 25) rfl ?_); refine goesL_ (some 27) rfl rfl Try.func25 (by kernel_rfl) rfl #[.slice A1 l1.length c1] rfl (by (try simp only [List.map_toArray, List.map_cons, List.map_nil]); first | done | rfl | (simp only [List.length_drop, List.length_take]; rfl)) ?_; (with_reducible refine (tidemillref22_Living.calls k2 _ _ l1 t133 _ ?side1 ?side2 A9.out).mono ?_); (case side1 => repeat (first | exact (Kd.C_below HR1.out HB.out) | (with_reducible refine Kd.C_alloc ?_ _) | (with_reducible refine Kd.C_drewN ?_ _) | (with_reducible refine Kd.C_drew ?_))); (case side2 => exact HC1.out); rintro e w' ⟨rfl, ⟨nd, rfl⟩⟩; refine ⟨_, rfl, ?_⟩) | ((with_reducible refine gate_callee (f := 27) rfl ?_); refine goesL_ (some 33) rfl rfl Try.func27 (by kernel_rfl) rfl #[.int .i64 x0_3, .int .i64 t133] rfl (by (try simp only [List.map_toArray, List.map_cons, List.map_nil]); first | done | rfl | (simp only [List.length_drop, List.length_take]; rfl)) ?_; (with_reducible refine (tidemillref22_Share.calls k2 x0_3 t133 t134 _ A11.out).mono ?_); rintro e w' ⟨rfl, ⟨nd, rfl⟩⟩; refine ⟨_, rfl, ?_⟩))
              go_loopg [11] k2 (fun kq v11 w' => ∃ (x7_3 : List Int) (x11_3 : Int), v11 = .int .i64 x11_3 ∧ Aside0 (tidemillref22_Assign.l1 kq x0_3 l1 l2 x7_3 t134 x11_3 = some r) ∧ Aside0 (kq ≤ k2) ∧ Aside0 (Kd.R (Kd.int .i64) 3 w' w.heap.size (fun _ => True) u7 x7_3) ∧ Aside0 (Below w.heap.size w w'))
              case atStart => exact ⟨(x7_2), (0), (by first | rfl | (simp; done) | (simp [*]; done)), H', ⟨Nat.le_refl _⟩, ⟨by (with_reducible repeat (first | apply Kd.R_alloc | apply Kd.R_drewN | apply Kd.R_drew)); exact HO_7.out⟩, ⟨by repeat (first | (with_reducible first | exact HB.out | apply below_alloc | apply pw_below_drewN | apply below_drew1) | exact HB.out)⟩⟩
              case round =>
                clear H'
                try clear c1
                try clear c2
                try clear p2
                try clear c5
                try clear c5b0
                try clear c6
                try clear c6b0
                try clear p6
                try clear c7
                try clear c10
                try clear c10b0
                try clear c10b1
                try clear p2
                obtain ⟨x7_3, x11_3, rfl, HA, HK3, HO_7, HB⟩ := hrel
                cases gk with
                | zero => exact absurd HA.out (by simp [tidemillref22_Assign.l1])
                | succ k3 =>
                  have H := HA.out
                  clear HA
                  simp only [tidemillref22_Assign.l1] at H
                  have HC12 := Aside0.mk H
                  clear H
                  go_upto_region 13 with (fail)
                  go_cut [42] (fun v42 wc => ∃ (kq : Nat) (x42_11 : Bool), v42 = .bool x42_11 ∧ Aside0 (tidemillref22_Assign.j3 kq x0_3 l1 l2 x7_3 t134 x11_3 x42_11 = some r) ∧ Aside0 (kq ≤ k3) ∧ Aside0 (Kd.R (Kd.int .i64) 3 wc w.heap.size (fun _ => True) u7 x7_3) ∧ Aside0 (Below w.heap.size w wc))
                  case first =>
                    have H := HC12.out
                    clear HC12
                    by_cases c13 : x11_3 < x0_3
                    · rw [if_pos c13] at H
                      have c13b0 : decide (x11_3 < x0_3) = true := decide_eq_true c13
                      clear c13
                      (first | rw [c13b0] | (simp only [i64_w, i32_w]; rw [c13b0]) | skip)
                      have H' := Aside0.mk H
                      clear H
                      go_wp2
                      go_meet
                      case rel => exact ⟨_, (decide (x11_3 < (l2.length : Int))), (by first | rfl | (simp; done) | (simp [*]; done)), H', ⟨by have := HJ3.out; have := HK2.out; have := HK3.out; first | omega | exact Nat.le_refl _⟩, ⟨by (with_reducible repeat (first | apply Kd.R_alloc | apply Kd.R_drewN | apply Kd.R_drew)); exact HO_7.out⟩, ⟨by repeat (first | (with_reducible first | exact HB.out | apply below_alloc | apply pw_below_drewN | apply below_drew1) | exact HB.out)⟩⟩
                    · rw [if_neg c13] at H
                      have c13b0 : decide (x11_3 < x0_3) = false := decide_eq_false c13
                      clear c13
                      (first | rw [c13b0] | (simp only [i64_w, i32_w]; rw [c13b0]) | skip)
                      have H' := Aside0.mk H
                      clear H
                      go_wp2
                      go_meet
                      case rel => exact ⟨_, (false), (by first | rfl | (simp; done) | (simp [*]; done)), H', ⟨by have := HJ3.out; have := HK2.out; have := HK3.out; first | omega | exact Nat.le_refl _⟩, ⟨by (with_reducible repeat (first | apply Kd.R_alloc | apply Kd.R_drewN | apply Kd.R_drew)); exact HO_7.out⟩, ⟨by repeat (first | (with_reducible first | exact HB.out | apply below_alloc | apply pw_below_drewN | apply below_drew1) | exact HB.out)⟩⟩
                  case rest =>
                    clear HC12
                    try clear c1
                    try clear c2
                    try clear p2
                    try clear c5
                    try clear c5b0
                    try clear c6
                    try clear c6b0
                    try clear p6
                    try clear c7
                    try clear c10
                    try clear c10b0
                    try clear c10b1
                    try clear c13
                    try clear c13b0
                    try clear p2
                    try clear p6
                    obtain ⟨kq, x42_11, rfl, HA, HJ11, HO_7, HB⟩ := hcut
                    cases kq with
                    | zero => exact absurd HA.out (by simp [tidemillref22_Assign.j3])
                    | succ kj11 =>
                      have H := HA.out
                      clear HA
                      simp only [tidemillref22_Assign.j3] at H
                      by_cases c14 : x42_11 = true
                      · subst c14
                        have H1 : (if 0 ≤ x11_3 then (if x11_3 < (l2.length : Int) then (if (rd l2 x11_3) ≥ 0 then (if (rd l2 x11_3) < (l1.length : Int) then (if 0 ≤ (rd l2 x11_3) then (if rdOf false l1 (rd l2 x11_3) = true then ((tidemillref22_Count.f kj11 x7_3 (rd l2 x11_3)).bind fun t137 => (if t137 < t134 then (if x11_3 < (x7_3.length : Int) then (tidemillref22_Assign.l1 kj11 x0_3 l1 l2 (x7_3.set (x11_3 : Int).toNat (rd l2 x11_3)) t134 (wrap64 (x11_3 + 1))) else (none)) else (tidemillref22_Assign.l1 kj11 x0_3 l1 l2 x7_3 t134 (wrap64 (x11_3 + 1))))) else (tidemillref22_Assign.l1 kj11 x0_3 l1 l2 x7_3 t134 (wrap64 (x11_3 + 1)))) else (none)) else (tidemillref22_Assign.l1 kj11 x0_3 l1 l2 x7_3 t134 (wrap64 (x11_3 + 1)))) else (tidemillref22_Assign.l1 kj11 x0_3 l1 l2 x7_3 t134 (wrap64 (x11_3 + 1)))) else (none)) else (none)) = some r := by rw [if_pos rfl] at H; exact H
                        clear H
                        have H := H1
                        clear H1
                        by_cases c15 : 0 ≤ x11_3
                        · rw [if_pos c15] at H
                          have c15b0 : decide (0 ≤ x11_3) = true := decide_eq_true c15
                          clear c15
                          by_cases c16 : x11_3 < (l2.length : Int)
                          · rw [if_pos c16] at H
                            have c16b0 : decide (x11_3 < (l2.length : Int)) = true := decide_eq_true c16
                            clear c16
                            by_cases c17 : (rd l2 x11_3) ≥ 0
                            · rw [if_pos c17] at H
                              have c17b0 : decide (0 ≤ (rd l2 x11_3)) = true := decide_eq_true c17
                              clear c17
                              by_cases c18 : (rd l2 x11_3) < (l1.length : Int)
                              · rw [if_pos c18] at H
                                have c18b0 : decide ((rd l2 x11_3) < (l1.length : Int)) = true := decide_eq_true c18
                                clear c18
                                by_cases c19 : 0 ≤ (rd l2 x11_3)
                                · rw [if_pos c19] at H
                                  have c19b0 : decide (0 ≤ (rd l2 x11_3)) = true := decide_eq_true c19
                                  clear c19
                                  obtain ⟨bq20, hbq20⟩ : ∃ b_ : Bool, b_ = (rdOf false l1 (rd l2 x11_3)) := ⟨_, rfl⟩
                                  replace H : (if bq20 = true then ((tidemillref22_Count.f kj11 x7_3 (rd l2 x11_3)).bind fun t137 => (if t137 < t134 then (if x11_3 < (x7_3.length : Int) then (tidemillref22_Assign.l1 kj11 x0_3 l1 l2 (x7_3.set (x11_3 : Int).toNat (rd l2 x11_3)) t134 (wrap64 (x11_3 + 1))) else (none)) else (tidemillref22_Assign.l1 kj11 x0_3 l1 l2 x7_3 t134 (wrap64 (x11_3 + 1))))) else (tidemillref22_Assign.l1 kj11 x0_3 l1 l2 x7_3 t134 (wrap64 (x11_3 + 1)))) = some r := by rw [← hbq20] at H; exact H
                                  have Nbq20 := Aside0.mk hbq20
                                  clear hbq20
                                  by_cases c21 : bq20 = true
                                  · subst c21
                                    have H1 : ((tidemillref22_Count.f kj11 x7_3 (rd l2 x11_3)).bind fun t137 => (if t137 < t134 then (if x11_3 < (x7_3.length : Int) then (tidemillref22_Assign.l1 kj11 x0_3 l1 l2 (x7_3.set (x11_3 : Int).toNat (rd l2 x11_3)) t134 (wrap64 (x11_3 + 1))) else (none)) else (tidemillref22_Assign.l1 kj11 x0_3 l1 l2 x7_3 t134 (wrap64 (x11_3 + 1))))) = some r := by rw [if_pos rfl] at H; exact H
                                    clear H
                                    have H := H1
                                    clear H1
                                    replace H := Option.bind_eq_some_iff.mp H
                                    obtain ⟨t137, A220, H⟩ := H
                                    replace H : (if t137 < t134 then (if x11_3 < (x7_3.length : Int) then (tidemillref22_Assign.l1 kj11 x0_3 l1 l2 (x7_3.set (x11_3 : Int).toNat (rd l2 x11_3)) t134 (wrap64 (x11_3 + 1))) else (none)) else (tidemillref22_Assign.l1 kj11 x0_3 l1 l2 x7_3 t134 (wrap64 (x11_3 + 1)))) = some r := H
                                    have A22 := Aside0.mk A220
                                    clear A220
                                    by_cases c23 : t137 < t134
                                    · rw [if_pos c23] at H
                                      have c23b0 : decide (t137 < t134) = true := decide_eq_true c23
                                      clear c23
                                      by_cases c24 : x11_3 < (x7_3.length : Int)
                                      · rw [if_pos c24] at H
                                        have c24b0 : decide (x11_3 < (x7_3.length : Int)) = true := decide_eq_true c24
                                        clear c24
                                        obtain ⟨y138, hy138⟩ : ∃ y_ : List Int, y_ = (x7_3.set (x11_3 : Int).toNat (rd l2 x11_3)) := ⟨_, rfl⟩
                                        replace H : (tidemillref22_Assign.l1 kj11 x0_3 l1 l2 y138 t134 (wrap64 (x11_3 + 1))) = some r := by first | (rw [hy138]; with_reducible exact H) | (have H2_ := (Option.bind_some _ _).symm.trans H; rw [hy138]; with_reducible exact H2_) | (have H2_ := (Option.bind_some _ _).symm.trans H; with_reducible exact H2_) | with_reducible exact H | (rw [hy138]; exact H) | exact H
                                        have Ny138 := Aside0.mk hy138
                                        clear hy138
                                        have H' := Aside0.mk H
                                        clear H
                                        have p135 : 0 ≤ (x11_3 : Int) := of_decide_eq_true (by first | (with_reducible assumption) | assumption)
                                        have q135 : x11_3 < (l2.length : Int) := of_decide_eq_true (by first | (with_reducible assumption) | assumption)
                                        obtain ⟨ad135, e135, hx135_0⟩ := Kd.at_int HR2.out x11_3 p135 q135
                                        cases e135
                                        replace hx135_0 := (HB.out.cell (World.block_lt_of_cell? w _ hx135_0)).trans hx135_0
                                        replace p135 := eq_true p135
                                        replace q135 := eq_true q135
                                        have p136 : 0 ≤ ((rd l2 x11_3) : Int) := of_decide_eq_true (by first | (with_reducible assumption) | assumption)
                                        have q136 : (rd l2 x11_3) < (l1.length : Int) := of_decide_eq_true (by first | (with_reducible assumption) | assumption)
                                        obtain ⟨ad136, e136, hx136_0⟩ := Kd.at_bool HR1.out (rd l2 x11_3) p136 q136
                                        (try rw [← Nbq20.out] at hx136_0)
                                        cases e136
                                        replace hx136_0 := (HB.out.cell (World.block_lt_of_cell? w _ hx136_0)).trans hx136_0
                                        replace p136 := eq_true p136
                                        replace q136 := eq_true q136
                                        obtain ⟨Ao26, co26, eo26⟩ := Kd.R_slice HO_7.out
                                        subst eo26
                                        go_wp2_with (first | (go_at_call 26; (with_reducible refine (tidemillref22_Count.calls kj11 _ _ x7_3 (rd l2 x11_3) t137 _ ?side1 ?side2 A22.out).mono ?_); (case side1 => repeat (first | exact (Kd.R_reads' HO_7.out).2.2 | (with_reducible refine Kd.C_alloc ?_ _) | (with_reducible refine Kd.C_drewN ?_ _) | (with_reducible refine Kd.C_drew ?_))); (case side2 => exact (Kd.R_reads' HO_7.out).2.1); rintro e w' ⟨rfl, ⟨nd, rfl⟩⟩; (try (rw [drewN_self wc]; generalize hq_ : World.drewN wc _ = wc; have n0_ : Aside0 (Kd.R (Kd.int .i64) 3 wc w.heap.size (fun _ => True) (.slice Ao26 x7_3.length co26) x7_3) := ⟨by rw [← hq_]; exact (by (with_reducible repeat (first | apply Kd.R_alloc | apply Kd.R_drewN | apply Kd.R_drew)); exact HO_7.out)⟩; have n1_ : Aside0 (Below w.heap.size w wc) := ⟨by rw [← hq_]; exact (by repeat (first | (with_reducible first | exact HB.out | apply below_alloc | apply pw_below_drewN | apply below_drew1) | exact HB.out))⟩; clear HO_7 HB hq_; have HO_7 := n0_; have HB := n1_; clear n0_ n1_)); have p25 : 0 ≤ (x11_3 : Int) := of_decide_eq_true (by first | (with_reducible assumption) | assumption); have q25 : (x11_3 : Int) < ((x7_3.length : Int) : Int) := of_decide_eq_true (by first | (with_reducible assumption) | assumption); obtain ⟨go25, co25, eo25, gb25, gl25, cl25, HG25⟩ := Kd.R_form HO_7.out (by omega); (first | cases eo25 | (injection eo25 with ea_ en_ ec_; (first | subst ea_ | (injection ea_ with ea_; subst ea_)); subst ec_; clear en_)); have GB25 := Aside0.mk gb25; have GG25 := Aside0.mk HG25; clear gb25 gl25 HG25; obtain ⟨hx25_0, hf25_0⟩ := Kd.R_celln 0 HO_7.out (x11_3 : Int) p25 q25; replace p25 := eq_true p25; replace q25 := eq_true q25; obtain ⟨hy27_, hz27_⟩ := Kd.R_celln 0 HO_7.out (x11_3 : Int) (of_decide_eq_true (by first | (with_reducible assumption) | assumption)) (of_decide_eq_true (by first | (with_reducible assumption) | assumption)); have HP27 := Kd.R_putg HO_7.out (x11_3 : Int) (rd l2 x11_3)) | ((with_reducible refine gate_store (t := 3) (p := 73) rfl ?_); refine store_event (t := 3) (p := 73) (v := ?vo_w28) (w1 := (wc.setCell ⟨go25, (x11_3 : Int).toNat, none⟩ (.int .i64 (rd l2 x11_3)))) ?hg ?ho ?hn ?hr ?_; (case ho => rfl); (case hg => rfl); (case hn => rfl); (case hr => first | (go_simp; done) | (go_simp; rfl)); intro w28 hw; have hg : wc.grownBy w28 (some go25) := (by rw [hw]; exact HP27.2); have hp_ : Kd.R (Kd.int .i64) 3 w28 w.heap.size (fun _ => True) (.slice (some ⟨go25, 0, none⟩) x7_3.length co26) y138 := (by rw [hw, Ny138.out]; exact HP27.1); clear HP27; have n0_ := Aside0.mk (hp_); have n1_ := Aside0.mk ((by rw [hw]; exact below_set (HB.out) GB25.out : Below w.heap.size w w28)); clear HO_7; clear HB; have HO_7 := n0_; have HB := n1_; clear n0_ n1_; clear hg hw hp_))
                                        go_roundg kj11
                                        case measure => have := HJ3.out; have := HK2.out; have := HK3.out; have := HJ11.out; omega
                                        case rel => exact ⟨(y138), (wrap64 (x11_3 + 1)), (by first | rfl | (simp; done) | (simp [*]; done)), H', ⟨by have := HJ3.out; have := HK2.out; have := HK3.out; have := HJ11.out; omega⟩, ⟨by (with_reducible repeat (first | apply Kd.R_alloc | apply Kd.R_drewN | apply Kd.R_drew)); exact HO_7.out⟩, ⟨by repeat (first | (with_reducible first | exact HB.out | apply below_alloc | apply pw_below_drewN | apply below_drew1) | exact HB.out)⟩⟩
                                      · rw [if_neg c24] at H
                                        exact absurd H (by simp)
                                    · rw [if_neg c23] at H
                                      have c23b0 : decide (t137 < t134) = false := decide_eq_false c23
                                      clear c23
                                      have H' := Aside0.mk H
                                      clear H
                                      have p135 : 0 ≤ (x11_3 : Int) := of_decide_eq_true (by first | (with_reducible assumption) | assumption)
                                      have q135 : x11_3 < (l2.length : Int) := of_decide_eq_true (by first | (with_reducible assumption) | assumption)
                                      obtain ⟨ad135, e135, hx135_0⟩ := Kd.at_int HR2.out x11_3 p135 q135
                                      cases e135
                                      replace hx135_0 := (HB.out.cell (World.block_lt_of_cell? w _ hx135_0)).trans hx135_0
                                      replace p135 := eq_true p135
                                      replace q135 := eq_true q135
                                      have p136 : 0 ≤ ((rd l2 x11_3) : Int) := of_decide_eq_true (by first | (with_reducible assumption) | assumption)
                                      have q136 : (rd l2 x11_3) < (l1.length : Int) := of_decide_eq_true (by first | (with_reducible assumption) | assumption)
                                      obtain ⟨ad136, e136, hx136_0⟩ := Kd.at_bool HR1.out (rd l2 x11_3) p136 q136
                                      (try rw [← Nbq20.out] at hx136_0)
                                      cases e136
                                      replace hx136_0 := (HB.out.cell (World.block_lt_of_cell? w _ hx136_0)).trans hx136_0
                                      replace p136 := eq_true p136
                                      replace q136 := eq_true q136
                                      obtain ⟨Ao29, co29, eo29⟩ := Kd.R_slice HO_7.out
                                      subst eo29
                                      go_wp2_with (first | (go_at_call 26; (with_reducible refine (tidemillref22_Count.calls kj11 _ _ x7_3 (rd l2 x11_3) t137 _ ?side1 ?side2 A22.out).mono ?_); (case side1 => repeat (first | exact (Kd.R_reads' HO_7.out).2.2 | (with_reducible refine Kd.C_alloc ?_ _) | (with_reducible refine Kd.C_drewN ?_ _) | (with_reducible refine Kd.C_drew ?_))); (case side2 => exact (Kd.R_reads' HO_7.out).2.1); rintro e w' ⟨rfl, ⟨nd, rfl⟩⟩))
                                      go_roundg kj11
                                      case measure => have := HJ3.out; have := HK2.out; have := HK3.out; have := HJ11.out; omega
                                      case rel => exact ⟨(x7_3), (wrap64 (x11_3 + 1)), (by first | rfl | (simp; done) | (simp [*]; done)), H', ⟨by have := HJ3.out; have := HK2.out; have := HK3.out; have := HJ11.out; omega⟩, ⟨by (with_reducible repeat (first | apply Kd.R_alloc | apply Kd.R_drewN | apply Kd.R_drew)); exact HO_7.out⟩, ⟨by repeat (first | (with_reducible first | exact HB.out | apply below_alloc | apply pw_below_drewN | apply below_drew1) | exact HB.out)⟩⟩
                                  · replace c21 := Bool.eq_false_iff.mpr c21
                                    subst c21
                                    have H1 : (tidemillref22_Assign.l1 kj11 x0_3 l1 l2 x7_3 t134 (wrap64 (x11_3 + 1))) = some r := by rw [if_neg (show ¬ (false = true) by decide)] at H; exact H
                                    clear H
                                    have H := H1
                                    clear H1
                                    have H' := Aside0.mk H
                                    clear H
                                    have p135 : 0 ≤ (x11_3 : Int) := of_decide_eq_true (by first | (with_reducible assumption) | assumption)
                                    have q135 : x11_3 < (l2.length : Int) := of_decide_eq_true (by first | (with_reducible assumption) | assumption)
                                    obtain ⟨ad135, e135, hx135_0⟩ := Kd.at_int HR2.out x11_3 p135 q135
                                    cases e135
                                    replace hx135_0 := (HB.out.cell (World.block_lt_of_cell? w _ hx135_0)).trans hx135_0
                                    replace p135 := eq_true p135
                                    replace q135 := eq_true q135
                                    have p136 : 0 ≤ ((rd l2 x11_3) : Int) := of_decide_eq_true (by first | (with_reducible assumption) | assumption)
                                    have q136 : (rd l2 x11_3) < (l1.length : Int) := of_decide_eq_true (by first | (with_reducible assumption) | assumption)
                                    obtain ⟨ad136, e136, hx136_0⟩ := Kd.at_bool HR1.out (rd l2 x11_3) p136 q136
                                    (try rw [← Nbq20.out] at hx136_0)
                                    cases e136
                                    replace hx136_0 := (HB.out.cell (World.block_lt_of_cell? w _ hx136_0)).trans hx136_0
                                    replace p136 := eq_true p136
                                    replace q136 := eq_true q136
                                    go_wp2
                                    go_roundg kj11
                                    case measure => have := HJ3.out; have := HK2.out; have := HK3.out; have := HJ11.out; omega
                                    case rel => exact ⟨(x7_3), (wrap64 (x11_3 + 1)), (by first | rfl | (simp; done) | (simp [*]; done)), H', ⟨by have := HJ3.out; have := HK2.out; have := HK3.out; have := HJ11.out; omega⟩, ⟨by (with_reducible repeat (first | apply Kd.R_alloc | apply Kd.R_drewN | apply Kd.R_drew)); exact HO_7.out⟩, ⟨by repeat (first | (with_reducible first | exact HB.out | apply below_alloc | apply pw_below_drewN | apply below_drew1) | exact HB.out)⟩⟩
                                · rw [if_neg c19] at H
                                  exact absurd H (by simp)
                              · rw [if_neg c18] at H
                                have c18b0 : decide ((rd l2 x11_3) < (l1.length : Int)) = false := decide_eq_false c18
                                clear c18
                                have H' := Aside0.mk H
                                clear H
                                have p135 : 0 ≤ (x11_3 : Int) := of_decide_eq_true (by first | (with_reducible assumption) | assumption)
                                have q135 : x11_3 < (l2.length : Int) := of_decide_eq_true (by first | (with_reducible assumption) | assumption)
                                obtain ⟨ad135, e135, hx135_0⟩ := Kd.at_int HR2.out x11_3 p135 q135
                                cases e135
                                replace hx135_0 := (HB.out.cell (World.block_lt_of_cell? w _ hx135_0)).trans hx135_0
                                replace p135 := eq_true p135
                                replace q135 := eq_true q135
                                go_wp2
                                go_roundg kj11
                                case measure => have := HJ3.out; have := HK2.out; have := HK3.out; have := HJ11.out; omega
                                case rel => exact ⟨(x7_3), (wrap64 (x11_3 + 1)), (by first | rfl | (simp; done) | (simp [*]; done)), H', ⟨by have := HJ3.out; have := HK2.out; have := HK3.out; have := HJ11.out; omega⟩, ⟨by (with_reducible repeat (first | apply Kd.R_alloc | apply Kd.R_drewN | apply Kd.R_drew)); exact HO_7.out⟩, ⟨by repeat (first | (with_reducible first | exact HB.out | apply below_alloc | apply pw_below_drewN | apply below_drew1) | exact HB.out)⟩⟩
                            · rw [if_neg c17] at H
                              have c17b0 : decide (0 ≤ (rd l2 x11_3)) = false := decide_eq_false c17
                              clear c17
                              have H' := Aside0.mk H
                              clear H
                              have p135 : 0 ≤ (x11_3 : Int) := of_decide_eq_true (by first | (with_reducible assumption) | assumption)
                              have q135 : x11_3 < (l2.length : Int) := of_decide_eq_true (by first | (with_reducible assumption) | assumption)
                              obtain ⟨ad135, e135, hx135_0⟩ := Kd.at_int HR2.out x11_3 p135 q135
                              cases e135
                              replace hx135_0 := (HB.out.cell (World.block_lt_of_cell? w _ hx135_0)).trans hx135_0
                              replace p135 := eq_true p135
                              replace q135 := eq_true q135
                              go_wp2
                              go_roundg kj11
                              case measure => have := HJ3.out; have := HK2.out; have := HK3.out; have := HJ11.out; omega
                              case rel => exact ⟨(x7_3), (wrap64 (x11_3 + 1)), (by first | rfl | (simp; done) | (simp [*]; done)), H', ⟨by have := HJ3.out; have := HK2.out; have := HK3.out; have := HJ11.out; omega⟩, ⟨by (with_reducible repeat (first | apply Kd.R_alloc | apply Kd.R_drewN | apply Kd.R_drew)); exact HO_7.out⟩, ⟨by repeat (first | (with_reducible first | exact HB.out | apply below_alloc | apply pw_below_drewN | apply below_drew1) | exact HB.out)⟩⟩
                          · rw [if_neg c16] at H
                            exact absurd H (by simp)
                        · rw [if_neg c15] at H
                          exact absurd H (by simp)
                      · replace c14 := Bool.eq_false_iff.mpr c14
                        subst c14
                        have H1 : (tidemillref22_Assign.l2 kj11 x0_3 l1 x7_3 0) = some r := by rw [if_neg (show ¬ (false = true) by decide)] at H; exact H
                        clear H
                        have H := H1
                        clear H1
                        have H' := Aside0.mk H
                        clear H
                        go_wp2
                        go_loopg [13] kj11 (fun kq v13 w' => ∃ (x7_5 : List Int) (x13_5 : Int), v13 = .int .i64 x13_5 ∧ Aside0 (tidemillref22_Assign.l2 kq x0_3 l1 x7_5 x13_5 = some r) ∧ Aside0 (kq ≤ kj11) ∧ Aside0 (Kd.R (Kd.int .i64) 3 w' w.heap.size (fun _ => True) u7 x7_5) ∧ Aside0 (Below w.heap.size w w'))
                        case atStart => exact ⟨(x7_3), (0), (by first | rfl | (simp; done) | (simp [*]; done)), H', ⟨Nat.le_refl _⟩, ⟨by (with_reducible repeat (first | apply Kd.R_alloc | apply Kd.R_drewN | apply Kd.R_drew)); exact HO_7.out⟩, ⟨by repeat (first | (with_reducible first | exact HB.out | apply below_alloc | apply pw_below_drewN | apply below_drew1) | exact HB.out)⟩⟩
                        case round =>
                          clear H'
                          try clear c1
                          try clear p1
                          try clear q1
                          try clear hx1
                          try clear c2
                          try clear p2
                          try clear q2
                          try clear hx2
                          try clear c5
                          try clear c5b0
                          try clear c6
                          try clear c6b0
                          try clear p6
                          try clear c7
                          try clear c10
                          try clear c10b0
                          try clear c10b1
                          try clear c13
                          try clear c13b0
                          try clear p13
                          try clear q13
                          try clear hx13
                          try clear c14
                          try clear c15
                          try clear c15b0
                          try clear c16
                          try clear c16b0
                          try clear c17
                          try clear c17b0
                          try clear c18
                          try clear c18b0
                          try clear c19
                          try clear c19b0
                          try clear q20
                          try clear c21
                          try clear c23
                          try clear c23b0
                          try clear c24
                          try clear c24b0
                          try clear c25
                          try clear p25
                          try clear q25
                          try clear hx25
                          try clear hf25
                          try clear c27
                          try clear hx135_0
                          try clear hx136_0
                          try clear hx25_0
                          try clear p135
                          try clear p136
                          try clear p2
                          try clear p25
                          try clear p6
                          try clear q135
                          try clear q136
                          try clear q25
                          obtain ⟨x7_5, x13_5, rfl, HA, HK5, HO_7, HB⟩ := hrel
                          cases gk with
                          | zero => exact absurd HA.out (by simp [tidemillref22_Assign.l2])
                          | succ k5 =>
                            have H := HA.out
                            clear HA
                            simp only [tidemillref22_Assign.l2] at H
                            by_cases c30 : x13_5 < x0_3
                            · rw [if_pos c30] at H
                              have c30b0 : decide (x13_5 < x0_3) = true := decide_eq_true c30
                              clear c30
                              have H' := Aside0.mk H
                              clear H
                              go_wp2
                              go_loopg [14, 15] k5 (fun kq v14 v15 w' => ∃ (x14_6 : Int) (x15_6 : Int), v14 = .int .i64 x14_6 ∧ v15 = .int .i64 x15_6 ∧ Aside0 (tidemillref22_Assign.l3 kq x0_3 l1 x7_5 x13_5 x14_6 x15_6 = some r) ∧ Aside0 (kq ≤ k5) ∧ Aside0 (Kd.R (Kd.int .i64) 3 w' w.heap.size (fun _ => True) u7 x7_5) ∧ Aside0 (Below w.heap.size w w'))
                              case atStart => exact ⟨((-1)), (0), (by first | rfl | (simp; done) | (simp [*]; done)), (by first | rfl | (simp; done) | (simp [*]; done)), H', ⟨Nat.le_refl _⟩, ⟨by (with_reducible repeat (first | apply Kd.R_alloc | apply Kd.R_drewN | apply Kd.R_drew)); exact HO_7.out⟩, ⟨by repeat (first | (with_reducible first | exact HB.out | apply below_alloc | apply pw_below_drewN | apply below_drew1) | exact HB.out)⟩⟩
                              case round =>
                                clear H'
                                try clear c1
                                try clear p1
                                try clear q1
                                try clear hx1
                                try clear c2
                                try clear p2
                                try clear q2
                                try clear hx2
                                try clear c3
                                try clear c5
                                try clear c5b0
                                try clear c6
                                try clear c6b0
                                try clear p6
                                try clear c7
                                try clear c10
                                try clear c10b0
                                try clear c10b1
                                try clear c13
                                try clear c13b0
                                try clear p13
                                try clear q13
                                try clear hx13
                                try clear c14
                                try clear c15
                                try clear c15b0
                                try clear c16
                                try clear c16b0
                                try clear c17
                                try clear c17b0
                                try clear c18
                                try clear c18b0
                                try clear c19
                                try clear c19b0
                                try clear q20
                                try clear c21
                                try clear c23
                                try clear c23b0
                                try clear c24
                                try clear c24b0
                                try clear c25
                                try clear p25
                                try clear q25
                                try clear hx25
                                try clear hf25
                                try clear c27
                                try clear c30
                                try clear c30b0
                                try clear hx135_0
                                try clear hx136_0
                                try clear hx25_0
                                try clear p1
                                try clear p13
                                try clear p135
                                try clear p136
                                try clear p2
                                try clear p25
                                try clear p6
                                try clear q1
                                try clear q13
                                try clear q135
                                try clear q136
                                try clear q2
                                try clear q20
                                try clear q25
                                obtain ⟨x14_6, x15_6, rfl, rfl, HA, HK6, HO_7, HB⟩ := hrel
                                cases gk with
                                | zero => exact absurd HA.out (by simp [tidemillref22_Assign.l3])
                                | succ k6 =>
                                  have H := HA.out
                                  clear HA
                                  simp only [tidemillref22_Assign.l3] at H
                                  have HC31 := Aside0.mk H
                                  clear H
                                  go_upto_region 23 with (fail)
                                  go_cut [89] (fun v89 wc => ∃ (kq : Nat) (x89_30 : Bool), v89 = .bool x89_30 ∧ Aside0 (tidemillref22_Assign.j6 kq x0_3 l1 x7_5 x13_5 x14_6 x15_6 x89_30 = some r) ∧ Aside0 (kq ≤ k6) ∧ Aside0 (Kd.R (Kd.int .i64) 3 wc w.heap.size (fun _ => True) u7 x7_5) ∧ Aside0 (Below w.heap.size w wc))
                                  case first =>
                                    have H := HC31.out
                                    clear HC31
                                    by_cases c32 : x15_6 < (l1.length : Int)
                                    · rw [if_pos c32] at H
                                      have c32b0 : decide (x15_6 < (l1.length : Int)) = true := decide_eq_true c32
                                      clear c32
                                      (first | rw [c32b0] | (simp only [i64_w, i32_w]; rw [c32b0]) | skip)
                                      by_cases c33 : 0 ≤ x13_5
                                      · rw [if_pos c33] at H
                                        have c33b0 : decide (0 ≤ x13_5) = true := decide_eq_true c33
                                        clear c33
                                        by_cases c34 : x13_5 < (x7_5.length : Int)
                                        · rw [if_pos c34] at H
                                          have c34b0 : decide (x13_5 < (x7_5.length : Int)) = true := decide_eq_true c34
                                          clear c34
                                          have H' := Aside0.mk H
                                          clear H
                                          obtain ⟨Ao35, co35, eo35⟩ := Kd.R_slice HO_7.out
                                          subst eo35
                                          have p139 : 0 ≤ (x13_5 : Int) := of_decide_eq_true (by first | (with_reducible assumption) | assumption)
                                          have q139 : x13_5 < (x7_5.length : Int) := of_decide_eq_true (by first | (with_reducible assumption) | assumption)
                                          obtain ⟨ad139, e139, hx139_0⟩ := Kd.at_int (Kd.R_reads' HO_7.out).2.2 x13_5 p139 q139
                                          cases e139
                                          replace p139 := eq_true p139
                                          replace q139 := eq_true q139
                                          go_wp2
                                          go_meet
                                          case rel => exact ⟨_, (decide ((rd x7_5 x13_5) < 0)), (by first | rfl | (simp; done) | (simp [*]; done)), H', ⟨by have := HJ3.out; have := HK2.out; have := HK3.out; have := HJ11.out; have := HK5.out; have := HK6.out; first | omega | exact Nat.le_refl _⟩, ⟨by (with_reducible repeat (first | apply Kd.R_alloc | apply Kd.R_drewN | apply Kd.R_drew)); exact HO_7.out⟩, ⟨by repeat (first | (with_reducible first | exact HB.out | apply below_alloc | apply pw_below_drewN | apply below_drew1) | exact HB.out)⟩⟩
                                        · rw [if_neg c34] at H
                                          exact absurd H (by simp)
                                      · rw [if_neg c33] at H
                                        exact absurd H (by simp)
                                    · rw [if_neg c32] at H
                                      have c32b0 : decide (x15_6 < (l1.length : Int)) = false := decide_eq_false c32
                                      clear c32
                                      (first | rw [c32b0] | (simp only [i64_w, i32_w]; rw [c32b0]) | skip)
                                      have H' := Aside0.mk H
                                      clear H
                                      go_wp2
                                      go_meet
                                      case rel => exact ⟨_, (false), (by first | rfl | (simp; done) | (simp [*]; done)), H', ⟨by have := HJ3.out; have := HK2.out; have := HK3.out; have := HJ11.out; have := HK5.out; have := HK6.out; first | omega | exact Nat.le_refl _⟩, ⟨by (with_reducible repeat (first | apply Kd.R_alloc | apply Kd.R_drewN | apply Kd.R_drew)); exact HO_7.out⟩, ⟨by repeat (first | (with_reducible first | exact HB.out | apply below_alloc | apply pw_below_drewN | apply below_drew1) | exact HB.out)⟩⟩
                                  case rest =>
                                    clear HC31
                                    try clear c1
                                    try clear p1
                                    try clear q1
                                    try clear hx1
                                    try clear c2
                                    try clear p2
                                    try clear q2
                                    try clear hx2
                                    try clear c3
                                    try clear c5
                                    try clear c5b0
                                    try clear c6
                                    try clear c6b0
                                    try clear p6
                                    try clear c7
                                    try clear c10
                                    try clear c10b0
                                    try clear c10b1
                                    try clear c13
                                    try clear c13b0
                                    try clear p13
                                    try clear q13
                                    try clear hx13
                                    try clear c14
                                    try clear c15
                                    try clear c15b0
                                    try clear c16
                                    try clear c16b0
                                    try clear c17
                                    try clear c17b0
                                    try clear c18
                                    try clear c18b0
                                    try clear c19
                                    try clear c19b0
                                    try clear q20
                                    try clear c21
                                    try clear c23
                                    try clear c23b0
                                    try clear c24
                                    try clear c24b0
                                    try clear c25
                                    try clear p25
                                    try clear q25
                                    try clear hx25
                                    try clear hf25
                                    try clear c27
                                    try clear c30
                                    try clear c30b0
                                    try clear c32
                                    try clear c32b0
                                    try clear c33
                                    try clear c33b0
                                    try clear c34
                                    try clear c34b0
                                    try clear hx135_0
                                    try clear hx136_0
                                    try clear hx139_0
                                    try clear hx25_0
                                    try clear p1
                                    try clear p13
                                    try clear p135
                                    try clear p136
                                    try clear p139
                                    try clear p2
                                    try clear p25
                                    try clear p6
                                    try clear q1
                                    try clear q13
                                    try clear q135
                                    try clear q136
                                    try clear q139
                                    try clear q2
                                    try clear q20
                                    try clear q25
                                    obtain ⟨kq, x89_30, rfl, HA, HJ30, HO_7, HB⟩ := hcut
                                    cases kq with
                                    | zero => exact absurd HA.out (by simp [tidemillref22_Assign.j6])
                                    | succ kj30 =>
                                      have H := HA.out
                                      clear HA
                                      simp only [tidemillref22_Assign.j6] at H
                                      by_cases c36 : x89_30 = true
                                      · subst c36
                                        have H1 : (if 0 ≤ x15_6 then (if x15_6 < (l1.length : Int) then (if rdOf false l1 x15_6 = true then (if x14_6 < 0 then (tidemillref22_Assign.l3 kj30 x0_3 l1 x7_5 x13_5 x15_6 (wrap64 (x15_6 + 1))) else ((tidemillref22_Count.f kj30 x7_5 x15_6).bind fun t142 => ((tidemillref22_Count.f kj30 x7_5 x14_6).bind fun t143 => (if t142 < t143 then (tidemillref22_Assign.l3 kj30 x0_3 l1 x7_5 x13_5 x15_6 (wrap64 (x15_6 + 1))) else (tidemillref22_Assign.l3 kj30 x0_3 l1 x7_5 x13_5 x14_6 (wrap64 (x15_6 + 1))))))) else (tidemillref22_Assign.l3 kj30 x0_3 l1 x7_5 x13_5 x14_6 (wrap64 (x15_6 + 1)))) else (none)) else (none)) = some r := by rw [if_pos rfl] at H; exact H
                                        clear H
                                        have H := H1
                                        clear H1
                                        by_cases c37 : 0 ≤ x15_6
                                        · rw [if_pos c37] at H
                                          have c37b0 : decide (0 ≤ x15_6) = true := decide_eq_true c37
                                          clear c37
                                          by_cases c38 : x15_6 < (l1.length : Int)
                                          · rw [if_pos c38] at H
                                            have c38b0 : decide (x15_6 < (l1.length : Int)) = true := decide_eq_true c38
                                            clear c38
                                            obtain ⟨bq39, hbq39⟩ : ∃ b_ : Bool, b_ = (rdOf false l1 x15_6) := ⟨_, rfl⟩
                                            replace H : (if bq39 = true then (if x14_6 < 0 then (tidemillref22_Assign.l3 kj30 x0_3 l1 x7_5 x13_5 x15_6 (wrap64 (x15_6 + 1))) else ((tidemillref22_Count.f kj30 x7_5 x15_6).bind fun t142 => ((tidemillref22_Count.f kj30 x7_5 x14_6).bind fun t143 => (if t142 < t143 then (tidemillref22_Assign.l3 kj30 x0_3 l1 x7_5 x13_5 x15_6 (wrap64 (x15_6 + 1))) else (tidemillref22_Assign.l3 kj30 x0_3 l1 x7_5 x13_5 x14_6 (wrap64 (x15_6 + 1))))))) else (tidemillref22_Assign.l3 kj30 x0_3 l1 x7_5 x13_5 x14_6 (wrap64 (x15_6 + 1)))) = some r := by rw [← hbq39] at H; exact H
                                            have Nbq39 := Aside0.mk hbq39
                                            clear hbq39
                                            by_cases c40 : bq39 = true
                                            · subst c40
                                              have H1 : (if x14_6 < 0 then (tidemillref22_Assign.l3 kj30 x0_3 l1 x7_5 x13_5 x15_6 (wrap64 (x15_6 + 1))) else ((tidemillref22_Count.f kj30 x7_5 x15_6).bind fun t142 => ((tidemillref22_Count.f kj30 x7_5 x14_6).bind fun t143 => (if t142 < t143 then (tidemillref22_Assign.l3 kj30 x0_3 l1 x7_5 x13_5 x15_6 (wrap64 (x15_6 + 1))) else (tidemillref22_Assign.l3 kj30 x0_3 l1 x7_5 x13_5 x14_6 (wrap64 (x15_6 + 1))))))) = some r := by rw [if_pos rfl] at H; exact H
                                              clear H
                                              have H := H1
                                              clear H1
                                              by_cases c41 : x14_6 < 0
                                              · rw [if_pos c41] at H
                                                have c41b0 : decide (x14_6 < 0) = true := decide_eq_true c41
                                                clear c41
                                                have H' := Aside0.mk H
                                                clear H
                                                have p141 : 0 ≤ (x15_6 : Int) := of_decide_eq_true (by first | (with_reducible assumption) | assumption)
                                                have q141 : x15_6 < (l1.length : Int) := of_decide_eq_true (by first | (with_reducible assumption) | assumption)
                                                obtain ⟨ad141, e141, hx141_0⟩ := Kd.at_bool HR1.out x15_6 p141 q141
                                                (try rw [← Nbq39.out] at hx141_0)
                                                cases e141
                                                replace hx141_0 := (HB.out.cell (World.block_lt_of_cell? w _ hx141_0)).trans hx141_0
                                                replace p141 := eq_true p141
                                                replace q141 := eq_true q141
                                                go_wp2
                                                go_roundg kj30
                                                case measure => have := HJ3.out; have := HK2.out; have := HK3.out; have := HJ11.out; have := HK5.out; have := HK6.out; have := HJ30.out; omega
                                                case rel => exact ⟨(x15_6), (wrap64 (x15_6 + 1)), (by first | rfl | (simp; done) | (simp [*]; done)), (by first | rfl | (simp; done) | (simp [*]; done)), H', ⟨by have := HJ3.out; have := HK2.out; have := HK3.out; have := HJ11.out; have := HK5.out; have := HK6.out; have := HJ30.out; omega⟩, ⟨by (with_reducible repeat (first | apply Kd.R_alloc | apply Kd.R_drewN | apply Kd.R_drew)); exact HO_7.out⟩, ⟨by repeat (first | (with_reducible first | exact HB.out | apply below_alloc | apply pw_below_drewN | apply below_drew1) | exact HB.out)⟩⟩
                                              · rw [if_neg c41] at H
                                                have c41b0 : decide (x14_6 < 0) = false := decide_eq_false c41
                                                clear c41
                                                replace H := Option.bind_eq_some_iff.mp H
                                                obtain ⟨t142, A420, H⟩ := H
                                                replace H : ((tidemillref22_Count.f kj30 x7_5 x14_6).bind fun t143 => (if t142 < t143 then (tidemillref22_Assign.l3 kj30 x0_3 l1 x7_5 x13_5 x15_6 (wrap64 (x15_6 + 1))) else (tidemillref22_Assign.l3 kj30 x0_3 l1 x7_5 x13_5 x14_6 (wrap64 (x15_6 + 1))))) = some r := H
                                                have A42 := Aside0.mk A420
                                                clear A420
                                                replace H := Option.bind_eq_some_iff.mp H
                                                obtain ⟨t143, A430, H⟩ := H
                                                replace H : (if t142 < t143 then (tidemillref22_Assign.l3 kj30 x0_3 l1 x7_5 x13_5 x15_6 (wrap64 (x15_6 + 1))) else (tidemillref22_Assign.l3 kj30 x0_3 l1 x7_5 x13_5 x14_6 (wrap64 (x15_6 + 1)))) = some r := H
                                                have A43 := Aside0.mk A430
                                                clear A430
                                                by_cases c44 : t142 < t143
                                                · rw [if_pos c44] at H
                                                  have c44b0 : decide (t142 < t143) = true := decide_eq_true c44
                                                  clear c44
                                                  have H' := Aside0.mk H
                                                  clear H
                                                  have p141 : 0 ≤ (x15_6 : Int) := of_decide_eq_true (by first | (with_reducible assumption) | assumption)
                                                  have q141 : x15_6 < (l1.length : Int) := of_decide_eq_true (by first | (with_reducible assumption) | assumption)
                                                  obtain ⟨ad141, e141, hx141_0⟩ := Kd.at_bool HR1.out x15_6 p141 q141
                                                  (try rw [← Nbq39.out] at hx141_0)
                                                  cases e141
                                                  replace hx141_0 := (HB.out.cell (World.block_lt_of_cell? w _ hx141_0)).trans hx141_0
                                                  replace p141 := eq_true p141
                                                  replace q141 := eq_true q141
                                                  obtain ⟨Ao45, co45, eo45⟩ := Kd.R_slice HO_7.out
                                                  subst eo45
                                                  go_wp2_with (first | (go_at_call 26; (with_reducible refine (tidemillref22_Count.calls kj30 _ _ x7_5 x15_6 t142 _ ?side1 ?side2 A42.out).mono ?_); (case side1 => repeat (first | exact (Kd.R_reads' HO_7.out).2.2 | (with_reducible refine Kd.C_alloc ?_ _) | (with_reducible refine Kd.C_drewN ?_ _) | (with_reducible refine Kd.C_drew ?_))); (case side2 => exact (Kd.R_reads' HO_7.out).2.1); rintro e w' ⟨rfl, ⟨nd, rfl⟩⟩) | (go_at_call 26; (with_reducible refine (tidemillref22_Count.calls kj30 _ _ x7_5 x14_6 t143 _ ?side1 ?side2 A43.out).mono ?_); (case side1 => repeat (first | exact (Kd.R_reads' HO_7.out).2.2 | (with_reducible refine Kd.C_alloc ?_ _) | (with_reducible refine Kd.C_drewN ?_ _) | (with_reducible refine Kd.C_drew ?_))); (case side2 => exact (Kd.R_reads' HO_7.out).2.1); rintro e w' ⟨rfl, ⟨nd, rfl⟩⟩))
                                                  go_roundg kj30
                                                  case measure => have := HJ3.out; have := HK2.out; have := HK3.out; have := HJ11.out; have := HK5.out; have := HK6.out; have := HJ30.out; omega
                                                  case rel => exact ⟨(x15_6), (wrap64 (x15_6 + 1)), (by first | rfl | (simp; done) | (simp [*]; done)), (by first | rfl | (simp; done) | (simp [*]; done)), H', ⟨by have := HJ3.out; have := HK2.out; have := HK3.out; have := HJ11.out; have := HK5.out; have := HK6.out; have := HJ30.out; omega⟩, ⟨by (with_reducible repeat (first | apply Kd.R_alloc | apply Kd.R_drewN | apply Kd.R_drew)); exact HO_7.out⟩, ⟨by repeat (first | (with_reducible first | exact HB.out | apply below_alloc | apply pw_below_drewN | apply below_drew1) | exact HB.out)⟩⟩
                                                · rw [if_neg c44] at H
                                                  have c44b0 : decide (t142 < t143) = false := decide_eq_false c44
                                                  clear c44
                                                  have H' := Aside0.mk H
                                                  clear H
                                                  have p141 : 0 ≤ (x15_6 : Int) := of_decide_eq_true (by first | (with_reducible assumption) | assumption)
                                                  have q141 : x15_6 < (l1.length : Int) := of_decide_eq_true (by first | (with_reducible assumption) | assumption)
                                                  obtain ⟨ad141, e141, hx141_0⟩ := Kd.at_bool HR1.out x15_6 p141 q141
                                                  (try rw [← Nbq39.out] at hx141_0)
                                                  cases e141
                                                  replace hx141_0 := (HB.out.cell (World.block_lt_of_cell? w _ hx141_0)).trans hx141_0
                                                  replace p141 := eq_true p141
                                                  replace q141 := eq_true q141
                                                  obtain ⟨Ao46, co46, eo46⟩ := Kd.R_slice HO_7.out
                                                  subst eo46
                                                  go_wp2_with (first | (go_at_call 26; (with_reducible refine (tidemillref22_Count.calls kj30 _ _ x7_5 x15_6 t142 _ ?side1 ?side2 A42.out).mono ?_); (case side1 => repeat (first | exact (Kd.R_reads' HO_7.out).2.2 | (with_reducible refine Kd.C_alloc ?_ _) | (with_reducible refine Kd.C_drewN ?_ _) | (with_reducible refine Kd.C_drew ?_))); (case side2 => exact (Kd.R_reads' HO_7.out).2.1); rintro e w' ⟨rfl, ⟨nd, rfl⟩⟩) | (go_at_call 26; (with_reducible refine (tidemillref22_Count.calls kj30 _ _ x7_5 x14_6 t143 _ ?side1 ?side2 A43.out).mono ?_); (case side1 => repeat (first | exact (Kd.R_reads' HO_7.out).2.2 | (with_reducible refine Kd.C_alloc ?_ _) | (with_reducible refine Kd.C_drewN ?_ _) | (with_reducible refine Kd.C_drew ?_))); (case side2 => exact (Kd.R_reads' HO_7.out).2.1); rintro e w' ⟨rfl, ⟨nd, rfl⟩⟩))
                                                  go_roundg kj30
                                                  case measure => have := HJ3.out; have := HK2.out; have := HK3.out; have := HJ11.out; have := HK5.out; have := HK6.out; have := HJ30.out; omega
                                                  case rel => exact ⟨(x14_6), (wrap64 (x15_6 + 1)), (by first | rfl | (simp; done) | (simp [*]; done)), (by first | rfl | (simp; done) | (simp [*]; done)), H', ⟨by have := HJ3.out; have := HK2.out; have := HK3.out; have := HJ11.out; have := HK5.out; have := HK6.out; have := HJ30.out; omega⟩, ⟨by (with_reducible repeat (first | apply Kd.R_alloc | apply Kd.R_drewN | apply Kd.R_drew)); exact HO_7.out⟩, ⟨by repeat (first | (with_reducible first | exact HB.out | apply below_alloc | apply pw_below_drewN | apply below_drew1) | exact HB.out)⟩⟩
                                            · replace c40 := Bool.eq_false_iff.mpr c40
                                              subst c40
                                              have H1 : (tidemillref22_Assign.l3 kj30 x0_3 l1 x7_5 x13_5 x14_6 (wrap64 (x15_6 + 1))) = some r := by rw [if_neg (show ¬ (false = true) by decide)] at H; exact H
                                              clear H
                                              have H := H1
                                              clear H1
                                              have H' := Aside0.mk H
                                              clear H
                                              have p141 : 0 ≤ (x15_6 : Int) := of_decide_eq_true (by first | (with_reducible assumption) | assumption)
                                              have q141 : x15_6 < (l1.length : Int) := of_decide_eq_true (by first | (with_reducible assumption) | assumption)
                                              obtain ⟨ad141, e141, hx141_0⟩ := Kd.at_bool HR1.out x15_6 p141 q141
                                              (try rw [← Nbq39.out] at hx141_0)
                                              cases e141
                                              replace hx141_0 := (HB.out.cell (World.block_lt_of_cell? w _ hx141_0)).trans hx141_0
                                              replace p141 := eq_true p141
                                              replace q141 := eq_true q141
                                              go_wp2
                                              go_roundg kj30
                                              case measure => have := HJ3.out; have := HK2.out; have := HK3.out; have := HJ11.out; have := HK5.out; have := HK6.out; have := HJ30.out; omega
                                              case rel => exact ⟨(x14_6), (wrap64 (x15_6 + 1)), (by first | rfl | (simp; done) | (simp [*]; done)), (by first | rfl | (simp; done) | (simp [*]; done)), H', ⟨by have := HJ3.out; have := HK2.out; have := HK3.out; have := HJ11.out; have := HK5.out; have := HK6.out; have := HJ30.out; omega⟩, ⟨by (with_reducible repeat (first | apply Kd.R_alloc | apply Kd.R_drewN | apply Kd.R_drew)); exact HO_7.out⟩, ⟨by repeat (first | (with_reducible first | exact HB.out | apply below_alloc | apply pw_below_drewN | apply below_drew1) | exact HB.out)⟩⟩
                                          · rw [if_neg c38] at H
                                            exact absurd H (by simp)
                                        · rw [if_neg c37] at H
                                          exact absurd H (by simp)
                                      · replace c36 := Bool.eq_false_iff.mpr c36
                                        subst c36
                                        have H1 : (if x14_6 ≥ 0 then (if 0 ≤ x13_5 then (if x13_5 < (x7_5.length : Int) then (tidemillref22_Assign.l2 kj30 x0_3 l1 (x7_5.set (x13_5 : Int).toNat x14_6) (wrap64 (x13_5 + 1))) else (none)) else (none)) else (tidemillref22_Assign.l2 kj30 x0_3 l1 x7_5 (wrap64 (x13_5 + 1)))) = some r := by rw [if_neg (show ¬ (false = true) by decide)] at H; exact H
                                        clear H
                                        have H := H1
                                        clear H1
                                        by_cases c47 : x14_6 ≥ 0
                                        · rw [if_pos c47] at H
                                          have c47b0 : decide (0 ≤ x14_6) = true := decide_eq_true c47
                                          clear c47
                                          by_cases c48 : 0 ≤ x13_5
                                          · rw [if_pos c48] at H
                                            have c48b0 : decide (0 ≤ x13_5) = true := decide_eq_true c48
                                            clear c48
                                            by_cases c49 : x13_5 < (x7_5.length : Int)
                                            · rw [if_pos c49] at H
                                              have c49b0 : decide (x13_5 < (x7_5.length : Int)) = true := decide_eq_true c49
                                              clear c49
                                              obtain ⟨y140, hy140⟩ : ∃ y_ : List Int, y_ = (x7_5.set (x13_5 : Int).toNat x14_6) := ⟨_, rfl⟩
                                              replace H : (tidemillref22_Assign.l2 kj30 x0_3 l1 y140 (wrap64 (x13_5 + 1))) = some r := by first | (rw [hy140]; with_reducible exact H) | (have H2_ := (Option.bind_some _ _).symm.trans H; rw [hy140]; with_reducible exact H2_) | (have H2_ := (Option.bind_some _ _).symm.trans H; with_reducible exact H2_) | with_reducible exact H | (rw [hy140]; exact H) | exact H
                                              have Ny140 := Aside0.mk hy140
                                              clear hy140
                                              have H' := Aside0.mk H
                                              clear H
                                              have p50 : 0 ≤ (x13_5 : Int) := of_decide_eq_true (by first | (with_reducible assumption) | assumption)
                                              have q50 : (x13_5 : Int) < ((x7_5.length : Int) : Int) := of_decide_eq_true (by first | (with_reducible assumption) | assumption)
                                              obtain ⟨go50, co50, eo50, gb50, gl50, cl50, HG50⟩ := Kd.R_form HO_7.out (by omega)
                                              (first | cases eo50 | (injection eo50 with ea_ en_ ec_; (first | subst ea_ | (injection ea_ with ea_; subst ea_)); subst ec_; clear en_))
                                              have GB50 := Aside0.mk gb50
                                              have GG50 := Aside0.mk HG50
                                              clear gb50 gl50 HG50
                                              obtain ⟨hx50_0, hf50_0⟩ := Kd.R_celln 0 HO_7.out (x13_5 : Int) p50 q50
                                              replace p50 := eq_true p50
                                              replace q50 := eq_true q50
                                              have HP51 := Kd.R_putg HO_7.out (x13_5 : Int) x14_6
                                              go_wp2_with (first | ((with_reducible refine gate_store (t := 3) (p := 115) rfl ?_); refine store_event (t := 3) (p := 115) (v := ?vo_w52) (w1 := (wc.setCell ⟨go50, (x13_5 : Int).toNat, none⟩ (.int .i64 x14_6))) ?hg ?ho ?hn ?hr ?_; (case ho => rfl); (case hg => rfl); (case hn => rfl); (case hr => first | (go_simp; done) | (go_simp; rfl)); intro w52 hw; have hg : wc.grownBy w52 (some go50) := (by rw [hw]; exact HP51.2); have hp_ : Kd.R (Kd.int .i64) 3 w52 w.heap.size (fun _ => True) (.slice (some ⟨go50, 0, none⟩) x7_5.length co50) y140 := (by rw [hw, Ny140.out]; exact HP51.1); clear HP51; have n0_ := Aside0.mk (hp_); have n1_ := Aside0.mk ((by rw [hw]; exact below_set (HB.out) GB50.out : Below w.heap.size w w52)); clear HO_7; clear HB; have HO_7 := n0_; have HB := n1_; clear n0_ n1_; clear hg hw hp_))
                                              go_roundg kj30
                                              case measure => have := HJ3.out; have := HK2.out; have := HK3.out; have := HJ11.out; have := HK5.out; have := HK6.out; have := HJ30.out; omega
                                              case rel => exact ⟨(y140), (wrap64 (x13_5 + 1)), (by first | rfl | (simp; done) | (simp [*]; done)), H', ⟨by have := HJ3.out; have := HK2.out; have := HK3.out; have := HJ11.out; have := HK5.out; have := HK6.out; have := HJ30.out; omega⟩, ⟨by (with_reducible repeat (first | apply Kd.R_alloc | apply Kd.R_drewN | apply Kd.R_drew)); exact HO_7.out⟩, ⟨by repeat (first | (with_reducible first | exact HB.out | apply below_alloc | apply pw_below_drewN | apply below_drew1) | exact HB.out)⟩⟩
                                            · rw [if_neg c49] at H
                                              exact absurd H (by simp)
                                          · rw [if_neg c48] at H
                                            exact absurd H (by simp)
                                        · rw [if_neg c47] at H
                                          have c47b0 : decide (0 ≤ x14_6) = false := decide_eq_false c47
                                          clear c47
                                          have H' := Aside0.mk H
                                          clear H
                                          go_wp2
                                          go_roundg kj30
                                          case measure => have := HJ3.out; have := HK2.out; have := HK3.out; have := HJ11.out; have := HK5.out; have := HK6.out; have := HJ30.out; omega
                                          case rel => exact ⟨(x7_5), (wrap64 (x13_5 + 1)), (by first | rfl | (simp; done) | (simp [*]; done)), H', ⟨by have := HJ3.out; have := HK2.out; have := HK3.out; have := HJ11.out; have := HK5.out; have := HK6.out; have := HJ30.out; omega⟩, ⟨by (with_reducible repeat (first | apply Kd.R_alloc | apply Kd.R_drewN | apply Kd.R_drew)); exact HO_7.out⟩, ⟨by repeat (first | (with_reducible first | exact HB.out | apply below_alloc | apply pw_below_drewN | apply below_drew1) | exact HB.out)⟩⟩
                            · rw [if_neg c30] at H
                              have c30b0 : decide (x13_5 < x0_3) = false := decide_eq_false c30
                              clear c30
                              obtain rfl := Option.some.inj H
                              go_wp2
                              go_ret
                              exact ⟨_, by first | rfl | (simp [errW_none, errW_some] <;> rfl) | (simp [*, errW_none, errW_some] <;> rfl), by (with_reducible repeat (first | apply Kd.R_alloc | apply Kd.R_drewN | apply Kd.R_drew)); exact HO_7.out, by repeat (first | (with_reducible first | exact HB.out | apply below_alloc | apply pw_below_drewN | apply below_drew1) | exact HB.out)⟩

end Go.Proofs.Ytjngkndiokfibaa.PAsgnGives

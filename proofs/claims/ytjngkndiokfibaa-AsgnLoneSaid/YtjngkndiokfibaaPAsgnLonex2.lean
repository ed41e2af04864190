-- Written by a turned copy of the print, with contracts that this session proved by hand.
import Derived.Test.YtjngkndiokfibaaPAsgnLonex0
import Derived.Test.YtjngkndiokfibaaPAsgnLonex1
namespace Go.Proofs.Ytjngkndiokfibaa.PAsgnLone
open Go.RowKit Go.Proofs.YtjngkndiokfibaaW.PrintWords Go.Proofs.YtjngkndiokfibaaW.PrintLast Go.Proofs.YtjngkndiokfibaaW.PrintMore
attribute [local go_sem] max2_int min2_int max_two min_two max_three min_three max_four min_four   -- for this text's walks alone
set_option linter.unusedVariables false
set_option linter.unusedSimpArgs false

/-! ### tidemilllaw22_AsgnLone: function 8 -/
mutual
def tidemilllaw22_AsgnLone.j0 : Nat → Int → Bool → Int → Int → List Bool → List Int → List Int → Bool → Option (Bool)
  | 0, _, _, _, _, _, _, _, _ => none
  | k + 1, x0, x7, x8, x9, x10, x11, x12, x50 => if x50 = true then (some false) else (tidemilllaw22_AsgnLone.l0 k x0 x7 x8 x9 x10 x11 x12 0)
def tidemilllaw22_AsgnLone.l0 : Nat → Int → Bool → Int → Int → List Bool → List Int → List Int → Int → Option (Bool)
  | 0, _, _, _, _, _, _, _, _ => none
  | k + 1, x0, x7, x8, x9, x10, x11, x12, x13 => if x13 < (wrap64 (x0)) then (if 0 ≤ x13 then (if x13 < (x11.length : Int) then (if (rd x11 x13) = (-1) then (if x13 < (x12.length : Int) then (if (rd x12 x13) = x9 then (tidemilllaw22_AsgnLone.l0 k x0 x7 x8 x9 x10 x11 x12 (wrap64 (x13 + 1))) else (some false)) else (none)) else (some false)) else (none)) else (none)) else (tidemilllaw22_AsgnLone.l1 k x0 x7 x8 x9 x10 0)
def tidemilllaw22_AsgnLone.l1 : Nat → Int → Bool → Int → Int → List Bool → Int → Option (Bool)
  | 0, _, _, _, _, _, _ => none
  | k + 1, x0, x7, x8, x9, x10, x14 => if x14 < x8 then (if 0 ≤ x14 then (if x14 < (x10.length : Int) then (tidemilllaw22_AsgnLone.l1 k x0 x7 x8 x9 (x10.set (x14 : Int).toNat true) (wrap64 (x14 + 1))) else (none)) else (none)) else (tidemilllaw22_AsgnLone.l2 k x0 x7 x8 x9 x10 ([] : List Int) 0)
def tidemilllaw22_AsgnLone.l2 : Nat → Int → Bool → Int → Int → List Bool → List Int → Int → Option (Bool)
  | 0, _, _, _, _, _, _, _ => none
  | k + 1, x0, x7, x8, x9, x10, x15, x16 => if x16 < (wrap64 (x0)) then (if x8 = 0 then (none) else (if x15.length < 17592186044416 then (tidemilllaw22_AsgnLone.l2 k x0 x7 x8 x9 x10 (x15 ++ [Int.tmod (wrap64 (x16 + x9)) x8]) (wrap64 (x16 + 1))) else (none))) else (if x7 = true then ((asgn_Assign.f (wrap64 (x0)) x10 x15).bind fun t140 => ((tidemillref01_Same.f k t140 x15).bind fun t143 => (some t143))) else (some false))
end
def tidemilllaw22_AsgnLone.f (k : Nat) (a0 : Int) (a1 : Int) (a2 : Int) : Option (Bool) := (tidemilllaw22_shown.f k).bind fun t123 => (if (wrap64 (1 + (wrap64 (Int.tmod a1 16)))) = 0 then (none) else (if 0 ≤ (wrap64 (1 + (wrap64 (Int.tmod a1 16)))) then (if (wrap64 (1 + (wrap64 (Int.tmod a1 16))) : Int).toNat ≤ 281474976710656 then ((some (List.replicate (wrap64 (1 + (wrap64 (Int.tmod a1 16))) : Int).toNat false : List Bool)).bind fun y124 => ((asgn_Assign.f (wrap64 (a0)) y124 ([] : List Int)).bind fun t127 => (if 0 ≤ (Int.tmod (wrap64 (a2)) (wrap64 (1 + (wrap64 (Int.tmod a1 16))))) then (if (Int.tmod (wrap64 (a2)) (wrap64 (1 + (wrap64 (Int.tmod a1 16))))) < (y124.length : Int) then ((some (y124.set ((Int.tmod (wrap64 (a2)) (wrap64 (1 + (wrap64 (Int.tmod a1 16))))) : Int).toNat true : List Bool)).bind fun y130 => ((asgn_Assign.f (wrap64 (a0)) y130 ([] : List Int)).bind fun t131 => (if (t127.length : Int) = (wrap64 (a0)) then (tidemilllaw22_AsgnLone.j0 k a0 t123 (wrap64 (1 + (wrap64 (Int.tmod a1 16)))) (Int.tmod (wrap64 (a2)) (wrap64 (1 + (wrap64 (Int.tmod a1 16))))) y130 t127 t131 ((t131.length : Int) != (wrap64 (a0)))) else (tidemilllaw22_AsgnLone.j0 k a0 t123 (wrap64 (1 + (wrap64 (Int.tmod a1 16)))) (Int.tmod (wrap64 (a2)) (wrap64 (1 + (wrap64 (Int.tmod a1 16))))) y130 t127 t131 true)))) else (none)) else (none)))) else (none)) else (none)))
theorem tidemilllaw22_AsgnLone.mono_l : ∀ k, (∀ y0 y1 y2 y3 y4 y5 y6 y7, LeO (tidemilllaw22_AsgnLone.j0 k y0 y1 y2 y3 y4 y5 y6 y7) (tidemilllaw22_AsgnLone.j0 (k + 1) y0 y1 y2 y3 y4 y5 y6 y7)) ∧ (∀ y0 y1 y2 y3 y4 y5 y6 y7, LeO (tidemilllaw22_AsgnLone.l0 k y0 y1 y2 y3 y4 y5 y6 y7) (tidemilllaw22_AsgnLone.l0 (k + 1) y0 y1 y2 y3 y4 y5 y6 y7)) ∧ (∀ y0 y1 y2 y3 y4 y5, LeO (tidemilllaw22_AsgnLone.l1 k y0 y1 y2 y3 y4 y5) (tidemilllaw22_AsgnLone.l1 (k + 1) y0 y1 y2 y3 y4 y5)) ∧ (∀ y0 y1 y2 y3 y4 y5 y6, LeO (tidemilllaw22_AsgnLone.l2 k y0 y1 y2 y3 y4 y5 y6) (tidemilllaw22_AsgnLone.l2 (k + 1) y0 y1 y2 y3 y4 y5 y6))
  | 0 => ⟨fun _ _ _ _ _ _ _ _ r h => by simp [tidemilllaw22_AsgnLone.j0] at h, fun _ _ _ _ _ _ _ _ r h => by simp [tidemilllaw22_AsgnLone.l0] at h, fun _ _ _ _ _ _ r h => by simp [tidemilllaw22_AsgnLone.l1] at h, fun _ _ _ _ _ _ _ r h => by simp [tidemilllaw22_AsgnLone.l2] at h⟩
  | k + 1 => by
    obtain ⟨ih0, ih1, ih2, ih3⟩ := tidemilllaw22_AsgnLone.mono_l k
    refine ⟨?_, ?_, ?_, ?_⟩
    · intro y0 y1 y2 y3 y4 y5 y6 y7
      unfold tidemilllaw22_AsgnLone.j0
      repeat' first
      | (with_reducible exact ih0 _ _ _ _ _ _ _ _)
      | (with_reducible exact ih1 _ _ _ _ _ _ _ _)
      | (with_reducible exact ih2 _ _ _ _ _ _)
      | (with_reducible exact ih3 _ _ _ _ _ _ _)
      | (with_reducible exact tidemilllaw22_shown.mono _)
      | (with_reducible exact tidemillref01_Same.mono _ _ _)
      | (with_reducible exact LeO.refl _)
      | (with_reducible exact LeO.none _)
      | (with_reducible refine LeO.ite ?_ ?_)
      | (with_reducible refine LeO.bind ?_ (fun _ => ?_))
      | exact ih0 _ _ _ _ _ _ _ _
      | exact ih1 _ _ _ _ _ _ _ _
      | exact ih2 _ _ _ _ _ _
      | exact ih3 _ _ _ _ _ _ _
      | exact tidemilllaw22_shown.mono _
      | exact tidemillref01_Same.mono _ _ _
      | exact LeO.none _
      | refine LeO.ite ?_ ?_
      | refine LeO.bind ?_ (fun _ => ?_)
    · intro y0 y1 y2 y3 y4 y5 y6 y7
      unfold tidemilllaw22_AsgnLone.l0
      repeat' first
      | (with_reducible exact ih0 _ _ _ _ _ _ _ _)
      | (with_reducible exact ih1 _ _ _ _ _ _ _ _)
      | (with_reducible exact ih2 _ _ _ _ _ _)
      | (with_reducible exact ih3 _ _ _ _ _ _ _)
      | (with_reducible exact tidemilllaw22_shown.mono _)
      | (with_reducible exact tidemillref01_Same.mono _ _ _)
      | (with_reducible exact LeO.refl _)
      | (with_reducible exact LeO.none _)
      | (with_reducible refine LeO.ite ?_ ?_)
      | (with_reducible refine LeO.bind ?_ (fun _ => ?_))
      | exact ih0 _ _ _ _ _ _ _ _
      | exact ih1 _ _ _ _ _ _ _ _
      | exact ih2 _ _ _ _ _ _
      | exact ih3 _ _ _ _ _ _ _
      | exact tidemilllaw22_shown.mono _
      | exact tidemillref01_Same.mono _ _ _
      | exact LeO.none _
      | refine LeO.ite ?_ ?_
      | refine LeO.bind ?_ (fun _ => ?_)
    · intro y0 y1 y2 y3 y4 y5
      unfold tidemilllaw22_AsgnLone.l1
      repeat' first
      | (with_reducible exact ih0 _ _ _ _ _ _ _ _)
      | (with_reducible exact ih1 _ _ _ _ _ _ _ _)
      | (with_reducible exact ih2 _ _ _ _ _ _)
      | (with_reducible exact ih3 _ _ _ _ _ _ _)
      | (with_reducible exact tidemilllaw22_shown.mono _)
      | (with_reducible exact tidemillref01_Same.mono _ _ _)
      | (with_reducible exact LeO.refl _)
      | (with_reducible exact LeO.none _)
      | (with_reducible refine LeO.ite ?_ ?_)
      | (with_reducible refine LeO.bind ?_ (fun _ => ?_))
      | exact ih0 _ _ _ _ _ _ _ _
      | exact ih1 _ _ _ _ _ _ _ _
      | exact ih2 _ _ _ _ _ _
      | exact ih3 _ _ _ _ _ _ _
      | exact tidemilllaw22_shown.mono _
      | exact tidemillref01_Same.mono _ _ _
      | exact LeO.none _
      | refine LeO.ite ?_ ?_
      | refine LeO.bind ?_ (fun _ => ?_)
    · intro y0 y1 y2 y3 y4 y5 y6
      unfold tidemilllaw22_AsgnLone.l2
      repeat' first
      | (with_reducible exact ih0 _ _ _ _ _ _ _ _)
      | (with_reducible exact ih1 _ _ _ _ _ _ _ _)
      | (with_reducible exact ih2 _ _ _ _ _ _)
      | (with_reducible exact ih3 _ _ _ _ _ _ _)
      | (with_reducible exact tidemilllaw22_shown.mono _)
      | (with_reducible exact tidemillref01_Same.mono _ _ _)
      | (with_reducible exact LeO.refl _)
      | (with_reducible exact LeO.none _)
      | (with_reducible refine LeO.ite ?_ ?_)
      | (with_reducible refine LeO.bind ?_ (fun _ => ?_))
      | exact ih0 _ _ _ _ _ _ _ _
      | exact ih1 _ _ _ _ _ _ _ _
      | exact ih2 _ _ _ _ _ _
      | exact ih3 _ _ _ _ _ _ _
      | exact tidemilllaw22_shown.mono _
      | exact tidemillref01_Same.mono _ _ _
      | exact LeO.none _
      | refine LeO.ite ?_ ?_
      | refine LeO.bind ?_ (fun _ => ?_)
theorem tidemilllaw22_AsgnLone.mono : ∀ a0 a1 a2 k, LeO (tidemilllaw22_AsgnLone.f k a0 a1 a2) (tidemilllaw22_AsgnLone.f (k + 1) a0 a1 a2) := by
  intro a0 a1 a2 k
  obtain ⟨ih0, ih1, ih2, ih3⟩ := tidemilllaw22_AsgnLone.mono_l k
  unfold tidemilllaw22_AsgnLone.f
  repeat' first
      | (with_reducible exact ih0 _ _ _ _ _ _ _ _)
      | (with_reducible exact ih1 _ _ _ _ _ _ _ _)
      | (with_reducible exact ih2 _ _ _ _ _ _)
      | (with_reducible exact ih3 _ _ _ _ _ _ _)
      | (with_reducible exact tidemilllaw22_shown.mono _)
      | (with_reducible exact tidemillref01_Same.mono _ _ _)
      | (with_reducible exact LeO.refl _)
      | (with_reducible exact LeO.none _)
      | (with_reducible refine LeO.ite ?_ ?_)
      | (with_reducible refine LeO.bind ?_ (fun _ => ?_))
      | exact ih0 _ _ _ _ _ _ _ _
      | exact ih1 _ _ _ _ _ _ _ _
      | exact ih2 _ _ _ _ _ _
      | exact ih3 _ _ _ _ _ _ _
      | exact tidemilllaw22_shown.mono _
      | exact tidemillref01_Same.mono _ _ _
      | exact LeO.none _
      | refine LeO.ite ?_ ?_
      | refine LeO.bind ?_ (fun _ => ?_)
set_option maxHeartbeats 8000000 in
set_option maxRecDepth 100000 in
theorem tidemilllaw22_AsgnLone.calls (k : Nat) (a0 : Int) (a1 : Int) (a2 : Int) (r : Bool) (w : World) (h : tidemilllaw22_AsgnLone.f k a0 a1 a2 = some r) :
    Calls Try.prog 8 #[.int .u8 a0, .int .u8 a1, .int .u8 a2] w fun e w' => e = .returned (.bool r) ∧ Below w.heap.size w w' := by
  have HB := Aside0.mk (Below.refl w.heap.size w)
  have H : ((tidemilllaw22_shown.f k).bind fun t123 => (if (wrap64 (1 + (wrap64 (Int.tmod a1 16)))) = 0 then (none) else (if 0 ≤ (wrap64 (1 + (wrap64 (Int.tmod a1 16)))) then (if (wrap64 (1 + (wrap64 (Int.tmod a1 16))) : Int).toNat ≤ 281474976710656 then ((some (List.replicate (wrap64 (1 + (wrap64 (Int.tmod a1 16))) : Int).toNat false : List Bool)).bind fun y124 => ((asgn_Assign.f (wrap64 (a0)) y124 ([] : List Int)).bind fun t127 => (if 0 ≤ (Int.tmod (wrap64 (a2)) (wrap64 (1 + (wrap64 (Int.tmod a1 16))))) then (if (Int.tmod (wrap64 (a2)) (wrap64 (1 + (wrap64 (Int.tmod a1 16))))) < (y124.length : Int) then ((some (y124.set ((Int.tmod (wrap64 (a2)) (wrap64 (1 + (wrap64 (Int.tmod a1 16))))) : Int).toNat true : List Bool)).bind fun y130 => ((asgn_Assign.f (wrap64 (a0)) y130 ([] : List Int)).bind fun t131 => (if (t127.length : Int) = (wrap64 (a0)) then (tidemilllaw22_AsgnLone.j0 k a0 t123 (wrap64 (1 + (wrap64 (Int.tmod a1 16)))) (Int.tmod (wrap64 (a2)) (wrap64 (1 + (wrap64 (Int.tmod a1 16))))) y130 t127 t131 ((t131.length : Int) != (wrap64 (a0)))) else (tidemilllaw22_AsgnLone.j0 k a0 t123 (wrap64 (1 + (wrap64 (Int.tmod a1 16)))) (Int.tmod (wrap64 (a2)) (wrap64 (1 + (wrap64 (Int.tmod a1 16))))) y130 t127 t131 true)))) else (none)) else (none)))) else (none)) else (none)))) = some r := h
  clear h
  replace H := Option.bind_eq_some_iff.mp H
  obtain ⟨t123, A40, H⟩ := H
  replace H : (if (wrap64 (1 + (wrap64 (Int.tmod a1 16)))) = 0 then (none) else (if 0 ≤ (wrap64 (1 + (wrap64 (Int.tmod a1 16)))) then (if (wrap64 (1 + (wrap64 (Int.tmod a1 16))) : Int).toNat ≤ 281474976710656 then ((some (List.replicate (wrap64 (1 + (wrap64 (Int.tmod a1 16))) : Int).toNat false : List Bool)).bind fun y124 => ((asgn_Assign.f (wrap64 (a0)) y124 ([] : List Int)).bind fun t127 => (if 0 ≤ (Int.tmod (wrap64 (a2)) (wrap64 (1 + (wrap64 (Int.tmod a1 16))))) then (if (Int.tmod (wrap64 (a2)) (wrap64 (1 + (wrap64 (Int.tmod a1 16))))) < (y124.length : Int) then ((some (y124.set ((Int.tmod (wrap64 (a2)) (wrap64 (1 + (wrap64 (Int.tmod a1 16))))) : Int).toNat true : List Bool)).bind fun y130 => ((asgn_Assign.f (wrap64 (a0)) y130 ([] : List Int)).bind fun t131 => (if (t127.length : Int) = (wrap64 (a0)) then (tidemilllaw22_AsgnLone.j0 k a0 t123 (wrap64 (1 + (wrap64 (Int.tmod a1 16)))) (Int.tmod (wrap64 (a2)) (wrap64 (1 + (wrap64 (Int.tmod a1 16))))) y130 t127 t131 ((t131.length : Int) != (wrap64 (a0)))) else (tidemilllaw22_AsgnLone.j0 k a0 t123 (wrap64 (1 + (wrap64 (Int.tmod a1 16)))) (Int.tmod (wrap64 (a2)) (wrap64 (1 + (wrap64 (Int.tmod a1 16))))) y130 t127 t131 true)))) else (none)) else (none)))) else (none)) else (none))) = some r := H
  have A4 := Aside0.mk A40
  clear A40
  by_cases c5 : (wrap64 (1 + (wrap64 (Int.tmod a1 16)))) = 0
  · rw [if_pos c5] at H
    exact absurd H (by simp)
  · rw [if_neg c5] at H
    have c5b0 : ((wrap64 (1 + (wrap64 (Int.tmod a1 16)))) == 0) = false := beq_eq_false_iff_ne.mpr c5
    have c5b1 : ((wrap64 (1 + (wrap64 (Int.tmod a1 16)))) != 0) = true := bne_iff_ne.mpr c5
    obtain ⟨ji6, hji6⟩ : ∃ j_ : Int, (wrap64 (1 + (wrap64 (Int.tmod a1 16)))) = j_ := ⟨_, rfl⟩
    replace H : (if 0 ≤ (ji6) then (if (ji6 : Int).toNat ≤ 281474976710656 then ((some (List.replicate (ji6 : Int).toNat false : List Bool)).bind fun y124 => ((asgn_Assign.f (wrap64 (a0)) y124 ([] : List Int)).bind fun t127 => (if 0 ≤ (Int.tmod (wrap64 (a2)) (ji6)) then (if (Int.tmod (wrap64 (a2)) (ji6)) < (y124.length : Int) then ((some (y124.set ((Int.tmod (wrap64 (a2)) (ji6)) : Int).toNat true : List Bool)).bind fun y130 => ((asgn_Assign.f (wrap64 (a0)) y130 ([] : List Int)).bind fun t131 => (if (t127.length : Int) = (wrap64 (a0)) then (tidemilllaw22_AsgnLone.j0 k a0 t123 ji6 (Int.tmod (wrap64 (a2)) (ji6)) y130 t127 t131 ((t131.length : Int) != (wrap64 (a0)))) else (tidemilllaw22_AsgnLone.j0 k a0 t123 ji6 (Int.tmod (wrap64 (a2)) (ji6)) y130 t127 t131 true)))) else (none)) else (none)))) else (none)) else (none)) = some r := by first | (rw [hji6] at H; exact H) | (simp only [hji6] at H ⊢; exact H)
    (try rw [hji6] at c5b0)
    (try rw [hji6] at c5b1)
    (try rw [hji6] at A4)
    have hji6w : (IntKind.i64.wrap (1 + (wrap64 (Int.tmod a1 16)))) = ji6 := (i64_w _).trans hji6
    by_cases c7 : 0 ≤ (ji6)
    · rw [if_pos c7] at H
      have c7b0 := eq_true c7
      have c7b1 : decide (0 ≤ (ji6)) = true := decide_eq_true c7
      clear c7
      by_cases c8 : (ji6 : Int).toNat ≤ 281474976710656
      · rw [if_pos c8] at H
        have c8b0 := eq_true c8
        have c8b1 : decide ((ji6 : Int).toNat ≤ 281474976710656) = true := decide_eq_true c8
        clear c8
        obtain ⟨y124, hy124⟩ : ∃ y_ : List Bool, y_ = (List.replicate (ji6 : Int).toNat false) := ⟨_, rfl⟩
        replace H : ((asgn_Assign.f (wrap64 (a0)) y124 ([] : List Int)).bind fun t127 => (if 0 ≤ (Int.tmod (wrap64 (a2)) (ji6)) then (if (Int.tmod (wrap64 (a2)) (ji6)) < (y124.length : Int) then ((some (y124.set ((Int.tmod (wrap64 (a2)) (ji6)) : Int).toNat true : List Bool)).bind fun y130 => ((asgn_Assign.f (wrap64 (a0)) y130 ([] : List Int)).bind fun t131 => (if (t127.length : Int) = (wrap64 (a0)) then (tidemilllaw22_AsgnLone.j0 k a0 t123 ji6 (Int.tmod (wrap64 (a2)) (ji6)) y130 t127 t131 ((t131.length : Int) != (wrap64 (a0)))) else (tidemilllaw22_AsgnLone.j0 k a0 t123 ji6 (Int.tmod (wrap64 (a2)) (ji6)) y130 t127 t131 true)))) else (none)) else (none))) = some r := by first | (rw [hy124]; with_reducible exact H) | (have H2_ := (Option.bind_some _ _).symm.trans H; rw [hy124]; with_reducible exact H2_) | (have H2_ := (Option.bind_some _ _).symm.trans H; with_reducible exact H2_) | with_reducible exact H | (rw [hy124]; exact H) | exact H
        have Ny124 := Aside0.mk hy124
        clear hy124
        replace H := Option.bind_eq_some_iff.mp H
        obtain ⟨t127, A90, H⟩ := H
        replace H : (if 0 ≤ (Int.tmod (wrap64 (a2)) (ji6)) then (if (Int.tmod (wrap64 (a2)) (ji6)) < (y124.length : Int) then ((some (y124.set ((Int.tmod (wrap64 (a2)) (ji6)) : Int).toNat true : List Bool)).bind fun y130 => ((asgn_Assign.f (wrap64 (a0)) y130 ([] : List Int)).bind fun t131 => (if (t127.length : Int) = (wrap64 (a0)) then (tidemilllaw22_AsgnLone.j0 k a0 t123 ji6 (Int.tmod (wrap64 (a2)) (ji6)) y130 t127 t131 ((t131.length : Int) != (wrap64 (a0)))) else (tidemilllaw22_AsgnLone.j0 k a0 t123 ji6 (Int.tmod (wrap64 (a2)) (ji6)) y130 t127 t131 true)))) else (none)) else (none)) = some r := H
        have A9 := Aside0.mk A90
        clear A90
        obtain ⟨ji10, hji10⟩ : ∃ j_ : Int, (Int.tmod (wrap64 (a2)) (ji6)) = j_ := ⟨_, rfl⟩
        replace H : (if 0 ≤ (ji10) then (if (ji10) < (y124.length : Int) then ((some (y124.set ((ji10) : Int).toNat true : List Bool)).bind fun y130 => ((asgn_Assign.f (wrap64 (a0)) y130 ([] : List Int)).bind fun t131 => (if (t127.length : Int) = (wrap64 (a0)) then (tidemilllaw22_AsgnLone.j0 k a0 t123 ji6 ji10 y130 t127 t131 ((t131.length : Int) != (wrap64 (a0)))) else (tidemilllaw22_AsgnLone.j0 k a0 t123 ji6 ji10 y130 t127 t131 true)))) else (none)) else (none)) = some r := by first | (rw [hji10] at H; exact H) | (simp only [hji10] at H ⊢; exact H)
        (try rw [hji10] at A4)
        (try rw [hji10] at A9)
        by_cases c11 : 0 ≤ (ji10)
        · rw [if_pos c11] at H
          have c11b0 : decide (0 ≤ (ji10)) = true := decide_eq_true c11
          clear c11
          by_cases c12 : (ji10) < (y124.length : Int)
          · rw [if_pos c12] at H
            have c12b0 : decide ((ji10) < (y124.length : Int)) = true := decide_eq_true c12
            clear c12
            obtain ⟨y130, hy130⟩ : ∃ y_ : List Bool, y_ = (y124.set ((ji10) : Int).toNat true) := ⟨_, rfl⟩
            replace H : ((asgn_Assign.f (wrap64 (a0)) y130 ([] : List Int)).bind fun t131 => (if (t127.length : Int) = (wrap64 (a0)) then (tidemilllaw22_AsgnLone.j0 k a0 t123 ji6 ji10 y130 t127 t131 ((t131.length : Int) != (wrap64 (a0)))) else (tidemilllaw22_AsgnLone.j0 k a0 t123 ji6 ji10 y130 t127 t131 true))) = some r := by first | (rw [hy130]; with_reducible exact H) | (have H2_ := (Option.bind_some _ _).symm.trans H; rw [hy130]; with_reducible exact H2_) | (have H2_ := (Option.bind_some _ _).symm.trans H; with_reducible exact H2_) | with_reducible exact H | (rw [hy130]; exact H) | exact H
            have Ny130 := Aside0.mk hy130
            clear hy130
            replace H := Option.bind_eq_some_iff.mp H
            obtain ⟨t131, A140, H⟩ := H
            replace H : (if (t127.length : Int) = (wrap64 (a0)) then (tidemilllaw22_AsgnLone.j0 k a0 t123 ji6 ji10 y130 t127 t131 ((t131.length : Int) != (wrap64 (a0)))) else (tidemilllaw22_AsgnLone.j0 k a0 t123 ji6 ji10 y130 t127 t131 true)) = some r := H
            have A14 := Aside0.mk A140
            clear A140
            have HC15 := Aside0.mk H
            clear H
            go_enter Try.func8, Try.ntmps8
            go_upto_region 8 with (first | ((with_reducible refine gate_callee (f := 20) rfl ?_); refine goesL_ (some 17) rfl rfl Try.func20 (by kernel_rfl) rfl #[] rfl (by (try simp only [List.map_toArray, List.map_cons, List.map_nil]); first | done | rfl | (simp only [List.length_drop, List.length_take]; rfl)) ?_; (with_reducible refine (tidemilllaw22_shown.calls k  t123 _ A4.out).mono ?_); rintro e w16 ⟨rfl, hb⟩; refine ⟨_, rfl, ?_⟩; have n0_ := Aside0.mk (below_step (by repeat (first | (with_reducible first | exact HB.out | apply below_alloc | apply pw_below_drewN | apply below_drew1) | exact HB.out)) hb); clear HB; have HB := n0_; clear n0_; (try clear hb); (try clear hb2); (try clear hk); (try clear hi)) | ((with_reducible refine gate_dst (N := 27) rfl ?_); (try (refine gate_guard (by rfl) ?_; dsimp only)); refine Kd.R_make Kd.bool _ 4 rfl (N := 27) rfl 25 _ _ rfl ji6 rfl rfl Try.underlying25 (.bool false) 1 info4 rfl (by decide) (by omega) false (ok := fun _ => True) (okp := fun _ => True) rfl (fun _ hk => hk) trivial (of_decide_eq_true (by first | (with_reducible assumption) | assumption)) (Nat.le_trans (Nat.mul_le_mul_right _ (of_decide_eq_true (by first | (with_reducible assumption) | assumption) : ji6.toNat ≤ 281474976710656)) (by omega)) (Below.refl _ _) (Nat.le_refl _) ?_; intro v125 w17 ho18 hb hg_ hnew_; clear hg_ hnew_; (first | rw [← Ny124.out] at ho18 | (simp only [Int.reduceToNat] at ho18; rw [← Ny124.out] at ho18)); have n0_ := Aside0.mk (Kd.R_lower ho18 (below_size (by repeat (first | (with_reducible first | exact HB.out | apply below_alloc | apply pw_below_drewN | apply below_drew1) | exact HB.out)))); have n1_ := Aside0.mk (below_step (by repeat (first | (with_reducible first | exact HB.out | apply below_alloc | apply pw_below_drewN | apply below_drew1) | exact HB.out)) hb); clear HB; have HO126 := n0_; have HB := n1_; clear n0_ n1_; clear hb ho18; obtain ⟨Ao19, co19, eo19⟩ := Kd.R_slice HO126.out; subst eo19) | ((with_reducible refine gate_callee (f := 23) rfl ?_); refine goesL_ (some 31) rfl rfl Try.func23 (by kernel_rfl) rfl #[.int .i64 (wrap64 (a0)), .slice Ao19 y124.length co19, .slice none 0 0] rfl (by (try simp only [List.map_toArray, List.map_cons, List.map_nil]); first | done | rfl | (simp only [List.length_drop, List.length_take]; rfl)) ?_; (refine (asgn_Assign.calls (wrap64 (a0)) _ _ y124 _ _ ([] : List Int) t127 _ ?side1 ?side2 ?side3 ?side4 A9.out).mono ?_); (case side1 => repeat (first | exact (Kd.R_reads' HO126.out).2.2 | (with_reducible refine Kd.C_alloc ?_ _) | (with_reducible refine Kd.C_drewN ?_ _) | (with_reducible refine Kd.C_drew ?_))); (case side2 => exact (Kd.R_reads' HO126.out).2.1); (case side3 => exact Kd.C_nil _ _); (case side4 => exact Nat.le_refl _); rintro e w20 ⟨v128, rfl, ho0, hb⟩; refine ⟨_, rfl, ?_⟩; have n0_ := Aside0.mk (Kd.R_below (by (with_reducible repeat (first | apply Kd.R_alloc | apply Kd.R_drewN | apply Kd.R_drew)); exact HO126.out) hb); have n1_ := Aside0.mk (Kd.R_lower ho0 (below_size (by repeat (first | (with_reducible first | exact HB.out | apply below_alloc | apply pw_below_drewN | apply below_drew1) | exact HB.out)))); have n2_ := Aside0.mk (below_step (by repeat (first | (with_reducible first | exact HB.out | apply below_alloc | apply pw_below_drewN | apply below_drew1) | exact HB.out)) hb); clear HO126; clear HB; have HO126 := n0_; have HO129 := n1_; have HB := n2_; clear n0_ n1_ n2_; (try clear hb); (try clear hb2); (try clear hk); (try clear hi); (try clear ho0); have p13 : 0 ≤ ((ji10) : Int) := of_decide_eq_true (by first | (with_reducible assumption) | assumption); have q13 : ((ji10) : Int) < ((y124.length : Int) : Int) := of_decide_eq_true (by first | (with_reducible assumption) | assumption); obtain ⟨go13, co13, eo13, gb13, gl13, cl13, HG13⟩ := Kd.R_form HO126.out (by omega); (first | cases eo13 | (injection eo13 with ea_ en_ ec_; (first | subst ea_ | (injection ea_ with ea_; subst ea_)); subst ec_; clear en_)); have GB13 := Aside0.mk gb13; have GG13 := Aside0.mk HG13; clear gb13 gl13 HG13; obtain ⟨hx13_0, hf13_0⟩ := Kd.R_celln false HO126.out ((ji10) : Int) p13 q13; replace p13 := eq_true p13; replace q13 := eq_true q13; obtain ⟨hy21_, hz21_⟩ := Kd.R_celln false HO126.out ((ji10) : Int) (of_decide_eq_true (by first | (with_reducible assumption) | assumption)) (of_decide_eq_true (by first | (with_reducible assumption) | assumption)); have HP21 := Kd.R_putg HO126.out ((ji10) : Int) true) | ((with_reducible refine gate_store (t := 4) (p := 34) rfl ?_); refine store_event (t := 4) (p := 34) (v := ?vo_w22) (w1 := (w20.setCell ⟨go13, ((ji10) : Int).toNat, none⟩ (.bool true))) ?hg ?ho ?hn ?hr ?_; (case ho => rfl); (case hg => rfl); (case hn => rfl); (case hr => first | (go_simp; done) | (go_simp; rfl)); intro w22 hw; have hg : w20.grownBy w22 (some go13) := (by rw [hw]; exact HP21.2); have hp_ : Kd.R Kd.bool 4 w22 w.heap.size (fun _ => True) (.slice (some ⟨go13, 0, none⟩) y124.length co19) y130 := (by rw [hw, Ny130.out]; exact HP21.1); clear HP21; have n0_ := Aside0.mk (hp_); have n1_ := Aside0.mk (Kd.R_over' (v := (.slice (some ⟨go13, 0, none⟩) y124.length co19)) (by (with_reducible repeat (first | apply Kd.R_alloc | apply Kd.R_drewN | apply Kd.R_drew)); exact HO129.out) (Kd.R_typed HO126.out) (by decide) hg); have n2_ := Aside0.mk ((by rw [hw]; exact below_set (HB.out) GB13.out : Below w.heap.size w w22)); clear HO126; clear HO129; clear HB; have HO126 := n0_; have HO129 := n1_; have HB := n2_; clear n0_ n1_ n2_; clear hg hw hp_) | ((with_reducible refine gate_callee (f := 23) rfl ?_); refine goesL_ (some 38) rfl rfl Try.func23 (by kernel_rfl) rfl #[.int .i64 (wrap64 (a0)), .slice (some ⟨go13, 0, none⟩) y130.length co19, .slice none 0 0] rfl (by (try simp only [List.map_toArray, List.map_cons, List.map_nil]); first | done | (rw [show y130.length = y124.length from (Kd.R_reads' HO126.out).1.symm] <;> rfl) | rfl | (simp only [List.length_drop, List.length_take]; rfl)) ?_; (refine (asgn_Assign.calls (wrap64 (a0)) _ _ y130 _ _ ([] : List Int) t131 _ ?side1 ?side2 ?side3 ?side4 A14.out).mono ?_); (case side1 => repeat (first | exact (Kd.R_reads' HO126.out).2.2 | (with_reducible refine Kd.C_alloc ?_ _) | (with_reducible refine Kd.C_drewN ?_ _) | (with_reducible refine Kd.C_drew ?_))); (case side2 => rw [show y130.length = y124.length from (Kd.R_reads' HO126.out).1.symm]; exact (Kd.R_reads' HO126.out).2.1); (case side3 => exact Kd.C_nil _ _); (case side4 => exact Nat.le_refl _); rintro e w23 ⟨v132, rfl, ho0, hb⟩; refine ⟨_, rfl, ?_⟩; have n0_ := Aside0.mk (Kd.R_below (by (with_reducible repeat (first | apply Kd.R_alloc | apply Kd.R_drewN | apply Kd.R_drew)); exact HO126.out) hb); have n1_ := Aside0.mk (Kd.R_elder' (by (with_reducible repeat (first | apply Kd.R_alloc | apply Kd.R_drewN | apply Kd.R_drew)); exact HO129.out) (Kd.R_base ho0) hb); have n2_ := Aside0.mk (Kd.R_lower (Kd.R_new' ho0 (Kd.R_lt (by (with_reducible repeat (first | apply Kd.R_alloc | apply Kd.R_drewN | apply Kd.R_drew)); exact HO129.out))) (below_size (by repeat (first | (with_reducible first | exact HB.out | apply below_alloc | apply pw_below_drewN | apply below_drew1) | exact HB.out)))); have n3_ := Aside0.mk (below_step (by repeat (first | (with_reducible first | exact HB.out | apply below_alloc | apply pw_below_drewN | apply below_drew1) | exact HB.out)) hb); clear HO126; clear HO129; clear HB; have HO126 := n0_; have HO129 := n1_; have HO133 := n2_; have HB := n3_; clear n0_ n1_ n2_ n3_; (try clear hb); (try clear hb2); (try clear hk); (try clear hi); (try clear ho0)))
            (try simp only [Act.put, List.setIfInBounds_toArray, List.set_cons_zero, List.set_cons_succ])
            go_cut [50] (fun v50 wc => ∃ (kq : Nat) (x50_14 : Bool), v50 = .bool x50_14 ∧ Aside0 (tidemilllaw22_AsgnLone.j0 kq a0 t123 ji6 ji10 y130 t127 t131 x50_14 = some r) ∧ Aside0 (kq ≤ k) ∧ Aside0 (Kd.R Kd.bool 4 wc w.heap.size (fun _ => True) (.slice (some ⟨go13, 0, none⟩) y124.length co19) y130) ∧ Aside0 (Kd.R (Kd.int .i64) 3 wc w.heap.size (fun k_ => some k_ ≠ (v132 : Value).ownBlock) v128 t127) ∧ Aside0 (Kd.R (Kd.int .i64) 3 wc w.heap.size (fun k_ => some k_ ≠ (v128 : Value).ownBlock) v132 t131) ∧ Aside0 (Below w.heap.size w wc))
            case first =>
              have H := HC15.out
              clear HC15
              by_cases c24 : (t127.length : Int) = (wrap64 (a0))
              · rw [if_pos c24] at H
                have c24b0 : ((t127.length : Int) == (wrap64 (a0))) = true := beq_iff_eq.mpr c24
                have c24b1 : ((t127.length : Int) != (wrap64 (a0))) = false := bne_eq_false_iff_eq.mpr c24
                clear c24
                (first | rw [c24b0] | (simp only [i64_w, i32_w]; rw [c24b0]) | skip)
                have H' := Aside0.mk H
                clear H
                obtain ⟨Ao25, co25, eo25⟩ := Kd.R_slice HO129.out
                subst eo25
                obtain ⟨Ao26, co26, eo26⟩ := Kd.R_slice HO133.out
                subst eo26
                go_wp2
                go_meet
                case rel => exact ⟨_, (((t131.length : Int) != (wrap64 (a0)))), (by first | rfl | (simp; done) | (simp [*]; done)), H', ⟨by first | omega | exact Nat.le_refl _⟩, ⟨by (with_reducible repeat (first | apply Kd.R_alloc | apply Kd.R_drewN | apply Kd.R_drew)); exact HO126.out⟩, ⟨by (with_reducible repeat (first | apply Kd.R_alloc | apply Kd.R_drewN | apply Kd.R_drew)); exact Kd.R_mono HO129.out (fun _ hk => hk.2)⟩, ⟨by (with_reducible repeat (first | apply Kd.R_alloc | apply Kd.R_drewN | apply Kd.R_drew)); exact Kd.R_mono HO133.out (fun _ hk => hk.2)⟩, ⟨by repeat (first | (with_reducible first | exact HB.out | apply below_alloc | apply pw_below_drewN | apply below_drew1) | exact HB.out)⟩⟩
              · rw [if_neg c24] at H
                have c24b0 : ((t127.length : Int) == (wrap64 (a0))) = false := beq_eq_false_iff_ne.mpr c24
                have c24b1 : ((t127.length : Int) != (wrap64 (a0))) = true := bne_iff_ne.mpr c24
                (first | rw [c24b0] | (simp only [i64_w, i32_w]; rw [c24b0]) | skip)
                have H' := Aside0.mk H
                clear H
                obtain ⟨Ao27, co27, eo27⟩ := Kd.R_slice HO129.out
                subst eo27
                go_wp2
                go_meet
                case rel => exact ⟨_, (true), (by first | rfl | (simp; done) | (simp [*]; done)), H', ⟨by first | omega | exact Nat.le_refl _⟩, ⟨by (with_reducible repeat (first | apply Kd.R_alloc | apply Kd.R_drewN | apply Kd.R_drew)); exact HO126.out⟩, ⟨by (with_reducible repeat (first | apply Kd.R_alloc | apply Kd.R_drewN | apply Kd.R_drew)); exact Kd.R_mono HO129.out (fun _ hk => hk.2)⟩, ⟨by (with_reducible repeat (first | apply Kd.R_alloc | apply Kd.R_drewN | apply Kd.R_drew)); exact Kd.R_mono HO133.out (fun _ hk => hk.2)⟩, ⟨by repeat (first | (with_reducible first | exact HB.out | apply below_alloc | apply pw_below_drewN | apply below_drew1) | exact HB.out)⟩⟩
            case rest =>
              clear HC15
              try clear c1
              try clear p1
              try clear q1
              try clear hx1
              try clear c2
              try clear p2
              try clear c5
              try clear c5b0
              try clear c5b1
              try clear p6
              try clear c7
              try clear c7b0
              try clear c7b1
              try clear c8
              try clear c8b0
              try clear c8b1
              try clear c11
              try clear c11b0
              try clear c12
              try clear c12b0
              try clear p13
              try clear q13
              try clear hx13
              try clear hf13
              try clear c20
              try clear c23
              try clear c24
              try clear c24b0
              try clear c24b1
              try clear hx13_0
              try clear p13
              try clear q13
              obtain ⟨kq, x50_14, rfl, HA, HJ14, HO_10, HO_11, HO_12, HB⟩ := hcut
              have hl10_14 := (Kd.R_reads' HO_10.out).1
              rw [hl10_14] at HO_10
              (try simp only [hl10_14])
              (try simp only [hl10_14] at HO_11)
              (try simp only [hl10_14] at HO_12)
              cases kq with
              | zero => exact absurd HA.out (by simp [tidemilllaw22_AsgnLone.j0])
              | succ kj14 =>
                have H := HA.out
                clear HA
                simp only [tidemilllaw22_AsgnLone.j0] at H
                by_cases c28 : x50_14 = true
                · subst c28
                  have H1 : (some false) = some r := by rw [if_pos rfl] at H; exact H
                  clear H
                  have H := H1
                  clear H1
                  obtain rfl := Option.some.inj H
                  go_wp2
                  go_ret
                  exact ⟨by first | rfl | (simp [errW_none, errW_some] <;> rfl) | (simp only [← hji6, ← hji10]; first | rfl | (simp [errW_none, errW_some] <;> rfl)) | (simp [*, errW_none, errW_some] <;> rfl), by repeat (first | (with_reducible first | exact HB.out | apply below_alloc | apply pw_below_drewN | apply below_drew1) | exact HB.out)⟩
                · replace c28 := Bool.eq_false_iff.mpr c28
                  subst c28
                  have H1 : (tidemilllaw22_AsgnLone.l0 kj14 a0 t123 ji6 ji10 y130 t127 t131 0) = some r := by rw [if_neg (show ¬ (false = true) by decide)] at H; exact H
                  clear H
                  have H := H1
                  clear H1
                  have H' := Aside0.mk H
                  clear H
                  go_wp2
                  go_loopg [13] kj14 (fun kq v13 w' => ∃ (x13_2 : Int), v13 = .int .i64 x13_2 ∧ Aside0 (tidemilllaw22_AsgnLone.l0 kq a0 t123 ji6 ji10 y130 t127 t131 x13_2 = some r) ∧ Aside0 (kq ≤ kj14) ∧ Aside0 (Kd.R Kd.bool 4 w' w.heap.size (fun _ => True) (.slice (some ⟨go13, 0, none⟩) y130.length co19) y130) ∧ Aside0 (Kd.R (Kd.int .i64) 3 w' w.heap.size (fun k_ => some k_ ≠ (v132 : Value).ownBlock) v128 t127) ∧ Aside0 (Kd.R (Kd.int .i64) 3 w' w.heap.size (fun k_ => some k_ ≠ (v128 : Value).ownBlock) v132 t131) ∧ Aside0 (Below w.heap.size w w'))
                  case atStart => exact ⟨(0), (by first | rfl | (simp; done) | (simp [*]; done)), H', ⟨Nat.le_refl _⟩, ⟨by (try simp only [hl10_14]); (with_reducible repeat (first | apply Kd.R_alloc | apply Kd.R_drewN | apply Kd.R_drew)); exact HO_10.out⟩, ⟨by (try simp only [hl10_14]); (with_reducible repeat (first | apply Kd.R_alloc | apply Kd.R_drewN | apply Kd.R_drew)); exact HO_11.out⟩, ⟨by (try simp only [hl10_14]); (with_reducible repeat (first | apply Kd.R_alloc | apply Kd.R_drewN | apply Kd.R_drew)); exact HO_12.out⟩, ⟨by repeat (first | (with_reducible first | exact HB.out | apply below_alloc | apply pw_below_drewN | apply below_drew1) | exact HB.out)⟩⟩
                  case round =>
                    clear H'
                    try clear c1
                    try clear p1
                    try clear q1
                    try clear hx1
                    try clear c2
                    try clear p2
                    try clear c5
                    try clear c5b0
                    try clear c5b1
                    try clear p6
                    try clear c7
                    try clear c7b0
                    try clear c7b1
                    try clear c8
                    try clear c8b0
                    try clear c8b1
                    try clear c11
                    try clear c11b0
                    try clear c12
                    try clear c12b0
                    try clear p13
                    try clear q13
                    try clear hx13
                    try clear hf13
                    try clear c20
                    try clear c23
                    try clear c24
                    try clear c24b0
                    try clear c24b1
                    try clear c28
                    try clear hx13_0
                    try clear p1
                    try clear p13
                    try clear p2
                    try clear p6
                    try clear q1
                    try clear q13
                    obtain ⟨x13_2, rfl, HA, HK2, HO_10, HO_11, HO_12, HB⟩ := hrel
                    cases gk with
                    | zero => exact absurd HA.out (by simp [tidemilllaw22_AsgnLone.l0])
                    | succ k2 =>
                      have H := HA.out
                      clear HA
                      simp only [tidemilllaw22_AsgnLone.l0] at H
                      by_cases c29 : x13_2 < (wrap64 (a0))
                      · rw [if_pos c29] at H
                        have c29b0 : decide (x13_2 < (wrap64 (a0))) = true := decide_eq_true c29
                        clear c29
                        by_cases c30 : 0 ≤ x13_2
                        · rw [if_pos c30] at H
                          have c30b0 : decide (0 ≤ x13_2) = true := decide_eq_true c30
                          clear c30
                          by_cases c31 : x13_2 < (t127.length : Int)
                          · rw [if_pos c31] at H
                            have c31b0 : decide (x13_2 < (t127.length : Int)) = true := decide_eq_true c31
                            clear c31
                            by_cases c32 : (rd t127 x13_2) = (-1)
                            · rw [if_pos c32] at H
                              have c32b0 : ((rd t127 x13_2) == (-1)) = true := beq_iff_eq.mpr c32
                              have c32b1 : ((rd t127 x13_2) != (-1)) = false := bne_eq_false_iff_eq.mpr c32
                              clear c32
                              by_cases c33 : x13_2 < (t131.length : Int)
                              · rw [if_pos c33] at H
                                have c33b0 : decide (x13_2 < (t131.length : Int)) = true := decide_eq_true c33
                                clear c33
                                by_cases c34 : (rd t131 x13_2) = ji10
                                · rw [if_pos c34] at H
                                  have c34b0 : ((rd t131 x13_2) == ji10) = true := beq_iff_eq.mpr c34
                                  have c34b1 : ((rd t131 x13_2) != ji10) = false := bne_eq_false_iff_eq.mpr c34
                                  clear c34
                                  have H' := Aside0.mk H
                                  clear H
                                  obtain ⟨Ao35, co35, eo35⟩ := Kd.R_slice HO_11.out
                                  subst eo35
                                  have p134 : 0 ≤ (x13_2 : Int) := of_decide_eq_true (by first | (with_reducible assumption) | assumption)
                                  have q134 : x13_2 < (t127.length : Int) := of_decide_eq_true (by first | (with_reducible assumption) | assumption)
                                  obtain ⟨ad134, e134, hx134_0⟩ := Kd.at_int (Kd.R_reads' HO_11.out).2.2 x13_2 p134 q134
                                  cases e134
                                  replace p134 := eq_true p134
                                  replace q134 := eq_true q134
                                  obtain ⟨Ao36, co36, eo36⟩ := Kd.R_slice HO_12.out
                                  subst eo36
                                  have p135 : 0 ≤ (x13_2 : Int) := of_decide_eq_true (by first | (with_reducible assumption) | assumption)
                                  have q135 : x13_2 < (t131.length : Int) := of_decide_eq_true (by first | (with_reducible assumption) | assumption)
                                  obtain ⟨ad135, e135, hx135_0⟩ := Kd.at_int (Kd.R_reads' HO_12.out).2.2 x13_2 p135 q135
                                  cases e135
                                  replace p135 := eq_true p135
                                  replace q135 := eq_true q135
                                  go_wp2
                                  go_roundg k2
                                  case measure => have := HJ14.out; have := HK2.out; omega
                                  case rel => exact ⟨(wrap64 (x13_2 + 1)), (by first | rfl | (simp; done) | (simp [*]; done)), H', ⟨by have := HJ14.out; have := HK2.out; omega⟩, ⟨by (try simp only [hl10_14]); (with_reducible repeat (first | apply Kd.R_alloc | apply Kd.R_drewN | apply Kd.R_drew)); exact HO_10.out⟩, ⟨by (try simp only [hl10_14]); (with_reducible repeat (first | apply Kd.R_alloc | apply Kd.R_drewN | apply Kd.R_drew)); exact HO_11.out⟩, ⟨by (try simp only [hl10_14]); (with_reducible repeat (first | apply Kd.R_alloc | apply Kd.R_drewN | apply Kd.R_drew)); exact HO_12.out⟩, ⟨by repeat (first | (with_reducible first | exact HB.out | apply below_alloc | apply pw_below_drewN | apply below_drew1) | exact HB.out)⟩⟩
                                · rw [if_neg c34] at H
                                  have c34b0 : ((rd t131 x13_2) == ji10) = false := beq_eq_false_iff_ne.mpr c34
                                  have c34b1 : ((rd t131 x13_2) != ji10) = true := bne_iff_ne.mpr c34
                                  obtain rfl := Option.some.inj H
                                  obtain ⟨Ao37, co37, eo37⟩ := Kd.R_slice HO_11.out
                                  subst eo37
                                  have p134 : 0 ≤ (x13_2 : Int) := of_decide_eq_true (by first | (with_reducible assumption) | assumption)
                                  have q134 : x13_2 < (t127.length : Int) := of_decide_eq_true (by first | (with_reducible assumption) | assumption)
                                  obtain ⟨ad134, e134, hx134_0⟩ := Kd.at_int (Kd.R_reads' HO_11.out).2.2 x13_2 p134 q134
                                  cases e134
                                  replace p134 := eq_true p134
                                  replace q134 := eq_true q134
                                  obtain ⟨Ao38, co38, eo38⟩ := Kd.R_slice HO_12.out
                                  subst eo38
                                  have p135 : 0 ≤ (x13_2 : Int) := of_decide_eq_true (by first | (with_reducible assumption) | assumption)
                                  have q135 : x13_2 < (t131.length : Int) := of_decide_eq_true (by first | (with_reducible assumption) | assumption)
                                  obtain ⟨ad135, e135, hx135_0⟩ := Kd.at_int (Kd.R_reads' HO_12.out).2.2 x13_2 p135 q135
                                  cases e135
                                  replace p135 := eq_true p135
                                  replace q135 := eq_true q135
                                  go_wp2
                                  go_ret
                                  exact ⟨by first | rfl | (simp [errW_none, errW_some] <;> rfl) | (simp only [← hji6, ← hji10]; first | rfl | (simp [errW_none, errW_some] <;> rfl)) | (simp [*, errW_none, errW_some] <;> rfl), by repeat (first | (with_reducible first | exact HB.out | apply below_alloc | apply pw_below_drewN | apply below_drew1) | exact HB.out)⟩
                              · rw [if_neg c33] at H
                                exact absurd H (by simp)
                            · rw [if_neg c32] at H
                              have c32b0 : ((rd t127 x13_2) == (-1)) = false := beq_eq_false_iff_ne.mpr c32
                              have c32b1 : ((rd t127 x13_2) != (-1)) = true := bne_iff_ne.mpr c32
                              obtain rfl := Option.some.inj H
                              obtain ⟨Ao39, co39, eo39⟩ := Kd.R_slice HO_11.out
                              subst eo39
                              have p134 : 0 ≤ (x13_2 : Int) := of_decide_eq_true (by first | (with_reducible assumption) | assumption)
                              have q134 : x13_2 < (t127.length : Int) := of_decide_eq_true (by first | (with_reducible assumption) | assumption)
                              obtain ⟨ad134, e134, hx134_0⟩ := Kd.at_int (Kd.R_reads' HO_11.out).2.2 x13_2 p134 q134
                              cases e134
                              replace p134 := eq_true p134
                              replace q134 := eq_true q134
                              go_wp2
                              go_ret
                              exact ⟨by first | rfl | (simp [errW_none, errW_some] <;> rfl) | (simp only [← hji6, ← hji10]; first | rfl | (simp [errW_none, errW_some] <;> rfl)) | (simp [*, errW_none, errW_some] <;> rfl), by repeat (first | (with_reducible first | exact HB.out | apply below_alloc | apply pw_below_drewN | apply below_drew1) | exact HB.out)⟩
                          · rw [if_neg c31] at H
                            exact absurd H (by simp)
                        · rw [if_neg c30] at H
                          exact absurd H (by simp)
                      · rw [if_neg c29] at H
                        have c29b0 : decide (x13_2 < (wrap64 (a0))) = false := decide_eq_false c29
                        clear c29
                        have H' := Aside0.mk H
                        clear H
                        go_wp2
                        go_loopg [14] k2 (fun kq v14 w' => ∃ (x10_3 : List Bool) (x14_3 : Int), v14 = .int .i64 x14_3 ∧ Aside0 (tidemilllaw22_AsgnLone.l1 kq a0 t123 ji6 ji10 x10_3 x14_3 = some r) ∧ Aside0 (kq ≤ k2) ∧ Aside0 (Kd.R Kd.bool 4 w' w.heap.size (fun _ => True) (.slice (some ⟨go13, 0, none⟩) y130.length co19) x10_3) ∧ Aside0 (Below w.heap.size w w'))
                        case atStart => exact ⟨(y130), (0), (by first | rfl | (simp; done) | (simp [*]; done)), H', ⟨Nat.le_refl _⟩, ⟨by (try simp only [hl10_14]); (with_reducible repeat (first | apply Kd.R_alloc | apply Kd.R_drewN | apply Kd.R_drew)); exact HO_10.out⟩, ⟨by repeat (first | (with_reducible first | exact HB.out | apply below_alloc | apply pw_below_drewN | apply below_drew1) | exact HB.out)⟩⟩
                        case round =>
                          clear H'
                          try clear c1
                          try clear p1
                          try clear q1
                          try clear hx1
                          try clear c2
                          try clear p2
                          try clear c3
                          try clear c5
                          try clear c5b0
                          try clear c5b1
                          try clear p6
                          try clear c7
                          try clear c7b0
                          try clear c7b1
                          try clear c8
                          try clear c8b0
                          try clear c8b1
                          try clear c11
                          try clear c11b0
                          try clear c12
                          try clear c12b0
                          try clear p13
                          try clear q13
                          try clear hx13
                          try clear hf13
                          try clear c20
                          try clear c23
                          try clear c24
                          try clear c24b0
                          try clear c24b1
                          try clear c28
                          try clear c29
                          try clear c29b0
                          try clear c30
                          try clear c30b0
                          try clear c31
                          try clear c31b0
                          try clear c32
                          try clear c32b0
                          try clear c32b1
                          try clear c33
                          try clear c33b0
                          try clear c34
                          try clear c34b0
                          try clear c34b1
                          try clear hx134_0
                          try clear hx135_0
                          try clear hx13_0
                          try clear p1
                          try clear p13
                          try clear p134
                          try clear p135
                          try clear p2
                          try clear p6
                          try clear q1
                          try clear q13
                          try clear q134
                          try clear q135
                          obtain ⟨x10_3, x14_3, rfl, HA, HK3, HO_10, HB⟩ := hrel
                          have hl10_3 := (Kd.R_reads' HO_10.out).1
                          rw [hl10_3] at HO_10
                          (try simp only [hl10_3])
                          cases gk with
                          | zero => exact absurd HA.out (by simp [tidemilllaw22_AsgnLone.l1])
                          | succ k3 =>
                            have H := HA.out
                            clear HA
                            simp only [tidemilllaw22_AsgnLone.l1] at H
                            by_cases c40 : x14_3 < ji6
                            · rw [if_pos c40] at H
                              have c40b0 : decide (x14_3 < ji6) = true := decide_eq_true c40
                              clear c40
                              by_cases c41 : 0 ≤ x14_3
                              · rw [if_pos c41] at H
                                have c41b0 : decide (0 ≤ x14_3) = true := decide_eq_true c41
                                clear c41
                                by_cases c42 : x14_3 < (x10_3.length : Int)
                                · rw [if_pos c42] at H
                                  have c42b0 : decide (x14_3 < (x10_3.length : Int)) = true := decide_eq_true c42
                                  clear c42
                                  obtain ⟨y136, hy136⟩ : ∃ y_ : List Bool, y_ = (x10_3.set (x14_3 : Int).toNat true) := ⟨_, rfl⟩
                                  replace H : (tidemilllaw22_AsgnLone.l1 k3 a0 t123 ji6 ji10 y136 (wrap64 (x14_3 + 1))) = some r := by first | (rw [hy136]; with_reducible exact H) | (have H2_ := (Option.bind_some _ _).symm.trans H; rw [hy136]; with_reducible exact H2_) | (have H2_ := (Option.bind_some _ _).symm.trans H; with_reducible exact H2_) | with_reducible exact H | (rw [hy136]; exact H) | exact H
                                  have Ny136 := Aside0.mk hy136
                                  clear hy136
                                  have H' := Aside0.mk H
                                  clear H
                                  have p43 : 0 ≤ (x14_3 : Int) := of_decide_eq_true (by first | (with_reducible assumption) | assumption)
                                  have q43 : (x14_3 : Int) < ((x10_3.length : Int) : Int) := of_decide_eq_true (by first | (with_reducible assumption) | assumption)
                                  obtain ⟨hx43_0, hf43_0⟩ := Kd.R_celln false HO_10.out (x14_3 : Int) p43 q43
                                  replace p43 := eq_true p43
                                  replace q43 := eq_true q43
                                  have HP44 := Kd.R_putg HO_10.out (x14_3 : Int) true
                                  go_wp2_with (first | ((with_reducible refine gate_store (t := 4) (p := 77) rfl ?_); refine store_event (t := 4) (p := 77) (v := ?vo_w45) (w1 := (wr.setCell ⟨go13, (x14_3 : Int).toNat, none⟩ (.bool true))) ?hg ?ho ?hn ?hr ?_; (case ho => rfl); (case hg => rfl); (case hn => rfl); (case hr => first | (go_simp; done) | (go_simp; rfl)); intro w45 hw; have hg : wr.grownBy w45 (some go13) := (by rw [hw]; exact HP44.2); have hp_ : Kd.R Kd.bool 4 w45 w.heap.size (fun _ => True) (.slice (some ⟨go13, 0, none⟩) x10_3.length co19) y136 := (by rw [hw, Ny136.out]; exact HP44.1); clear HP44; have n0_ := Aside0.mk (hp_); have n1_ := Aside0.mk ((by rw [hw]; exact below_set (HB.out) GB13.out : Below w.heap.size w w45)); clear HO_10; clear HB; have HO_10 := n0_; have HB := n1_; clear n0_ n1_; clear hg hw hp_))
                                  (try simp only [← hl10_3])
                                  go_roundg k3
                                  case measure => have := HJ14.out; have := HK2.out; have := HK3.out; omega
                                  case rel => exact ⟨(y136), (wrap64 (x14_3 + 1)), (by first | rfl | (simp; done) | (simp [*]; done)), H', ⟨by have := HJ14.out; have := HK2.out; have := HK3.out; omega⟩, ⟨by (try simp only [hl10_14]); (try simp only [hl10_3]); (with_reducible repeat (first | apply Kd.R_alloc | apply Kd.R_drewN | apply Kd.R_drew)); exact HO_10.out⟩, ⟨by repeat (first | (with_reducible first | exact HB.out | apply below_alloc | apply pw_below_drewN | apply below_drew1) | exact HB.out)⟩⟩
                                · rw [if_neg c42] at H
                                  exact absurd H (by simp)
                              · rw [if_neg c41] at H
                                exact absurd H (by simp)
                            · rw [if_neg c40] at H
                              have c40b0 : decide (x14_3 < ji6) = false := decide_eq_false c40
                              clear c40
                              have H' := Aside0.mk H
                              clear H
                              go_wp2
                              go_loopg [15, 16] k3 (fun kq v15 v16 w' => ∃ (x15_4 : List Int) (x16_4 : Int), v16 = .int .i64 x16_4 ∧ Aside0 (tidemilllaw22_AsgnLone.l2 kq a0 t123 ji6 ji10 x10_3 x15_4 x16_4 = some r) ∧ Aside0 (kq ≤ k3) ∧ Aside0 (Kd.R Kd.bool 4 w' w.heap.size (fun _ => True) (.slice (some ⟨go13, 0, none⟩) x10_3.length co19) x10_3) ∧ Aside0 (Kd.R (Kd.int .i64) 3 w' w.heap.size (fun _ => True) v15 x15_4) ∧ Aside0 (Below w.heap.size w w'))
                              case atStart => exact ⟨(([] : List Int)), (0), (by first | rfl | (simp; done) | (simp [*]; done)), H', ⟨Nat.le_refl _⟩, ⟨by (try simp only [hl10_14]); (try simp only [hl10_3]); (with_reducible repeat (first | apply Kd.R_alloc | apply Kd.R_drewN | apply Kd.R_drew)); exact HO_10.out⟩, ⟨by (try simp only [hl10_14]); (try simp only [hl10_3]); first | exact Kd.R_nil _ _ _ _ _ | exact Kd.N_nil _ _ _ _ _ | exact Kd.V_nil _ _ _ _ _ | exact Kd.Q_nil _ _ _ _ _ | exact Kd.S_nil _ _ _ _ _⟩, ⟨by repeat (first | (with_reducible first | exact HB.out | apply below_alloc | apply pw_below_drewN | apply below_drew1) | exact HB.out)⟩⟩
                              case round =>
                                clear H'
                                try clear c1
                                try clear p1
                                try clear q1
                                try clear hx1
                                try clear c2
                                try clear p2
                                try clear c3
                                try clear c4
                                try clear p4
                                try clear q4
                                try clear hx4
                                try clear hf4
                                try clear c5
                                try clear c5b0
                                try clear c5b1
                                try clear p6
                                try clear c7
                                try clear c7b0
                                try clear c7b1
                                try clear c8
                                try clear c8b0
                                try clear c8b1
                                try clear c11
                                try clear c11b0
                                try clear c12
                                try clear c12b0
                                try clear p13
                                try clear q13
                                try clear hx13
                                try clear hf13
                                try clear c20
                                try clear c23
                                try clear c24
                                try clear c24b0
                                try clear c24b1
                                try clear c28
                                try clear c29
                                try clear c29b0
                                try clear c30
                                try clear c30b0
                                try clear c31
                                try clear c31b0
                                try clear c32
                                try clear c32b0
                                try clear c32b1
                                try clear c33
                                try clear c33b0
                                try clear c34
                                try clear c34b0
                                try clear c34b1
                                try clear c40
                                try clear c40b0
                                try clear c41
                                try clear c41b0
                                try clear c42
                                try clear c42b0
                                try clear p43
                                try clear q43
                                try clear hx43
                                try clear hf43
                                try clear hx134_0
                                try clear hx135_0
                                try clear hx13_0
                                try clear hx43_0
                                try clear p1
                                try clear p13
                                try clear p134
                                try clear p135
                                try clear p2
                                try clear p43
                                try clear p6
                                try clear q1
                                try clear q13
                                try clear q134
                                try clear q135
                                try clear q43
                                obtain ⟨x15_4, x16_4, rfl, HA, HK4, HO_10, HO_15, HB⟩ := hrel
                                cases gk with
                                | zero => exact absurd HA.out (by simp [tidemilllaw22_AsgnLone.l2])
                                | succ k4 =>
                                  have H := HA.out
                                  clear HA
                                  simp only [tidemilllaw22_AsgnLone.l2] at H
                                  by_cases c46 : x16_4 < (wrap64 (a0))
                                  · rw [if_pos c46] at H
                                    have c46b0 : decide (x16_4 < (wrap64 (a0))) = true := decide_eq_true c46
                                    clear c46
                                    by_cases c47 : ji6 = 0
                                    · rw [if_pos c47] at H
                                      exact absurd H (by simp)
                                    · rw [if_neg c47] at H
                                      have c47b0 : (ji6 == 0) = false := beq_eq_false_iff_ne.mpr c47
                                      have c47b1 : (ji6 != 0) = true := bne_iff_ne.mpr c47
                                      by_cases c48 : x15_4.length < 17592186044416
                                      · rw [if_pos c48] at H
                                        have LMc48 := Aside0.mk c48
                                        clear c48
                                        obtain ⟨y137, hy137⟩ : ∃ y_ : List Int, y_ = (x15_4 ++ [Int.tmod (wrap64 (x16_4 + ji10)) ji6]) := ⟨_, rfl⟩
                                        replace H : (tidemilllaw22_AsgnLone.l2 k4 a0 t123 ji6 ji10 x10_3 y137 (wrap64 (x16_4 + 1))) = some r := by first | (rw [hy137]; with_reducible exact H) | (have H2_ := (Option.bind_some _ _).symm.trans H; rw [hy137]; with_reducible exact H2_) | (have H2_ := (Option.bind_some _ _).symm.trans H; with_reducible exact H2_) | with_reducible exact H | (rw [hy137]; exact H) | exact H
                                        have Ny137 := Aside0.mk hy137
                                        clear hy137
                                        have H' := Aside0.mk H
                                        clear H
                                        go_wp2_with (first | ((with_reducible refine gate_builtin (b := .append) (xs := #[.tmp 84, .tmp 90]) rfl ?_); (try (refine gate_guard (by rfl) ?_; dsimp only)); at_builtin; refine Kd.R_append (Kd.int .i64) (w0 := w) w.heap.size rfl (.tmp 84) (.tmp 90) 44 3 (.int .i64 0) 8 rfl Try.underlying44 info3 rfl (by decide) (by omega) u15 x15_4 (Int.tmod (wrap64 (x16_4 + ji10)) ji6) [.int .i64 (Int.tmod (wrap64 (x16_4 + ji10)) ji6)] (fun _ => True) (fun _ => False) rfl rfl ?aP (fun _ hk => hk.elim) ?aF ?aO ?aB ?aS ?aL ?_; (case aP => exact rfl); (case aB => exact (by repeat (first | (with_reducible first | exact HB.out | apply below_alloc | apply pw_below_drewN | apply below_drew1) | exact HB.out))); (case aF => exact (fun _ _ => trivial)); (case aO => exact (by (with_reducible repeat (first | apply Kd.R_alloc | apply Kd.R_drewN | apply Kd.R_drew)); exact HO_15.out)); (case aS => exact (below_size (by repeat (first | (with_reducible first | exact HB.out | apply below_alloc | apply pw_below_drewN | apply below_drew1) | exact HB.out)))); (case aL => have := LMc48.out; omega); intro v138 w49 ho hb hg hat; rw [← Ny137.out] at ho; have n0_ := Aside0.mk (Kd.R_over' (by (with_reducible repeat (first | apply Kd.R_alloc | apply Kd.R_drewN | apply Kd.R_drew)); exact HO_10.out) (Kd.R_typed (by (with_reducible repeat (first | apply Kd.R_alloc | apply Kd.R_drewN | apply Kd.R_drew)); exact HO_15.out)) (by decide) hg); have n1_ := Aside0.mk (hb); have n2_ := Aside0.mk (ho); clear HO_10; clear HB; clear HO_15; have HO_10 := n0_; have HB := n1_; have HO139 := n2_; clear n0_ n1_ n2_; clear ho hb hg hat))
                                        go_roundg k4
                                        case measure => have := HJ14.out; have := HK2.out; have := HK3.out; have := HK4.out; omega
                                        case rel => exact ⟨(y137), (wrap64 (x16_4 + 1)), (by first | rfl | (simp; done) | (simp [*]; done)), H', ⟨by have := HJ14.out; have := HK2.out; have := HK3.out; have := HK4.out; omega⟩, ⟨by (try simp only [hl10_14]); (try simp only [hl10_3]); (with_reducible repeat (first | apply Kd.R_alloc | apply Kd.R_drewN | apply Kd.R_drew)); exact HO_10.out⟩, ⟨by (try simp only [hl10_14]); (try simp only [hl10_3]); (with_reducible repeat (first | apply Kd.R_alloc | apply Kd.R_drewN | apply Kd.R_drew)); exact HO139.out⟩, ⟨by repeat (first | (with_reducible first | exact HB.out | apply below_alloc | apply pw_below_drewN | apply below_drew1) | exact HB.out)⟩⟩
                                      · rw [if_neg c48] at H
                                        exact absurd H (by simp)
                                  · rw [if_neg c46] at H
                                    have c46b0 : decide (x16_4 < (wrap64 (a0))) = false := decide_eq_false c46
                                    clear c46
                                    by_cases c50 : t123 = true
                                    · subst c50
                                      have H1 : ((asgn_Assign.f (wrap64 (a0)) x10_3 x15_4).bind fun t140 => ((tidemillref01_Same.f k4 t140 x15_4).bind fun t143 => (some t143))) = some r := by rw [if_pos rfl] at H; exact H
                                      clear H
                                      have H := H1
                                      clear H1
                                      replace H := Option.bind_eq_some_iff.mp H
                                      obtain ⟨t140, A510, H⟩ := H
                                      replace H : ((tidemillref01_Same.f k4 t140 x15_4).bind fun t143 => (some t143)) = some r := H
                                      have A51 := Aside0.mk A510
                                      clear A510
                                      replace H := Option.bind_eq_some_iff.mp H
                                      obtain ⟨t143, A520, H⟩ := H
                                      replace H : (some t143) = some r := H
                                      have A52 := Aside0.mk A520
                                      clear A520
                                      obtain rfl := Option.some.inj H
                                      obtain ⟨Ao53, co53, eo53⟩ := Kd.R_slice HO_15.out
                                      subst eo53
                                      go_wp2_with (first | (go_at_call 23; (with_reducible refine (asgn_Assign.calls (wrap64 (a0)) _ _ x10_3 _ _ x15_4 t140 _ ?side1 ?side2 ?side3 ?side4 A51.out).mono ?_); (case side1 => repeat (first | exact (Kd.R_reads' HO_10.out).2.2 | (with_reducible refine Kd.C_alloc ?_ _) | (with_reducible refine Kd.C_drewN ?_ _) | (with_reducible refine Kd.C_drew ?_))); (case side2 => exact (Kd.R_reads' HO_10.out).2.1); (case side3 => repeat (first | exact (Kd.R_reads' HO_15.out).2.2 | (with_reducible refine Kd.C_alloc ?_ _) | (with_reducible refine Kd.C_drewN ?_ _) | (with_reducible refine Kd.C_drew ?_))); (case side4 => exact (Kd.R_reads' HO_15.out).2.1); rintro e w54 ⟨v141, rfl, ho0, hb⟩; have n0_ := Aside0.mk (Kd.R_below (by (with_reducible repeat (first | apply Kd.R_alloc | apply Kd.R_drewN | apply Kd.R_drew)); exact HO_10.out) hb); have n1_ := Aside0.mk (Kd.R_elder' (by (with_reducible repeat (first | apply Kd.R_alloc | apply Kd.R_drewN | apply Kd.R_drew)); exact HO_15.out) (Kd.R_base ho0) hb); have n2_ := Aside0.mk (Kd.R_lower (Kd.R_new' ho0 (Kd.R_lt (by (with_reducible repeat (first | apply Kd.R_alloc | apply Kd.R_drewN | apply Kd.R_drew)); exact HO_15.out))) (below_size (by repeat (first | (with_reducible first | exact HB.out | apply below_alloc | apply pw_below_drewN | apply below_drew1) | exact HB.out)))); have n3_ := Aside0.mk (below_step (by repeat (first | (with_reducible first | exact HB.out | apply below_alloc | apply pw_below_drewN | apply below_drew1) | exact HB.out)) hb); clear HO_10; clear HO_15; clear HB; have HO_10 := n0_; have HO_15 := n1_; have HO142 := n2_; have HB := n3_; clear n0_ n1_ n2_ n3_; (try clear hb); (try clear hb2); (try clear hk); (try clear hi); (try clear ho0); obtain ⟨Ao55, co55, eo55⟩ := Kd.R_slice HO142.out; subst eo55) | (go_at_call 22; (with_reducible refine (tidemillref01_Same.calls k4 _ _ t140 _ _ x15_4 t143 _ ?side1 ?side2 ?side3 ?side4 A52.out).mono ?_); (case side1 => repeat (first | exact (Kd.R_reads' HO142.out).2.2 | (with_reducible refine Kd.C_alloc ?_ _) | (with_reducible refine Kd.C_drewN ?_ _) | (with_reducible refine Kd.C_drew ?_))); (case side2 => exact (Kd.R_reads' HO142.out).2.1); (case side3 => repeat (first | exact (Kd.R_reads' HO_15.out).2.2 | (with_reducible refine Kd.C_alloc ?_ _) | (with_reducible refine Kd.C_drewN ?_ _) | (with_reducible refine Kd.C_drew ?_))); (case side4 => exact (Kd.R_reads' HO_15.out).2.1); rintro e w' ⟨rfl, ⟨nd, rfl⟩⟩))
                                      go_ret
                                      exact ⟨by first | rfl | (simp [errW_none, errW_some] <;> rfl) | (simp only [← hji6, ← hji10]; first | rfl | (simp [errW_none, errW_some] <;> rfl)) | (simp [*, errW_none, errW_some] <;> rfl), by repeat (first | (with_reducible first | exact HB.out | apply below_alloc | apply pw_below_drewN | apply below_drew1) | exact HB.out)⟩
                                    · replace c50 := Bool.eq_false_iff.mpr c50
                                      subst c50
                                      have H1 : (some false) = some r := by rw [if_neg (show ¬ (false = true) by decide)] at H; exact H
                                      clear H
                                      have H := H1
                                      clear H1
                                      obtain rfl := Option.some.inj H
                                      go_wp2
                                      go_ret
                                      exact ⟨by first | rfl | (simp [errW_none, errW_some] <;> rfl) | (simp only [← hji6, ← hji10]; first | rfl | (simp [errW_none, errW_some] <;> rfl)) | (simp [*, errW_none, errW_some] <;> rfl), by repeat (first | (with_reducible first | exact HB.out | apply below_alloc | apply pw_below_drewN | apply below_drew1) | exact HB.out)⟩
          · rw [if_neg c12] at H
            exact absurd H (by simp)
        · rw [if_neg c11] at H
          exact absurd H (by simp)
      · rw [if_neg c8] at H
        exact absurd H (by simp)
    · rw [if_neg c7] at H
      exact absurd H (by simp)

/-- THE ONE PURE STATEMENT of tidemilllaw22_AsgnLone: yours. -/
def tidemilllaw22_AsgnLone.Pure : Prop := ∀ (a0 : Int) (a1 : Int) (a2 : Int), (Lit.int .u8 a0).wf = true → (Lit.int .u8 a1).wf = true → (Lit.int .u8 a2).wf = true → ∃ k, tidemilllaw22_AsgnLone.f k a0 a1 a2 = some true
theorem tidemilllaw22_AsgnLone.walk (P : tidemilllaw22_AsgnLone.Pure) (a0 : Int) (a1 : Int) (a2 : Int) (w : World) (w0 : (Lit.int .u8 a0).wf = true) (w1 : (Lit.int .u8 a1).wf = true) (w2 : (Lit.int .u8 a2).wf = true) :
    Calls Try.prog 8 #[.int .u8 a0, .int .u8 a1, .int .u8 a2] w fun e w' => e = .returned (.bool true) ∧ Below w.heap.size w w' := by
  obtain ⟨k, h⟩ := P a0 a1 a2 w0 w1 w2
  refine (tidemilllaw22_AsgnLone.calls k a0 a1 a2 true w h).mono ?_
  rintro e w' ⟨rfl, hd⟩
  exact ⟨rfl, hd⟩

end Go.Proofs.Ytjngkndiokfibaa.PAsgnLone

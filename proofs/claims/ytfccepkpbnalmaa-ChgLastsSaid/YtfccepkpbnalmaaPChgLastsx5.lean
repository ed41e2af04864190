-- Written by a turned copy of the print, with contracts that this session proved by hand.
import Derived.Test.YtfccepkpbnalmaaPChgLastsx0
import Derived.Test.YtfccepkpbnalmaaPChgLastsx3
import Derived.Test.YtfccepkpbnalmaaPChgLastsx4
namespace Go.Proofs.Ytfccepkpbnalmaa.PChgLasts
open Go.RowKit Go.Proofs.YtfccepkpbnalmaaW.PrintWords Go.Proofs.YtfccepkpbnalmaaW.PrintLast Go.Proofs.YtfccepkpbnalmaaW.PrintMore
attribute [local go_sem] max2_int min2_int max_two min_two max_three min_three max_four min_four   -- for this text's walks alone
set_option linter.unusedVariables false
set_option linter.unusedSimpArgs false

/-! ### tidemillref15_Last: function 11 -/
mutual
def tidemillref15_Last.l0 : Nat → List (S30) → List (S30) → Int → Option ((List (S30)))
  | 0, _, _, _ => none
  | k + 1, x0, x3, x4 => if x4 < (x0.length : Int) then (tidemillref15_Last.l1 k x0 x3 x4 false (wrap64 (x4 + 1))) else (some x3)
def tidemillref15_Last.l1 : Nat → List (S30) → List (S30) → Int → Bool → Int → Option ((List (S30)))
  | 0, _, _, _, _, _ => none
  | k + 1, x0, x3, x4, x5, x6 => if x6 < (x0.length : Int) then (if x5 = true then (tidemillref15_Last.l1 k x0 x3 x4 true (wrap64 (x6 + 1))) else (if 0 ≤ x4 then (if x4 < (x0.length : Int) then (if 0 ≤ x6 then ((tidemillref15_Place.f ((rd_T30 x0 x4).f0) ((rd_T30 x0 x4).f1) ((rd_T30 x0 x4).f2) ((rd_T30 x0 x4).f3) ((rd_T30 x0 x4).f4) ((rd_T30 x0 x6).f0) ((rd_T30 x0 x6).f1) ((rd_T30 x0 x6).f2) ((rd_T30 x0 x6).f3) ((rd_T30 x0 x6).f4)).bind fun t135 => (tidemillref15_Last.l1 k x0 x3 x4 t135 (wrap64 (x6 + 1)))) else (none)) else (none)) else (none))) else (if x5 = true then (tidemillref15_Last.j2 k x0 x3 x4 true) else (if 0 ≤ x4 then (if x4 < (x0.length : Int) then (tidemillref15_Last.j2 k x0 x3 x4 ((rd_T30 x0 x4).f4)) else (none)) else (none)))
def tidemillref15_Last.j2 : Nat → List (S30) → List (S30) → Int → Bool → Option ((List (S30)))
  | 0, _, _, _, _ => none
  | k + 1, x0, x3, x4, x43 => if x43 = true then (tidemillref15_Last.l0 k x0 x3 (wrap64 (x4 + 1))) else (tidemillref15_Last.l2 k x0 x3 x4 ([] : List (S30)) false 0)
def tidemillref15_Last.l2 : Nat → List (S30) → List (S30) → Int → List (S30) → Bool → Int → Option ((List (S30)))
  | 0, _, _, _, _, _, _ => none
  | k + 1, x0, x3, x4, x7, x8, x9 => if x9 < (x3.length : Int) then (if x8 = true then (if 0 ≤ x9 then (if x7.length < 3518437208883 then (tidemillref15_Last.l2 k x0 x3 x4 (x7 ++ [(⟨(rd_T30 x3 x9).f0, (rd_T30 x3 x9).f1, (rd_T30 x3 x9).f2, (rd_T30 x3 x9).f3, (rd_T30 x3 x9).f4⟩ : S30)]) x8 (wrap64 (x9 + 1))) else (none)) else (none)) else (if 0 ≤ x4 then (if x4 < (x0.length : Int) then (if 0 ≤ x9 then ((tidemillref15_ahead.f ((rd_T30 x0 x4).f0) ((rd_T30 x0 x4).f1) ((rd_T30 x0 x4).f2) ((rd_T30 x0 x4).f3) ((rd_T30 x0 x4).f4) ((rd_T30 x3 x9).f0) ((rd_T30 x3 x9).f1) ((rd_T30 x3 x9).f2) ((rd_T30 x3 x9).f3) ((rd_T30 x3 x9).f4)).bind fun t143 => (if t143 = true then (if x7.length < 3518437208883 then ((some (x7 ++ [(⟨(rd_T30 x0 x4).f0, (rd_T30 x0 x4).f1, (rd_T30 x0 x4).f2, (rd_T30 x0 x4).f3, (rd_T30 x0 x4).f4⟩ : S30)] : List (S30))).bind fun y145 => (if y145.length < 3518437208883 then (tidemillref15_Last.l2 k x0 x3 x4 (y145 ++ [(⟨(rd_T30 x3 x9).f0, (rd_T30 x3 x9).f1, (rd_T30 x3 x9).f2, (rd_T30 x3 x9).f3, (rd_T30 x3 x9).f4⟩ : S30)]) true (wrap64 (x9 + 1))) else (none))) else (none)) else (if x7.length < 3518437208883 then (tidemillref15_Last.l2 k x0 x3 x4 (x7 ++ [(⟨(rd_T30 x3 x9).f0, (rd_T30 x3 x9).f1, (rd_T30 x3 x9).f2, (rd_T30 x3 x9).f3, (rd_T30 x3 x9).f4⟩ : S30)]) x8 (wrap64 (x9 + 1))) else (none)))) else (none)) else (none)) else (none))) else (if x8 = true then (tidemillref15_Last.l0 k x0 x7 (wrap64 (x4 + 1))) else (if 0 ≤ x4 then (if x4 < (x0.length : Int) then (if x7.length < 3518437208883 then (tidemillref15_Last.l0 k x0 (x7 ++ [(⟨(rd_T30 x0 x4).f0, (rd_T30 x0 x4).f1, (rd_T30 x0 x4).f2, (rd_T30 x0 x4).f3, (rd_T30 x0 x4).f4⟩ : S30)]) (wrap64 (x4 + 1))) else (none)) else (none)) else (none)))
end
def tidemillref15_Last.f (k : Nat) (l0 : List (S30)) : Option ((List (S30))) := tidemillref15_Last.l0 k l0 ([] : List (S30)) 0
theorem tidemillref15_Last.mono_l : ∀ k, (∀ y0 y1 y2, LeO (tidemillref15_Last.l0 k y0 y1 y2) (tidemillref15_Last.l0 (k + 1) y0 y1 y2)) ∧ (∀ y0 y1 y2 y3 y4, LeO (tidemillref15_Last.l1 k y0 y1 y2 y3 y4) (tidemillref15_Last.l1 (k + 1) y0 y1 y2 y3 y4)) ∧ (∀ y0 y1 y2 y3, LeO (tidemillref15_Last.j2 k y0 y1 y2 y3) (tidemillref15_Last.j2 (k + 1) y0 y1 y2 y3)) ∧ (∀ y0 y1 y2 y3 y4 y5, LeO (tidemillref15_Last.l2 k y0 y1 y2 y3 y4 y5) (tidemillref15_Last.l2 (k + 1) y0 y1 y2 y3 y4 y5))
  | 0 => ⟨fun _ _ _ r h => by simp [tidemillref15_Last.l0] at h, fun _ _ _ _ _ r h => by simp [tidemillref15_Last.l1] at h, fun _ _ _ _ r h => by simp [tidemillref15_Last.j2] at h, fun _ _ _ _ _ _ r h => by simp [tidemillref15_Last.l2] at h⟩
  | k + 1 => by
    obtain ⟨ih0, ih1, ih2, ih3⟩ := tidemillref15_Last.mono_l k
    refine ⟨?_, ?_, ?_, ?_⟩
    · intro y0 y1 y2
      unfold tidemillref15_Last.l0
      repeat' first
      | (with_reducible exact ih0 _ _ _)
      | (with_reducible exact ih1 _ _ _ _ _)
      | (with_reducible exact ih2 _ _ _ _)
      | (with_reducible exact ih3 _ _ _ _ _ _)
      | (with_reducible exact LeO.refl _)
      | (with_reducible exact LeO.none _)
      | (with_reducible refine LeO.ite ?_ ?_)
      | (with_reducible refine LeO.bind ?_ (fun _ => ?_))
      | exact ih0 _ _ _
      | exact ih1 _ _ _ _ _
      | exact ih2 _ _ _ _
      | exact ih3 _ _ _ _ _ _
      | exact LeO.none _
      | refine LeO.ite ?_ ?_
      | refine LeO.bind ?_ (fun _ => ?_)
    · intro y0 y1 y2 y3 y4
      unfold tidemillref15_Last.l1
      repeat' first
      | (with_reducible exact ih0 _ _ _)
      | (with_reducible exact ih1 _ _ _ _ _)
      | (with_reducible exact ih2 _ _ _ _)
      | (with_reducible exact ih3 _ _ _ _ _ _)
      | (with_reducible exact LeO.refl _)
      | (with_reducible exact LeO.none _)
      | (with_reducible refine LeO.ite ?_ ?_)
      | (with_reducible refine LeO.bind ?_ (fun _ => ?_))
      | exact ih0 _ _ _
      | exact ih1 _ _ _ _ _
      | exact ih2 _ _ _ _
      | exact ih3 _ _ _ _ _ _
      | exact LeO.none _
      | refine LeO.ite ?_ ?_
      | refine LeO.bind ?_ (fun _ => ?_)
    · intro y0 y1 y2 y3
      unfold tidemillref15_Last.j2
      repeat' first
      | (with_reducible exact ih0 _ _ _)
      | (with_reducible exact ih1 _ _ _ _ _)
      | (with_reducible exact ih2 _ _ _ _)
      | (with_reducible exact ih3 _ _ _ _ _ _)
      | (with_reducible exact LeO.refl _)
      | (with_reducible exact LeO.none _)
      | (with_reducible refine LeO.ite ?_ ?_)
      | (with_reducible refine LeO.bind ?_ (fun _ => ?_))
      | exact ih0 _ _ _
      | exact ih1 _ _ _ _ _
      | exact ih2 _ _ _ _
      | exact ih3 _ _ _ _ _ _
      | exact LeO.none _
      | refine LeO.ite ?_ ?_
      | refine LeO.bind ?_ (fun _ => ?_)
    · intro y0 y1 y2 y3 y4 y5
      unfold tidemillref15_Last.l2
      repeat' first
      | (with_reducible exact ih0 _ _ _)
      | (with_reducible exact ih1 _ _ _ _ _)
      | (with_reducible exact ih2 _ _ _ _)
      | (with_reducible exact ih3 _ _ _ _ _ _)
      | (with_reducible exact LeO.refl _)
      | (with_reducible exact LeO.none _)
      | (with_reducible refine LeO.ite ?_ ?_)
      | (with_reducible refine LeO.bind ?_ (fun _ => ?_))
      | exact ih0 _ _ _
      | exact ih1 _ _ _ _ _
      | exact ih2 _ _ _ _
      | exact ih3 _ _ _ _ _ _
      | exact LeO.none _
      | refine LeO.ite ?_ ?_
      | refine LeO.bind ?_ (fun _ => ?_)
theorem tidemillref15_Last.mono : ∀ a0 k, LeO (tidemillref15_Last.f k a0) (tidemillref15_Last.f (k + 1) a0) := by
  intro a0 k
  obtain ⟨ih0, ih1, ih2, ih3⟩ := tidemillref15_Last.mono_l k
  unfold tidemillref15_Last.f
  repeat' first
      | (with_reducible exact ih0 _ _ _)
      | (with_reducible exact ih1 _ _ _ _ _)
      | (with_reducible exact ih2 _ _ _ _)
      | (with_reducible exact ih3 _ _ _ _ _ _)
      | (with_reducible exact LeO.refl _)
      | (with_reducible exact LeO.none _)
      | (with_reducible refine LeO.ite ?_ ?_)
      | (with_reducible refine LeO.bind ?_ (fun _ => ?_))
      | exact ih0 _ _ _
      | exact ih1 _ _ _ _ _
      | exact ih2 _ _ _ _
      | exact ih3 _ _ _ _ _ _
      | exact LeO.none _
      | refine LeO.ite ?_ ?_
      | refine LeO.bind ?_ (fun _ => ?_)
def tidemillref15_Last.T9 : Bool × List (List Nat × List Nat) := (true, [([], []), ([0], [0]), ([1], [1]), ([1], [1]), ([2, 3, 1], [1, 2, 3]), ([4, 1], [1, 4]), ([1], [1]), ([1], [1]), ([6, 7, 1], [1, 6, 7]), ([8, 1], [1, 8]), ([5, 9, 1, 1], [1, 5, 9]), ([1, 10], [1, 10]), ([11, 10, 0, 1, 2, 3, 4, 5, 6, 7, 8, 9, 10, 11], [0, 11])])
def tidemillref15_Last.B9 : List Nat := [0, 1, 3, 3, 15, 31, 3, 3, 195, 451, 1023, 2047, 4095]
theorem tidemillref15_Last.tab9 : rtab .any (opsOf Try.f11 9) = tidemillref15_Last.T9 := by kernel_rfl
theorem tidemillref15_Last.bits9 : waitsOk tidemillref15_Last.T9.2 tidemillref15_Last.B9 = true := by kernel_rfl
def tidemillref15_Last.T16 : Bool × List (List Nat × List Nat) := (true, [([], []), ([0], [0]), ([1], [1]), ([2], [2]), ([2], [2]), ([3, 4, 2], [2, 3, 4]), ([5, 2], [2, 5]), ([2], [2]), ([2], [2]), ([7, 8, 2], [2, 7, 8]), ([9, 2], [2, 9]), ([6, 10, 2, 2], [2, 6, 10]), ([2, 11], [2, 11])])
def tidemillref15_Last.B16 : List Nat := [0, 1, 3, 7, 7, 31, 63, 7, 7, 391, 903, 2047, 4095]
theorem tidemillref15_Last.tab16 : rtab .any (opsOf Try.f11 16) = tidemillref15_Last.T16 := by kernel_rfl
theorem tidemillref15_Last.bits16 : waitsOk tidemillref15_Last.T16.2 tidemillref15_Last.B16 = true := by kernel_rfl
set_option maxHeartbeats 8000000 in
set_option maxRecDepth 100000 in
theorem tidemillref15_Last.calls (k : Nat) (A0 : Option Addr) (c0 : Nat) (l0 : List (S30)) (r : List (S30)) (w : World) (hr0 : Kd.C k30 w A0 l0.length l0) (hc0 : l0.length ≤ c0) (h : tidemillref15_Last.f k l0 = some r) :
    Calls Try.prog 11 #[.slice A0 l0.length c0] w fun e w' => ∃ v0_ : Value, e = .returned (v0_) ∧ Kd.R k30 30 w' w.heap.size (fun _ => True) v0_ r ∧ Below w.heap.size w w' := by
  have hu30 := Try.underlying30
  have HR0 := Aside0.mk hr0
  have HC0 := Aside0.mk hc0
  clear hr0 hc0
  have HB := Aside0.mk (Below.refl w.heap.size w)
  have H : (tidemillref15_Last.l0 k l0 ([] : List (S30)) 0) = some r := h
  clear h
  have H' := Aside0.mk H
  clear H
  go_enter Try.func11, Try.ntmps11
  go_wp2
  go_loopg [3, 4] k (fun kq v3 v4 w' => ∃ (x3_1 : List (S30)) (x4_1 : Int), v4 = .int .i64 x4_1 ∧ Aside0 (tidemillref15_Last.l0 kq l0 x3_1 x4_1 = some r) ∧ Aside0 (kq ≤ k) ∧ Aside0 (Kd.R k30 30 w' w.heap.size (fun _ => True) v3 x3_1) ∧ Aside0 (Below w.heap.size w w'))
  case atStart => exact ⟨(([] : List (S30))), (0), (by first | rfl | (simp; done) | (simp [*]; done)), H', ⟨Nat.le_refl _⟩, ⟨by first | exact Kd.R_nil _ _ _ _ _ | exact Kd.N_nil _ _ _ _ _ | exact Kd.V_nil _ _ _ _ _ | exact Kd.Q_nil _ _ _ _ _ | exact Kd.S_nil _ _ _ _ _⟩, ⟨by repeat (first | (with_reducible first | exact HB.out | apply below_alloc | apply pw_below_drewN | apply below_drew1) | exact HB.out)⟩⟩
  case round =>
    clear H'
    try clear c1
    obtain ⟨x3_1, x4_1, rfl, HA, HK1, HO_3, HB⟩ := hrel
    cases gk with
    | zero => exact absurd HA.out (by simp [tidemillref15_Last.l0])
    | succ k1 =>
      have H := HA.out
      clear HA
      simp only [tidemillref15_Last.l0] at H
      by_cases c2 : x4_1 < (l0.length : Int)
      · rw [if_pos c2] at H
        have c2b0 : decide (x4_1 < (l0.length : Int)) = true := decide_eq_true c2
        clear c2
        have H' := Aside0.mk H
        clear H
        go_wp2
        go_loopg [5, 6] k1 (fun kq v5 v6 w' => ∃ (x5_2 : Bool) (x6_2 : Int), v5 = .bool x5_2 ∧ v6 = .int .i64 x6_2 ∧ Aside0 (tidemillref15_Last.l1 kq l0 x3_1 x4_1 x5_2 x6_2 = some r) ∧ Aside0 (kq ≤ k1) ∧ Aside0 (Kd.R k30 30 w' w.heap.size (fun _ => True) u3 x3_1) ∧ Aside0 (Below w.heap.size w w'))
        case atStart => exact ⟨(false), (wrap64 (x4_1 + 1)), (by first | rfl | (simp; done) | (simp [*]; done)), (by first | rfl | (simp; done) | (simp [*]; done)), H', ⟨Nat.le_refl _⟩, ⟨by (with_reducible repeat (first | apply Kd.R_alloc | apply Kd.R_drewN | apply Kd.R_drew)); exact HO_3.out⟩, ⟨by repeat (first | (with_reducible first | exact HB.out | apply below_alloc | apply pw_below_drewN | apply below_drew1) | exact HB.out)⟩⟩
        case round =>
          clear H'
          try clear c1
          try clear c2
          try clear c2b0
          try clear p2
          obtain ⟨x5_2, x6_2, rfl, rfl, HA, HK2, HO_3, HB⟩ := hrel
          cases gk with
          | zero => exact absurd HA.out (by simp [tidemillref15_Last.l1])
          | succ k2 =>
            have H := HA.out
            clear HA
            simp only [tidemillref15_Last.l1] at H
            by_cases c3 : x6_2 < (l0.length : Int)
            · rw [if_pos c3] at H
              have c3b0 : decide (x6_2 < (l0.length : Int)) = true := decide_eq_true c3
              clear c3
              by_cases c4 : x5_2 = true
              · subst c4
                have H1 : (tidemillref15_Last.l1 k2 l0 x3_1 x4_1 true (wrap64 (x6_2 + 1))) = some r := by rw [if_pos rfl] at H; exact H
                clear H
                have H := H1
                clear H1
                have H' := Aside0.mk H
                clear H
                try go_wp2
                have n0_ := Aside0.mk (Kd.R_drew HO_3.out)
                have n1_ := Aside0.mk (below_drew1 HB.out)
                clear HO_3
                clear HB
                have HO_3 := n0_
                have HB := n1_
                clear n0_ n1_
                refine start_ (n := 13) (S := fun w' => True) (ds := []) #[false, false, false, false, false, false, false, false, false, false, false, false, false] (by kernel_rfl) rfl rfl trivial (fun hHeld => ?_); refine with_tabW tidemillref15_Last.tab9 tidemillref15_Last.bits9 (fun HT_ HW_ => ?_)
                generalize wr.drew = w5 at HO_3 HB hHeld ⊢
                refine pure_ (i := 0) (N := some 24) (v := ?_) (a' := ?_) #[true, false, false, false, false, false, false, false, false, false, false, false, false] rfl rfl (any_of HT_.out (by kernel_rfl)) (fun _ _ _ h => h) (Or.inl ⟨by rfl, ?_⟩) ?_ ?_
                rotate_left
                · intro w'
                  go_simp
                  with_reducible rfl
                rotate_left
                · simp only [Act.put, List.setIfInBounds_toArray, List.set_cons_zero, List.set_cons_succ, i64_w, i32_w]
                  rfl
                refine pure_ (i := 1) (N := some 25) (v := ?_) (a' := ?_) #[true, true, false, false, false, false, false, false, false, false, false, false, false] rfl rfl (any_of HT_.out (by kernel_rfl)) (fun _ _ _ h => h) (Or.inl ⟨by rfl, ?_⟩) ?_ ?_
                rotate_left
                · intro w'
                  go_simp
                  with_reducible rfl
                rotate_left
                · simp only [Act.put, List.setIfInBounds_toArray, List.set_cons_zero, List.set_cons_succ, i64_w, i32_w]
                  rfl
                refine pure_ (i := 2) (N := some 26) (v := undef) (a' := ?_) #[true, true, true, false, false, false, false, false, false, false, false, false, false] rfl rfl (any_of HT_.out (by kernel_rfl)) (fun _ _ _ h => h) (Or.inr ⟨by rfl, rfl⟩) ?_ ?_
                rotate_left
                · simp only [Act.put, List.setIfInBounds_toArray, List.set_cons_zero, List.set_cons_succ, i64_w, i32_w]
                  rfl
                refine pure_ (i := 3) (N := some 27) (v := undef) (a' := ?_) #[true, true, true, true, false, false, false, false, false, false, false, false, false] rfl rfl (any_of HT_.out (by kernel_rfl)) (fun _ _ _ h => h) (Or.inr ⟨by rfl, rfl⟩) ?_ ?_
                rotate_left
                · simp only [Act.put, List.setIfInBounds_toArray, List.set_cons_zero, List.set_cons_succ, i64_w, i32_w]
                  rfl
                refine pure_ (i := 4) (N := some 28) (v := undef) (a' := ?_) #[true, true, true, true, true, false, false, false, false, false, false, false, false] rfl rfl (any_of HT_.out (by kernel_rfl)) (fun _ _ _ h => h) (Or.inr ⟨by rfl, rfl⟩) ?_ ?_
                rotate_left
                · simp only [Act.put, List.setIfInBounds_toArray, List.set_cons_zero, List.set_cons_succ, i64_w, i32_w]
                  rfl
                refine pure_ (i := 5) (N := some 29) (v := undef) (a' := ?_) #[true, true, true, true, true, true, false, false, false, false, false, false, false] rfl rfl (any_of HT_.out (by kernel_rfl)) (fun _ _ _ h => h) (Or.inr ⟨by rfl, rfl⟩) ?_ ?_
                rotate_left
                · simp only [Act.put, List.setIfInBounds_toArray, List.set_cons_zero, List.set_cons_succ, i64_w, i32_w]
                  rfl
                refine pure_ (i := 6) (N := some 30) (v := undef) (a' := ?_) #[true, true, true, true, true, true, true, false, false, false, false, false, false] rfl rfl (any_of HT_.out (by kernel_rfl)) (fun _ _ _ h => h) (Or.inr ⟨by rfl, rfl⟩) ?_ ?_
                rotate_left
                · simp only [Act.put, List.setIfInBounds_toArray, List.set_cons_zero, List.set_cons_succ, i64_w, i32_w]
                  rfl
                refine pure_ (i := 7) (N := some 31) (v := undef) (a' := ?_) #[true, true, true, true, true, true, true, true, false, false, false, false, false] rfl rfl (any_of HT_.out (by kernel_rfl)) (fun _ _ _ h => h) (Or.inr ⟨by rfl, rfl⟩) ?_ ?_
                rotate_left
                · simp only [Act.put, List.setIfInBounds_toArray, List.set_cons_zero, List.set_cons_succ, i64_w, i32_w]
                  rfl
                refine pure_ (i := 8) (N := some 32) (v := undef) (a' := ?_) #[true, true, true, true, true, true, true, true, true, false, false, false, false] rfl rfl (any_of HT_.out (by kernel_rfl)) (fun _ _ _ h => h) (Or.inr ⟨by rfl, rfl⟩) ?_ ?_
                rotate_left
                · simp only [Act.put, List.setIfInBounds_toArray, List.set_cons_zero, List.set_cons_succ, i64_w, i32_w]
                  rfl
                refine pure_ (i := 9) (N := some 33) (v := undef) (a' := ?_) #[true, true, true, true, true, true, true, true, true, true, false, false, false] rfl rfl (any_of HT_.out (by kernel_rfl)) (fun _ _ _ h => h) (Or.inr ⟨by rfl, rfl⟩) ?_ ?_
                rotate_left
                · simp only [Act.put, List.setIfInBounds_toArray, List.set_cons_zero, List.set_cons_succ, i64_w, i32_w]
                  rfl
                refine pure_ (i := 10) (N := some 34) (v := undef) (a' := ?_) #[true, true, true, true, true, true, true, true, true, true, true, false, false] rfl rfl (any_of HT_.out (by kernel_rfl)) (fun _ _ _ h => h) (Or.inr ⟨by rfl, rfl⟩) ?_ ?_
                rotate_left
                · simp only [Act.put, List.setIfInBounds_toArray, List.set_cons_zero, List.set_cons_succ, i64_w, i32_w]
                  rfl
                refine pure_ (i := 11) (N := some 35) (v := ?_) (a' := ?_) #[true, true, true, true, true, true, true, true, true, true, true, true, false] rfl rfl (any_of HT_.out (by kernel_rfl)) (fun _ _ _ h => h) (Or.inl ⟨by rfl, ?_⟩) ?_ ?_
                rotate_left
                · intro w'
                  go_simp
                  with_reducible rfl
                rotate_left
                · simp only [Act.put, List.setIfInBounds_toArray, List.set_cons_zero, List.set_cons_succ, i64_w, i32_w]
                  rfl
                refine pure_ (i := 12) (N := some 5) (v := ?_) (a' := ?_) #[true, true, true, true, true, true, true, true, true, true, true, true, true] rfl rfl (any_of HT_.out (by kernel_rfl)) (fun _ _ _ h => h) (Or.inl ⟨by rfl, ?_⟩) ?_ ?_
                rotate_left
                · intro w'
                  go_simp
                  with_reducible rfl
                rotate_left
                · simp only [Act.put, List.setIfInBounds_toArray, List.set_cons_zero, List.set_cons_succ, i64_w, i32_w]
                  rfl
                refine done_ (done_of HT_.out (by kernel_rfl)) ?_
                try go_wp2
                go_roundg k2
                case measure => have := HK1.out; have := HK2.out; omega
                case rel => exact ⟨(true), (wrap64 (x6_2 + 1)), (by first | rfl | (simp; done) | (simp [*]; done)), (by first | rfl | (simp; done) | (simp [*]; done)), H', ⟨by have := HK1.out; have := HK2.out; omega⟩, ⟨by (with_reducible repeat (first | apply Kd.R_alloc | apply Kd.R_drewN | apply Kd.R_drew)); exact HO_3.out⟩, ⟨by repeat (first | (with_reducible first | exact HB.out | apply below_alloc | apply pw_below_drewN | apply below_drew1) | exact HB.out)⟩⟩
              · replace c4 := Bool.eq_false_iff.mpr c4
                subst c4
                have H1 : (if 0 ≤ x4_1 then (if x4_1 < (l0.length : Int) then (if 0 ≤ x6_2 then ((tidemillref15_Place.f ((rd_T30 l0 x4_1).f0) ((rd_T30 l0 x4_1).f1) ((rd_T30 l0 x4_1).f2) ((rd_T30 l0 x4_1).f3) ((rd_T30 l0 x4_1).f4) ((rd_T30 l0 x6_2).f0) ((rd_T30 l0 x6_2).f1) ((rd_T30 l0 x6_2).f2) ((rd_T30 l0 x6_2).f3) ((rd_T30 l0 x6_2).f4)).bind fun t135 => (tidemillref15_Last.l1 k2 l0 x3_1 x4_1 t135 (wrap64 (x6_2 + 1)))) else (none)) else (none)) else (none)) = some r := by rw [if_neg (show ¬ (false = true) by decide)] at H; exact H
                clear H
                have H := H1
                clear H1
                by_cases c6 : 0 ≤ x4_1
                · rw [if_pos c6] at H
                  have c6b0 : decide (0 ≤ x4_1) = true := decide_eq_true c6
                  clear c6
                  by_cases c7 : x4_1 < (l0.length : Int)
                  · rw [if_pos c7] at H
                    have c7b0 : decide (x4_1 < (l0.length : Int)) = true := decide_eq_true c7
                    clear c7
                    by_cases c8 : 0 ≤ x6_2
                    · rw [if_pos c8] at H
                      have c8b0 : decide (0 ≤ x6_2) = true := decide_eq_true c8
                      clear c8
                      replace H := Option.bind_eq_some_iff.mp H
                      obtain ⟨t135, A90, H⟩ := H
                      replace H : (tidemillref15_Last.l1 k2 l0 x3_1 x4_1 t135 (wrap64 (x6_2 + 1))) = some r := H
                      have A9 := Aside0.mk A90
                      clear A90
                      have H' := Aside0.mk H
                      clear H
                      try go_wp2
                      have n0_ := Aside0.mk (Kd.R_drew HO_3.out)
                      have n1_ := Aside0.mk (below_drew1 HB.out)
                      clear HO_3
                      clear HB
                      have HO_3 := n0_
                      have HB := n1_
                      clear n0_ n1_
                      have p133 : 0 ≤ (x4_1 : Int) := of_decide_eq_true (by first | (with_reducible assumption) | assumption)
                      have q133 : x4_1 < (l0.length : Int) := of_decide_eq_true (by first | (with_reducible assumption) | assumption)
                      obtain ⟨ad133, e133, hx133_0, hx133_1, hx133_2, hx133_3, hx133_4⟩ := at_T30 HR0.out x4_1 p133 q133
                      have hw133_4 := hx133_4
                      have hw133_3 := hx133_3
                      have hw133_2 := hx133_2
                      have hw133_1 := hx133_1
                      have hw133_0 := hx133_0
                      cases e133
                      replace hx133_0 := (HB.out.cell (World.block_lt_of_cell? w _ hx133_0)).trans hx133_0
                      replace hx133_1 := (HB.out.cell (World.block_lt_of_cell? w _ hx133_1)).trans hx133_1
                      replace hx133_2 := (HB.out.cell (World.block_lt_of_cell? w _ hx133_2)).trans hx133_2
                      replace hx133_3 := (HB.out.cell (World.block_lt_of_cell? w _ hx133_3)).trans hx133_3
                      replace hx133_4 := (HB.out.cell (World.block_lt_of_cell? w _ hx133_4)).trans hx133_4
                      replace p133 := eq_true p133
                      replace q133 := eq_true q133
                      have p134 : 0 ≤ (x6_2 : Int) := of_decide_eq_true (by first | (with_reducible assumption) | assumption)
                      have q134 : x6_2 < (l0.length : Int) := of_decide_eq_true (by first | (with_reducible assumption) | assumption)
                      obtain ⟨ad134, e134, hx134_0, hx134_1, hx134_2, hx134_3, hx134_4⟩ := at_T30 HR0.out x6_2 p134 q134
                      have hw134_4 := hx134_4
                      have hw134_3 := hx134_3
                      have hw134_2 := hx134_2
                      have hw134_1 := hx134_1
                      have hw134_0 := hx134_0
                      obtain rfl : ad133 = ad134 := (by injection e134)
                      replace hx134_0 := (HB.out.cell (World.block_lt_of_cell? w _ hx134_0)).trans hx134_0
                      replace hx134_1 := (HB.out.cell (World.block_lt_of_cell? w _ hx134_1)).trans hx134_1
                      replace hx134_2 := (HB.out.cell (World.block_lt_of_cell? w _ hx134_2)).trans hx134_2
                      replace hx134_3 := (HB.out.cell (World.block_lt_of_cell? w _ hx134_3)).trans hx134_3
                      replace hx134_4 := (HB.out.cell (World.block_lt_of_cell? w _ hx134_4)).trans hx134_4
                      replace p134 := eq_true p134
                      replace q134 := eq_true q134
                      refine start_ (n := 13) (S := fun w' => w'.cell? (ad133.add ((x4_1).toNat * 5)) = some (.int .i64 ((rd_T30 l0 x4_1).f0)) ∧ w'.cell? ⟨(ad133.add ((x4_1).toNat * 5)).block, (ad133.add ((x4_1).toNat * 5)).off + 1, none⟩ = some (.int .i64 ((rd_T30 l0 x4_1).f1)) ∧ w'.cell? ⟨(ad133.add ((x4_1).toNat * 5)).block, (ad133.add ((x4_1).toNat * 5)).off + 2, none⟩ = some (.int .i64 ((rd_T30 l0 x4_1).f2)) ∧ w'.cell? ⟨(ad133.add ((x4_1).toNat * 5)).block, (ad133.add ((x4_1).toNat * 5)).off + 3, none⟩ = some (.int .i64 ((rd_T30 l0 x4_1).f3)) ∧ w'.cell? ⟨(ad133.add ((x4_1).toNat * 5)).block, (ad133.add ((x4_1).toNat * 5)).off + 4, none⟩ = some (.bool ((rd_T30 l0 x4_1).f4)) ∧ w'.cell? (ad133.add ((x6_2).toNat * 5)) = some (.int .i64 ((rd_T30 l0 x6_2).f0)) ∧ w'.cell? ⟨(ad133.add ((x6_2).toNat * 5)).block, (ad133.add ((x6_2).toNat * 5)).off + 1, none⟩ = some (.int .i64 ((rd_T30 l0 x6_2).f1)) ∧ w'.cell? ⟨(ad133.add ((x6_2).toNat * 5)).block, (ad133.add ((x6_2).toNat * 5)).off + 2, none⟩ = some (.int .i64 ((rd_T30 l0 x6_2).f2)) ∧ w'.cell? ⟨(ad133.add ((x6_2).toNat * 5)).block, (ad133.add ((x6_2).toNat * 5)).off + 3, none⟩ = some (.int .i64 ((rd_T30 l0 x6_2).f3)) ∧ w'.cell? ⟨(ad133.add ((x6_2).toNat * 5)).block, (ad133.add ((x6_2).toNat * 5)).off + 4, none⟩ = some (.bool ((rd_T30 l0 x6_2).f4))) (ds := []) #[false, false, false, false, false, false, false, false, false, false, false, false, false] (by kernel_rfl) rfl rfl ⟨((HB.out.cell (World.block_lt_of_cell? w _ hw133_0)).trans hw133_0), ((HB.out.cell (World.block_lt_of_cell? w _ hw133_1)).trans hw133_1), ((HB.out.cell (World.block_lt_of_cell? w _ hw133_2)).trans hw133_2), ((HB.out.cell (World.block_lt_of_cell? w _ hw133_3)).trans hw133_3), ((HB.out.cell (World.block_lt_of_cell? w _ hw133_4)).trans hw133_4), ((HB.out.cell (World.block_lt_of_cell? w _ hw134_0)).trans hw134_0), ((HB.out.cell (World.block_lt_of_cell? w _ hw134_1)).trans hw134_1), ((HB.out.cell (World.block_lt_of_cell? w _ hw134_2)).trans hw134_2), ((HB.out.cell (World.block_lt_of_cell? w _ hw134_3)).trans hw134_3), ((HB.out.cell (World.block_lt_of_cell? w _ hw134_4)).trans hw134_4)⟩ (fun hHeld => ?_); refine with_tabW tidemillref15_Last.tab9 tidemillref15_Last.bits9 (fun HT_ HW_ => ?_)
                      generalize wr.drew = w10 at HO_3 HB hx133_0 hx133_1 hx133_2 hx133_3 hx133_4 hx134_0 hx134_1 hx134_2 hx134_3 hx134_4 hHeld ⊢
                      refine pure_ (i := 0) (N := some 24) (v := ?_) (a' := ?_) #[true, false, false, false, false, false, false, false, false, false, false, false, false] rfl rfl (any_of HT_.out (by kernel_rfl)) (fun _ _ _ h => h) (Or.inl ⟨by rfl, ?_⟩) ?_ ?_
                      rotate_left
                      · intro w'
                        go_simp
                        with_reducible rfl
                      rotate_left
                      · simp only [Act.put, List.setIfInBounds_toArray, List.set_cons_zero, List.set_cons_succ, i64_w, i32_w]
                        rfl
                      refine pure_ (i := 1) (N := some 25) (v := ?_) (a' := ?_) #[true, true, false, false, false, false, false, false, false, false, false, false, false] rfl rfl (any_of HT_.out (by kernel_rfl)) (fun _ _ _ h => h) (Or.inl ⟨by rfl, ?_⟩) ?_ ?_
                      rotate_left
                      · intro w'
                        go_simp
                        with_reducible rfl
                      rotate_left
                      · simp only [Act.put, List.setIfInBounds_toArray, List.set_cons_zero, List.set_cons_succ, i64_w, i32_w]
                        rfl
                      refine pure_ (i := 2) (N := some 26) (v := ?_) (a' := ?_) #[true, true, true, false, false, false, false, false, false, false, false, false, false] rfl rfl (any_of HT_.out (by kernel_rfl)) (fun _ _ _ h => h) (Or.inl ⟨by rfl, ?_⟩) ?_ ?_
                      rotate_left
                      · intro w'
                        go_simp
                        with_reducible rfl
                      rotate_left
                      · simp only [Act.put, List.setIfInBounds_toArray, List.set_cons_zero, List.set_cons_succ, i64_w, i32_w]
                        rfl
                      refine pure_ (i := 3) (N := some 27) (v := ?_) (a' := ?_) #[true, true, true, true, false, false, false, false, false, false, false, false, false] rfl rfl (any_of HT_.out (by kernel_rfl)) (fun _ _ _ h => h) (Or.inl ⟨by rfl, ?_⟩) ?_ ?_
                      rotate_left
                      · intro w'
                        go_simp
                        with_reducible rfl
                      rotate_left
                      · simp only [Act.put, List.setIfInBounds_toArray, List.set_cons_zero, List.set_cons_succ, i64_w, i32_w]
                        rfl
                      refine pure_ (i := 4) (N := some 28) (v := ?_) (a' := ?_) #[true, true, true, true, true, false, false, false, false, false, false, false, false] rfl rfl (any_of HT_.out (by kernel_rfl)) (fun _ _ _ h => h) (Or.inl ⟨by rfl, ?_⟩) ?_ ?_
                      rotate_left
                      · intro w'
                        go_simp
                        with_reducible rfl
                      rotate_left
                      · simp only [Act.put, List.setIfInBounds_toArray, List.set_cons_zero, List.set_cons_succ, i64_w, i32_w]
                        rfl
                      refine pure_ (i := 6) (N := some 30) (v := ?_) (a' := ?_) #[true, true, true, true, true, false, true, false, false, false, false, false, false] rfl rfl (any_of HT_.out (by kernel_rfl)) (fun _ _ _ h => h) (Or.inl ⟨by rfl, ?_⟩) ?_ ?_
                      rotate_left
                      · intro w'
                        go_simp
                        with_reducible rfl
                      rotate_left
                      · simp only [Act.put, List.setIfInBounds_toArray, List.set_cons_zero, List.set_cons_succ, i64_w, i32_w]
                        rfl
                      refine pure_ (i := 7) (N := some 31) (v := ?_) (a' := ?_) #[true, true, true, true, true, false, true, true, false, false, false, false, false] rfl rfl (any_of HT_.out (by kernel_rfl)) (fun _ _ _ h => h) (Or.inl ⟨by rfl, ?_⟩) ?_ ?_
                      rotate_left
                      · intro w'
                        go_simp
                        with_reducible rfl
                      rotate_left
                      · simp only [Act.put, List.setIfInBounds_toArray, List.set_cons_zero, List.set_cons_succ, i64_w, i32_w]
                        rfl
                      refine pure_ (i := 8) (N := some 32) (v := ?_) (a' := ?_) #[true, true, true, true, true, false, true, true, true, false, false, false, false] rfl rfl (any_of HT_.out (by kernel_rfl)) (fun _ _ _ h => h) (Or.inl ⟨by rfl, ?_⟩) ?_ ?_
                      rotate_left
                      · intro w'
                        go_simp
                        with_reducible rfl
                      rotate_left
                      · simp only [Act.put, List.setIfInBounds_toArray, List.set_cons_zero, List.set_cons_succ, i64_w, i32_w]
                        rfl
                      refine take_ (i := 5) (N := some 29) (v := ?_) (a' := ?_) #[true, true, true, true, true, true, true, true, true, false, false, false, false] rfl rfl (take_ofW HT_.out HW_.out (by kernel_rfl)) (fun _ _ _ h => h) (Or.inl ⟨by rfl, ?_⟩) hHeld ?_ ?_
                      rotate_left
                      · rintro w' ⟨s0, s1, s2, s3, s4, s5, s6, s7, s8, s9⟩
                        go_simp
                        with_reducible rfl
                      rotate_left
                      · simp only [Act.put, List.setIfInBounds_toArray, List.set_cons_zero, List.set_cons_succ, i64_w, i32_w]
                        rfl
                      refine take_ (i := 9) (N := some 33) (v := ?_) (a' := ?_) #[true, true, true, true, true, true, true, true, true, true, false, false, false] rfl rfl (take_ofW HT_.out HW_.out (by kernel_rfl)) (fun _ _ _ h => h) (Or.inl ⟨by rfl, ?_⟩) hHeld ?_ ?_
                      rotate_left
                      · rintro w' ⟨s0, s1, s2, s3, s4, s5, s6, s7, s8, s9⟩
                        go_simp
                        with_reducible rfl
                      rotate_left
                      · simp only [Act.put, List.setIfInBounds_toArray, List.set_cons_zero, List.set_cons_succ, i64_w, i32_w]
                        rfl
                      refine one_ (i := 10) (N := some 34) #[true, true, true, true, true, true, true, true, true, true, true, false, false] rfl rfl (one_of HT_.out (by kernel_rfl)) (by decide) (fun K hK => ?_)
                      refine goes_ Try.func32 (by kernel_rfl) rfl #[.agg #[.int .i64 ((rd_T30 l0 x4_1).f0), .int .i64 ((rd_T30 l0 x4_1).f1), .int .i64 ((rd_T30 l0 x4_1).f2), .int .i64 ((rd_T30 l0 x4_1).f3), .bool ((rd_T30 l0 x4_1).f4)], .agg #[.int .i64 ((rd_T30 l0 x6_2).f0), .int .i64 ((rd_T30 l0 x6_2).f1), .int .i64 ((rd_T30 l0 x6_2).f2), .int .i64 ((rd_T30 l0 x6_2).f3), .bool ((rd_T30 l0 x6_2).f4)]] (by rfl) rfl rfl (by (try simp only [List.map_toArray, List.map_cons, List.map_nil]); first | done | rfl | (simp only [List.length_drop, List.length_take]; rfl)) ?_
                      with_reducible refine (tidemillref15_Place.calls ((rd_T30 l0 x4_1).f0) ((rd_T30 l0 x4_1).f1) ((rd_T30 l0 x4_1).f2) ((rd_T30 l0 x4_1).f3) ((rd_T30 l0 x4_1).f4) ((rd_T30 l0 x6_2).f0) ((rd_T30 l0 x6_2).f1) ((rd_T30 l0 x6_2).f2) ((rd_T30 l0 x6_2).f3) ((rd_T30 l0 x6_2).f4) t135 _ A9.out).mono ?_
                      rintro e w11 ⟨rfl, hb⟩
                      refine ⟨_, rfl, ?_⟩
                      have n0_ := Aside0.mk (Kd.R_below (by (with_reducible repeat (first | apply Kd.R_alloc | apply Kd.R_drewN | apply Kd.R_drew)); exact HO_3.out) hb)
                      have n1_ := Aside0.mk (below_step (by repeat (first | (with_reducible first | exact HB.out | apply below_alloc | apply pw_below_drewN | apply below_drew1) | exact HB.out)) hb)
                      clear HO_3
                      clear HB
                      have HO_3 := n0_
                      have HB := n1_
                      clear n0_ n1_
                      (try clear hb)
                      (try clear hb2)
                      (try clear hk)
                      (try clear hi)
                      refine hK.out _ _ ⟨((HB.out.cell (World.block_lt_of_cell? w _ hw133_0)).trans hw133_0), ((HB.out.cell (World.block_lt_of_cell? w _ hw133_1)).trans hw133_1), ((HB.out.cell (World.block_lt_of_cell? w _ hw133_2)).trans hw133_2), ((HB.out.cell (World.block_lt_of_cell? w _ hw133_3)).trans hw133_3), ((HB.out.cell (World.block_lt_of_cell? w _ hw133_4)).trans hw133_4), ((HB.out.cell (World.block_lt_of_cell? w _ hw134_0)).trans hw134_0), ((HB.out.cell (World.block_lt_of_cell? w _ hw134_1)).trans hw134_1), ((HB.out.cell (World.block_lt_of_cell? w _ hw134_2)).trans hw134_2), ((HB.out.cell (World.block_lt_of_cell? w _ hw134_3)).trans hw134_3), ((HB.out.cell (World.block_lt_of_cell? w _ hw134_4)).trans hw134_4)⟩ (fun hHeld => ?_)
                      clear hK K
                      refine norm_ (a' := ?_) ?_ ?_
                      rotate_left
                      · show Act.put _ (some 34) _ = _
                        simp only [Act.put, List.setIfInBounds_toArray, List.set_cons_zero, List.set_cons_succ, i64_w, i32_w]
                        rfl
                      refine pure_ (i := 11) (N := some 35) (v := ?_) (a' := ?_) #[true, true, true, true, true, true, true, true, true, true, true, true, false] rfl rfl (any_of HT_.out (by kernel_rfl)) (fun _ _ _ h => h) (Or.inl ⟨by rfl, ?_⟩) ?_ ?_
                      rotate_left
                      · intro w'
                        go_simp
                        with_reducible rfl
                      rotate_left
                      · simp only [Act.put, List.setIfInBounds_toArray, List.set_cons_zero, List.set_cons_succ, i64_w, i32_w]
                        rfl
                      refine pure_ (i := 12) (N := some 5) (v := ?_) (a' := ?_) #[true, true, true, true, true, true, true, true, true, true, true, true, true] rfl rfl (any_of HT_.out (by kernel_rfl)) (fun _ _ _ h => h) (Or.inl ⟨by rfl, ?_⟩) ?_ ?_
                      rotate_left
                      · intro w'
                        go_simp
                        with_reducible rfl
                      rotate_left
                      · simp only [Act.put, List.setIfInBounds_toArray, List.set_cons_zero, List.set_cons_succ, i64_w, i32_w]
                        rfl
                      refine done_ (done_of HT_.out (by kernel_rfl)) ?_
                      try go_wp2
                      go_roundg k2
                      case measure => have := HK1.out; have := HK2.out; omega
                      case rel => exact ⟨(t135), (wrap64 (x6_2 + 1)), (by first | rfl | (simp; done) | (simp [*]; done)), (by first | rfl | (simp; done) | (simp [*]; done)), H', ⟨by have := HK1.out; have := HK2.out; omega⟩, ⟨by (with_reducible repeat (first | apply Kd.R_alloc | apply Kd.R_drewN | apply Kd.R_drew)); exact HO_3.out⟩, ⟨by repeat (first | (with_reducible first | exact HB.out | apply below_alloc | apply pw_below_drewN | apply below_drew1) | exact HB.out)⟩⟩
                    · rw [if_neg c8] at H
                      exact absurd H (by simp)
                  · rw [if_neg c7] at H
                    exact absurd H (by simp)
                · rw [if_neg c6] at H
                  exact absurd H (by simp)
            · rw [if_neg c3] at H
              have c3b0 : decide (x6_2 < (l0.length : Int)) = false := decide_eq_false c3
              clear c3
              have HC12 := Aside0.mk H
              clear H
              go_upto_region 10 with (fail)
              go_cut [43] (fun v43 wc => ∃ (kq : Nat) (x43_11 : Bool), v43 = .bool x43_11 ∧ Aside0 (tidemillref15_Last.j2 kq l0 x3_1 x4_1 x43_11 = some r) ∧ Aside0 (kq ≤ k2) ∧ Aside0 (Kd.R k30 30 wc w.heap.size (fun _ => True) u3 x3_1) ∧ Aside0 (Below w.heap.size w wc))
              case first =>
                have H := HC12.out
                clear HC12
                by_cases c13 : x5_2 = true
                · subst c13
                  have H1 : (tidemillref15_Last.j2 k2 l0 x3_1 x4_1 true) = some r := by rw [if_pos rfl] at H; exact H
                  clear H
                  have H := H1
                  clear H1
                  have H' := Aside0.mk H
                  clear H
                  go_wp2
                  go_meet
                  case rel => exact ⟨_, (true), (by first | rfl | (simp; done) | (simp [*]; done)), H', ⟨by have := HK1.out; have := HK2.out; first | omega | exact Nat.le_refl _⟩, ⟨by (with_reducible repeat (first | apply Kd.R_alloc | apply Kd.R_drewN | apply Kd.R_drew)); exact HO_3.out⟩, ⟨by repeat (first | (with_reducible first | exact HB.out | apply below_alloc | apply pw_below_drewN | apply below_drew1) | exact HB.out)⟩⟩
                · replace c13 := Bool.eq_false_iff.mpr c13
                  subst c13
                  have H1 : (if 0 ≤ x4_1 then (if x4_1 < (l0.length : Int) then (tidemillref15_Last.j2 k2 l0 x3_1 x4_1 ((rd_T30 l0 x4_1).f4)) else (none)) else (none)) = some r := by rw [if_neg (show ¬ (false = true) by decide)] at H; exact H
                  clear H
                  have H := H1
                  clear H1
                  by_cases c14 : 0 ≤ x4_1
                  · rw [if_pos c14] at H
                    have c14b0 : decide (0 ≤ x4_1) = true := decide_eq_true c14
                    clear c14
                    (first | rw [c14b0] | (simp only [i64_w, i32_w]; rw [c14b0]) | skip)
                    by_cases c15 : x4_1 < (l0.length : Int)
                    · rw [if_pos c15] at H
                      have c15b0 : decide (x4_1 < (l0.length : Int)) = true := decide_eq_true c15
                      clear c15
                      have H' := Aside0.mk H
                      clear H
                      have p136 : 0 ≤ (x4_1 : Int) := of_decide_eq_true (by first | (with_reducible assumption) | assumption)
                      have q136 : x4_1 < (l0.length : Int) := of_decide_eq_true (by first | (with_reducible assumption) | assumption)
                      obtain ⟨ad136, e136, hx136_0, hx136_1, hx136_2, hx136_3, hx136_4⟩ := at_T30 HR0.out x4_1 p136 q136
                      cases e136
                      replace hx136_0 := (HB.out.cell (World.block_lt_of_cell? w _ hx136_0)).trans hx136_0
                      replace hx136_1 := (HB.out.cell (World.block_lt_of_cell? w _ hx136_1)).trans hx136_1
                      replace hx136_2 := (HB.out.cell (World.block_lt_of_cell? w _ hx136_2)).trans hx136_2
                      replace hx136_3 := (HB.out.cell (World.block_lt_of_cell? w _ hx136_3)).trans hx136_3
                      replace hx136_4 := (HB.out.cell (World.block_lt_of_cell? w _ hx136_4)).trans hx136_4
                      replace p136 := eq_true p136
                      replace q136 := eq_true q136
                      go_wp2
                      go_meet
                      case rel => exact ⟨_, ((rd_T30 l0 x4_1).f4), (by first | rfl | (simp; done) | (simp [*]; done)), H', ⟨by have := HK1.out; have := HK2.out; first | omega | exact Nat.le_refl _⟩, ⟨by (with_reducible repeat (first | apply Kd.R_alloc | apply Kd.R_drewN | apply Kd.R_drew)); exact HO_3.out⟩, ⟨by repeat (first | (with_reducible first | exact HB.out | apply below_alloc | apply pw_below_drewN | apply below_drew1) | exact HB.out)⟩⟩
                    · rw [if_neg c15] at H
                      exact absurd H (by simp)
                  · rw [if_neg c14] at H
                    exact absurd H (by simp)
              case rest =>
                clear HC12
                try clear c1
                try clear p1
                try clear q1
                try clear hx1
                try clear c2
                try clear c2b0
                try clear p2
                try clear c3
                try clear c3b0
                try clear c4
                try clear c6
                try clear c6b0
                try clear p6
                try clear c7
                try clear c7b0
                try clear c8
                try clear c8b0
                try clear c11
                try clear c13
                try clear p13
                try clear q13
                try clear hx13
                try clear c14
                try clear c14b0
                try clear c15
                try clear c15b0
                try clear hx133_0
                try clear hx133_1
                try clear hx133_2
                try clear hx133_3
                try clear hx133_4
                try clear hx134_0
                try clear hx134_1
                try clear hx134_2
                try clear hx134_3
                try clear hx134_4
                try clear hx136_0
                try clear hx136_1
                try clear hx136_2
                try clear hx136_3
                try clear hx136_4
                try clear p133
                try clear p134
                try clear p136
                try clear p2
                try clear q133
                try clear q134
                try clear q136
                obtain ⟨kq, x43_11, rfl, HA, HJ11, HO_3, HB⟩ := hcut
                cases kq with
                | zero => exact absurd HA.out (by simp [tidemillref15_Last.j2])
                | succ kj11 =>
                  have H := HA.out
                  clear HA
                  simp only [tidemillref15_Last.j2] at H
                  by_cases c16 : x43_11 = true
                  · subst c16
                    have H1 : (tidemillref15_Last.l0 kj11 l0 x3_1 (wrap64 (x4_1 + 1))) = some r := by rw [if_pos rfl] at H; exact H
                    clear H
                    have H := H1
                    clear H1
                    have H' := Aside0.mk H
                    clear H
                    go_wp2
                    go_roundg kj11
                    case measure => have := HK1.out; have := HK2.out; have := HJ11.out; omega
                    case rel => exact ⟨(x3_1), (wrap64 (x4_1 + 1)), (by first | rfl | (simp; done) | (simp [*]; done)), H', ⟨by have := HK1.out; have := HK2.out; have := HJ11.out; omega⟩, ⟨by (with_reducible repeat (first | apply Kd.R_alloc | apply Kd.R_drewN | apply Kd.R_drew)); exact HO_3.out⟩, ⟨by repeat (first | (with_reducible first | exact HB.out | apply below_alloc | apply pw_below_drewN | apply below_drew1) | exact HB.out)⟩⟩
                  · replace c16 := Bool.eq_false_iff.mpr c16
                    subst c16
                    have H1 : (tidemillref15_Last.l2 kj11 l0 x3_1 x4_1 ([] : List (S30)) false 0) = some r := by rw [if_neg (show ¬ (false = true) by decide)] at H; exact H
                    clear H
                    have H := H1
                    clear H1
                    have H' := Aside0.mk H
                    clear H
                    go_wp2
                    go_loopg [7, 8, 9] kj11 (fun kq v7 v8 v9 w' => ∃ (x7_4 : List (S30)) (x8_4 : Bool) (x9_4 : Int), v8 = .bool x8_4 ∧ v9 = .int .i64 x9_4 ∧ Aside0 (tidemillref15_Last.l2 kq l0 x3_1 x4_1 x7_4 x8_4 x9_4 = some r) ∧ Aside0 (kq ≤ kj11) ∧ Aside0 (Kd.R k30 30 w' w.heap.size (fun k_ => some k_ ≠ (v7 : Value).ownBlock) u3 x3_1) ∧ Aside0 (Kd.R k30 30 w' w.heap.size (fun k_ => some k_ ≠ (u3 : Value).ownBlock) v7 x7_4) ∧ Aside0 (Below w.heap.size w w'))
                    case atStart => exact ⟨(([] : List (S30))), (false), (0), (by first | rfl | (simp; done) | (simp [*]; done)), (by first | rfl | (simp; done) | (simp [*]; done)), H', ⟨Nat.le_refl _⟩, ⟨by (with_reducible repeat (first | apply Kd.R_alloc | apply Kd.R_drewN | apply Kd.R_drew)); exact Kd.R_mono HO_3.out (fun _ hk => (by simp [Value.ownBlock]))⟩, ⟨by first | exact Kd.R_nil _ _ _ _ _ | exact Kd.N_nil _ _ _ _ _ | exact Kd.V_nil _ _ _ _ _ | exact Kd.Q_nil _ _ _ _ _ | exact Kd.S_nil _ _ _ _ _⟩, ⟨by repeat (first | (with_reducible first | exact HB.out | apply below_alloc | apply pw_below_drewN | apply below_drew1) | exact HB.out)⟩⟩
                    case round =>
                      clear H'
                      try clear c1
                      try clear p1
                      try clear q1
                      try clear hx1
                      try clear c2
                      try clear c2b0
                      try clear p2
                      try clear c3
                      try clear c3b0
                      try clear c4
                      try clear c6
                      try clear c6b0
                      try clear p6
                      try clear c7
                      try clear c7b0
                      try clear c8
                      try clear c8b0
                      try clear c11
                      try clear c13
                      try clear p13
                      try clear q13
                      try clear hx13
                      try clear c14
                      try clear c14b0
                      try clear c15
                      try clear c15b0
                      try clear c16
                      try clear hx133_0
                      try clear hx133_1
                      try clear hx133_2
                      try clear hx133_3
                      try clear hx133_4
                      try clear hx134_0
                      try clear hx134_1
                      try clear hx134_2
                      try clear hx134_3
                      try clear hx134_4
                      try clear hx136_0
                      try clear hx136_1
                      try clear hx136_2
                      try clear hx136_3
                      try clear hx136_4
                      try clear p1
                      try clear p13
                      try clear p133
                      try clear p134
                      try clear p136
                      try clear p2
                      try clear p6
                      try clear q1
                      try clear q13
                      try clear q133
                      try clear q134
                      try clear q136
                      obtain ⟨x7_4, x8_4, x9_4, rfl, rfl, HA, HK4, HO_3, HO_7, HB⟩ := hrel
                      cases gk with
                      | zero => exact absurd HA.out (by simp [tidemillref15_Last.l2])
                      | succ k4 =>
                        have H := HA.out
                        clear HA
                        simp only [tidemillref15_Last.l2] at H
                        by_cases c17 : x9_4 < (x3_1.length : Int)
                        · rw [if_pos c17] at H
                          have c17b0 : decide (x9_4 < (x3_1.length : Int)) = true := decide_eq_true c17
                          clear c17
                          by_cases c18 : x8_4 = true
                          · subst c18
                            have H1 : (if 0 ≤ x9_4 then (if x7_4.length < 3518437208883 then (tidemillref15_Last.l2 k4 l0 x3_1 x4_1 (x7_4 ++ [(⟨(rd_T30 x3_1 x9_4).f0, (rd_T30 x3_1 x9_4).f1, (rd_T30 x3_1 x9_4).f2, (rd_T30 x3_1 x9_4).f3, (rd_T30 x3_1 x9_4).f4⟩ : S30)]) true (wrap64 (x9_4 + 1))) else (none)) else (none)) = some r := by rw [if_pos rfl] at H; exact H
                            clear H
                            have H := H1
                            clear H1
                            by_cases c19 : 0 ≤ x9_4
                            · rw [if_pos c19] at H
                              have c19b0 : decide (0 ≤ x9_4) = true := decide_eq_true c19
                              clear c19
                              by_cases c20 : x7_4.length < 3518437208883
                              · rw [if_pos c20] at H
                                have LMc20 := Aside0.mk c20
                                clear c20
                                obtain ⟨y138, hy138⟩ : ∃ y_ : List (S30), y_ = (x7_4 ++ [(⟨(rd_T30 x3_1 x9_4).f0, (rd_T30 x3_1 x9_4).f1, (rd_T30 x3_1 x9_4).f2, (rd_T30 x3_1 x9_4).f3, (rd_T30 x3_1 x9_4).f4⟩ : S30)]) := ⟨_, rfl⟩
                                replace H : (tidemillref15_Last.l2 k4 l0 x3_1 x4_1 y138 true (wrap64 (x9_4 + 1))) = some r := by first | (rw [hy138]; with_reducible exact H) | (have H2_ := (Option.bind_some _ _).symm.trans H; rw [hy138]; with_reducible exact H2_) | (have H2_ := (Option.bind_some _ _).symm.trans H; with_reducible exact H2_) | with_reducible exact H | (rw [hy138]; exact H) | exact H
                                have Ny138 := Aside0.mk hy138
                                clear hy138
                                have H' := Aside0.mk H
                                clear H
                                obtain ⟨Ao21, co21, eo21⟩ := Kd.R_slice HO_3.out
                                subst eo21
                                try go_wp2
                                have n0_ := Aside0.mk (Kd.R_drew HO_3.out)
                                have n1_ := Aside0.mk (Kd.R_drew HO_7.out)
                                have n2_ := Aside0.mk (below_drew1 HB.out)
                                clear HO_3
                                clear HO_7
                                clear HB
                                have HO_3 := n0_
                                have HO_7 := n1_
                                have HB := n2_
                                clear n0_ n1_ n2_
                                refine start_ (n := 13) (S := fun w' => True) (ds := []) #[false, false, false, false, false, false, false, false, false, false, false, false, false] (by kernel_rfl) rfl rfl trivial (fun hHeld => ?_); refine with_tabW tidemillref15_Last.tab16 tidemillref15_Last.bits16 (fun HT_ HW_ => ?_)
                                generalize wr.drew = w22 at HO_3 HO_7 HB hHeld ⊢
                                refine pure_ (i := 0) (N := some 50) (v := ?_) (a' := ?_) #[true, false, false, false, false, false, false, false, false, false, false, false, false] rfl rfl (any_of HT_.out (by kernel_rfl)) (fun _ _ _ h => h) (Or.inl ⟨by rfl, ?_⟩) ?_ ?_
                                rotate_left
                                · intro w'
                                  go_simp
                                  with_reducible rfl
                                rotate_left
                                · simp only [Act.put, List.setIfInBounds_toArray, List.set_cons_zero, List.set_cons_succ, i64_w, i32_w]
                                  rfl
                                refine pure_ (i := 1) (N := some 51) (v := ?_) (a' := ?_) #[true, true, false, false, false, false, false, false, false, false, false, false, false] rfl rfl (any_of HT_.out (by kernel_rfl)) (fun _ _ _ h => h) (Or.inl ⟨by rfl, ?_⟩) ?_ ?_
                                rotate_left
                                · intro w'
                                  go_simp
                                  with_reducible rfl
                                rotate_left
                                · simp only [Act.put, List.setIfInBounds_toArray, List.set_cons_zero, List.set_cons_succ, i64_w, i32_w]
                                  rfl
                                refine pure_ (i := 2) (N := some 52) (v := ?_) (a' := ?_) #[true, true, true, false, false, false, false, false, false, false, false, false, false] rfl rfl (any_of HT_.out (by kernel_rfl)) (fun _ _ _ h => h) (Or.inl ⟨by rfl, ?_⟩) ?_ ?_
                                rotate_left
                                · intro w'
                                  go_simp
                                  with_reducible rfl
                                rotate_left
                                · simp only [Act.put, List.setIfInBounds_toArray, List.set_cons_zero, List.set_cons_succ, i64_w, i32_w]
                                  rfl
                                refine pure_ (i := 3) (N := some 53) (v := undef) (a' := ?_) #[true, true, true, true, false, false, false, false, false, false, false, false, false] rfl rfl (any_of HT_.out (by kernel_rfl)) (fun _ _ _ h => h) (Or.inr ⟨by rfl, rfl⟩) ?_ ?_
                                rotate_left
                                · simp only [Act.put, List.setIfInBounds_toArray, List.set_cons_zero, List.set_cons_succ, i64_w, i32_w]
                                  rfl
                                refine pure_ (i := 4) (N := some 54) (v := undef) (a' := ?_) #[true, true, true, true, true, false, false, false, false, false, false, false, false] rfl rfl (any_of HT_.out (by kernel_rfl)) (fun _ _ _ h => h) (Or.inr ⟨by rfl, rfl⟩) ?_ ?_
                                rotate_left
                                · simp only [Act.put, List.setIfInBounds_toArray, List.set_cons_zero, List.set_cons_succ, i64_w, i32_w]
                                  rfl
                                refine pure_ (i := 5) (N := some 55) (v := undef) (a' := ?_) #[true, true, true, true, true, true, false, false, false, false, false, false, false] rfl rfl (any_of HT_.out (by kernel_rfl)) (fun _ _ _ h => h) (Or.inr ⟨by rfl, rfl⟩) ?_ ?_
                                rotate_left
                                · simp only [Act.put, List.setIfInBounds_toArray, List.set_cons_zero, List.set_cons_succ, i64_w, i32_w]
                                  rfl
                                refine pure_ (i := 6) (N := some 56) (v := undef) (a' := ?_) #[true, true, true, true, true, true, true, false, false, false, false, false, false] rfl rfl (any_of HT_.out (by kernel_rfl)) (fun _ _ _ h => h) (Or.inr ⟨by rfl, rfl⟩) ?_ ?_
                                rotate_left
                                · simp only [Act.put, List.setIfInBounds_toArray, List.set_cons_zero, List.set_cons_succ, i64_w, i32_w]
                                  rfl
                                refine pure_ (i := 7) (N := some 57) (v := undef) (a' := ?_) #[true, true, true, true, true, true, true, true, false, false, false, false, false] rfl rfl (any_of HT_.out (by kernel_rfl)) (fun _ _ _ h => h) (Or.inr ⟨by rfl, rfl⟩) ?_ ?_
                                rotate_left
                                · simp only [Act.put, List.setIfInBounds_toArray, List.set_cons_zero, List.set_cons_succ, i64_w, i32_w]
                                  rfl
                                refine pure_ (i := 8) (N := some 58) (v := undef) (a' := ?_) #[true, true, true, true, true, true, true, true, true, false, false, false, false] rfl rfl (any_of HT_.out (by kernel_rfl)) (fun _ _ _ h => h) (Or.inr ⟨by rfl, rfl⟩) ?_ ?_
                                rotate_left
                                · simp only [Act.put, List.setIfInBounds_toArray, List.set_cons_zero, List.set_cons_succ, i64_w, i32_w]
                                  rfl
                                refine pure_ (i := 9) (N := some 59) (v := undef) (a' := ?_) #[true, true, true, true, true, true, true, true, true, true, false, false, false] rfl rfl (any_of HT_.out (by kernel_rfl)) (fun _ _ _ h => h) (Or.inr ⟨by rfl, rfl⟩) ?_ ?_
                                rotate_left
                                · simp only [Act.put, List.setIfInBounds_toArray, List.set_cons_zero, List.set_cons_succ, i64_w, i32_w]
                                  rfl
                                refine pure_ (i := 10) (N := some 60) (v := undef) (a' := ?_) #[true, true, true, true, true, true, true, true, true, true, true, false, false] rfl rfl (any_of HT_.out (by kernel_rfl)) (fun _ _ _ h => h) (Or.inr ⟨by rfl, rfl⟩) ?_ ?_
                                rotate_left
                                · simp only [Act.put, List.setIfInBounds_toArray, List.set_cons_zero, List.set_cons_succ, i64_w, i32_w]
                                  rfl
                                refine pure_ (i := 11) (N := some 61) (v := undef) (a' := ?_) #[true, true, true, true, true, true, true, true, true, true, true, true, false] rfl rfl (any_of HT_.out (by kernel_rfl)) (fun _ _ _ h => h) (Or.inr ⟨by rfl, rfl⟩) ?_ ?_
                                rotate_left
                                · simp only [Act.put, List.setIfInBounds_toArray, List.set_cons_zero, List.set_cons_succ, i64_w, i32_w]
                                  rfl
                                refine pure_ (i := 12) (N := some 62) (v := ?_) (a' := ?_) #[true, true, true, true, true, true, true, true, true, true, true, true, true] rfl rfl (any_of HT_.out (by kernel_rfl)) (fun _ _ _ h => h) (Or.inl ⟨by rfl, ?_⟩) ?_ ?_
                                rotate_left
                                · intro w'
                                  go_simp
                                  with_reducible rfl
                                rotate_left
                                · simp only [Act.put, List.setIfInBounds_toArray, List.set_cons_zero, List.set_cons_succ, i64_w, i32_w]
                                  rfl
                                refine done_ (done_of HT_.out (by kernel_rfl)) ?_
                                have p137 : 0 ≤ (x9_4 : Int) := of_decide_eq_true (by first | (with_reducible assumption) | assumption)
                                have q137 : x9_4 < (x3_1.length : Int) := of_decide_eq_true (by first | (with_reducible assumption) | assumption)
                                obtain ⟨ad137, e137, hx137_0, hx137_1, hx137_2, hx137_3, hx137_4⟩ := at_T30 (Kd.R_reads' HO_3.out).2.2 x9_4 p137 q137
                                cases e137
                                replace p137 := eq_true p137
                                replace q137 := eq_true q137
                                try go_wp2_with (first | ((with_reducible refine gate_builtin (b := .append) (xs := #[.tmp 70, .tmp 75]) rfl ?_); at_builtin; refine Kd.R_append k30 (w0 := w) w.heap.size rfl (.tmp 70) (.tmp 75) 22 30 (.agg #[(.int .i64 0), (.int .i64 0), (.int .i64 0), (.int .i64 0), (.bool false)]) 40 rfl Try.underlying22 info30 rfl (by decide) (by omega) u7 x7_4 (⟨(rd_T30 x3_1 x9_4).f0, (rd_T30 x3_1 x9_4).f1, (rd_T30 x3_1 x9_4).f2, (rd_T30 x3_1 x9_4).f3, (rd_T30 x3_1 x9_4).f4⟩ : S30) [.int .i64 ((rd_T30 x3_1 x9_4).f0), .int .i64 ((rd_T30 x3_1 x9_4).f1), .int .i64 ((rd_T30 x3_1 x9_4).f2), .int .i64 ((rd_T30 x3_1 x9_4).f3), .bool ((rd_T30 x3_1 x9_4).f4)] (fun k_ => some k_ ≠ (.slice (some ad137) x3_1.length co21 : Value).ownBlock) (fun _ => False) rfl rfl ?aP (fun _ hk => hk.elim) ?aF ?aO ?aB ?aS ?aL ?_; (case aP => exact k30_mkM _ _ _ (⟨(rd_T30 x3_1 x9_4).f0, (rd_T30 x3_1 x9_4).f1, (rd_T30 x3_1 x9_4).f2, (rd_T30 x3_1 x9_4).f3, (rd_T30 x3_1 x9_4).f4⟩ : S30)); (case aB => exact (by repeat (first | (with_reducible first | exact HB.out | apply below_alloc | apply pw_below_drewN | apply below_drew1) | exact HB.out))); (case aF => exact (fun k_ hk => Kd.fresh' (Kd.R_lt (by (with_reducible repeat (first | apply Kd.R_alloc | apply Kd.R_drewN | apply Kd.R_drew)); exact HO_3.out)) k_ hk)); (case aO => exact (by (with_reducible repeat (first | apply Kd.R_alloc | apply Kd.R_drewN | apply Kd.R_drew)); exact HO_7.out)); (case aS => exact (below_size (by repeat (first | (with_reducible first | exact HB.out | apply below_alloc | apply pw_below_drewN | apply below_drew1) | exact HB.out)))); (case aL => have := LMc20.out; omega); intro v139 w23 ho hb hg hat; rw [← Ny138.out] at ho; have n0_ := Aside0.mk (Kd.R_after (ok := (fun _ => True)) (by (with_reducible repeat (first | apply Kd.R_alloc | apply Kd.R_drewN | apply Kd.R_drew)); exact Kd.R_mono HO_3.out (fun _ hk => ⟨trivial, hk⟩)) hg hat); have n1_ := Aside0.mk (hb); have n2_ := Aside0.mk (ho); clear HO_3; clear HB; clear HO_7; have HO_3 := n0_; have HB := n1_; have HO140 := n2_; clear n0_ n1_ n2_; clear ho hb hg hat))
                                go_roundg k4
                                case measure => have := HK1.out; have := HK2.out; have := HJ11.out; have := HK4.out; omega
                                case rel => exact ⟨(y138), (true), (wrap64 (x9_4 + 1)), (by first | rfl | (simp; done) | (simp [*]; done)), (by first | rfl | (simp; done) | (simp [*]; done)), H', ⟨by have := HK1.out; have := HK2.out; have := HJ11.out; have := HK4.out; omega⟩, ⟨by (with_reducible repeat (first | apply Kd.R_alloc | apply Kd.R_drewN | apply Kd.R_drew)); exact Kd.R_mono HO_3.out (fun _ hk => hk.2)⟩, ⟨by (with_reducible repeat (first | apply Kd.R_alloc | apply Kd.R_drewN | apply Kd.R_drew)); exact HO140.out⟩, ⟨by repeat (first | (with_reducible first | exact HB.out | apply below_alloc | apply pw_below_drewN | apply below_drew1) | exact HB.out)⟩⟩
                              · rw [if_neg c20] at H
                                exact absurd H (by simp)
                            · rw [if_neg c19] at H
                              exact absurd H (by simp)
                          · replace c18 := Bool.eq_false_iff.mpr c18
                            subst c18
                            have H1 : (if 0 ≤ x4_1 then (if x4_1 < (l0.length : Int) then (if 0 ≤ x9_4 then ((tidemillref15_ahead.f ((rd_T30 l0 x4_1).f0) ((rd_T30 l0 x4_1).f1) ((rd_T30 l0 x4_1).f2) ((rd_T30 l0 x4_1).f3) ((rd_T30 l0 x4_1).f4) ((rd_T30 x3_1 x9_4).f0) ((rd_T30 x3_1 x9_4).f1) ((rd_T30 x3_1 x9_4).f2) ((rd_T30 x3_1 x9_4).f3) ((rd_T30 x3_1 x9_4).f4)).bind fun t143 => (if t143 = true then (if x7_4.length < 3518437208883 then ((some (x7_4 ++ [(⟨(rd_T30 l0 x4_1).f0, (rd_T30 l0 x4_1).f1, (rd_T30 l0 x4_1).f2, (rd_T30 l0 x4_1).f3, (rd_T30 l0 x4_1).f4⟩ : S30)] : List (S30))).bind fun y145 => (if y145.length < 3518437208883 then (tidemillref15_Last.l2 k4 l0 x3_1 x4_1 (y145 ++ [(⟨(rd_T30 x3_1 x9_4).f0, (rd_T30 x3_1 x9_4).f1, (rd_T30 x3_1 x9_4).f2, (rd_T30 x3_1 x9_4).f3, (rd_T30 x3_1 x9_4).f4⟩ : S30)]) true (wrap64 (x9_4 + 1))) else (none))) else (none)) else (if x7_4.length < 3518437208883 then (tidemillref15_Last.l2 k4 l0 x3_1 x4_1 (x7_4 ++ [(⟨(rd_T30 x3_1 x9_4).f0, (rd_T30 x3_1 x9_4).f1, (rd_T30 x3_1 x9_4).f2, (rd_T30 x3_1 x9_4).f3, (rd_T30 x3_1 x9_4).f4⟩ : S30)]) false (wrap64 (x9_4 + 1))) else (none)))) else (none)) else (none)) else (none)) = some r := by rw [if_neg (show ¬ (false = true) by decide)] at H; exact H
                            clear H
                            have H := H1
                            clear H1
                            by_cases c24 : 0 ≤ x4_1
                            · rw [if_pos c24] at H
                              have c24b0 : decide (0 ≤ x4_1) = true := decide_eq_true c24
                              clear c24
                              by_cases c25 : x4_1 < (l0.length : Int)
                              · rw [if_pos c25] at H
                                have c25b0 : decide (x4_1 < (l0.length : Int)) = true := decide_eq_true c25
                                clear c25
                                by_cases c26 : 0 ≤ x9_4
                                · rw [if_pos c26] at H
                                  have c26b0 : decide (0 ≤ x9_4) = true := decide_eq_true c26
                                  clear c26
                                  replace H := Option.bind_eq_some_iff.mp H
                                  obtain ⟨t143, A270, H⟩ := H
                                  replace H : (if t143 = true then (if x7_4.length < 3518437208883 then ((some (x7_4 ++ [(⟨(rd_T30 l0 x4_1).f0, (rd_T30 l0 x4_1).f1, (rd_T30 l0 x4_1).f2, (rd_T30 l0 x4_1).f3, (rd_T30 l0 x4_1).f4⟩ : S30)] : List (S30))).bind fun y145 => (if y145.length < 3518437208883 then (tidemillref15_Last.l2 k4 l0 x3_1 x4_1 (y145 ++ [(⟨(rd_T30 x3_1 x9_4).f0, (rd_T30 x3_1 x9_4).f1, (rd_T30 x3_1 x9_4).f2, (rd_T30 x3_1 x9_4).f3, (rd_T30 x3_1 x9_4).f4⟩ : S30)]) true (wrap64 (x9_4 + 1))) else (none))) else (none)) else (if x7_4.length < 3518437208883 then (tidemillref15_Last.l2 k4 l0 x3_1 x4_1 (x7_4 ++ [(⟨(rd_T30 x3_1 x9_4).f0, (rd_T30 x3_1 x9_4).f1, (rd_T30 x3_1 x9_4).f2, (rd_T30 x3_1 x9_4).f3, (rd_T30 x3_1 x9_4).f4⟩ : S30)]) false (wrap64 (x9_4 + 1))) else (none))) = some r := H
                                  have A27 := Aside0.mk A270
                                  clear A270
                                  by_cases c28 : t143 = true
                                  · subst c28
                                    have H1 : (if x7_4.length < 3518437208883 then ((some (x7_4 ++ [(⟨(rd_T30 l0 x4_1).f0, (rd_T30 l0 x4_1).f1, (rd_T30 l0 x4_1).f2, (rd_T30 l0 x4_1).f3, (rd_T30 l0 x4_1).f4⟩ : S30)] : List (S30))).bind fun y145 => (if y145.length < 3518437208883 then (tidemillref15_Last.l2 k4 l0 x3_1 x4_1 (y145 ++ [(⟨(rd_T30 x3_1 x9_4).f0, (rd_T30 x3_1 x9_4).f1, (rd_T30 x3_1 x9_4).f2, (rd_T30 x3_1 x9_4).f3, (rd_T30 x3_1 x9_4).f4⟩ : S30)]) true (wrap64 (x9_4 + 1))) else (none))) else (none)) = some r := by rw [if_pos rfl] at H; exact H
                                    clear H
                                    have H := H1
                                    clear H1
                                    by_cases c29 : x7_4.length < 3518437208883
                                    · rw [if_pos c29] at H
                                      have LMc29 := Aside0.mk c29
                                      clear c29
                                      obtain ⟨y145, hy145⟩ : ∃ y_ : List (S30), y_ = (x7_4 ++ [(⟨(rd_T30 l0 x4_1).f0, (rd_T30 l0 x4_1).f1, (rd_T30 l0 x4_1).f2, (rd_T30 l0 x4_1).f3, (rd_T30 l0 x4_1).f4⟩ : S30)]) := ⟨_, rfl⟩
                                      replace H : (if y145.length < 3518437208883 then (tidemillref15_Last.l2 k4 l0 x3_1 x4_1 (y145 ++ [(⟨(rd_T30 x3_1 x9_4).f0, (rd_T30 x3_1 x9_4).f1, (rd_T30 x3_1 x9_4).f2, (rd_T30 x3_1 x9_4).f3, (rd_T30 x3_1 x9_4).f4⟩ : S30)]) true (wrap64 (x9_4 + 1))) else (none)) = some r := by first | (rw [hy145]; with_reducible exact H) | (have H2_ := (Option.bind_some _ _).symm.trans H; rw [hy145]; with_reducible exact H2_) | (have H2_ := (Option.bind_some _ _).symm.trans H; with_reducible exact H2_) | with_reducible exact H | (rw [hy145]; exact H) | exact H
                                      have Ny145 := Aside0.mk hy145
                                      clear hy145
                                      by_cases c30 : y145.length < 3518437208883
                                      · rw [if_pos c30] at H
                                        have LMc30 := Aside0.mk c30
                                        clear c30
                                        obtain ⟨y149, hy149⟩ : ∃ y_ : List (S30), y_ = (y145 ++ [(⟨(rd_T30 x3_1 x9_4).f0, (rd_T30 x3_1 x9_4).f1, (rd_T30 x3_1 x9_4).f2, (rd_T30 x3_1 x9_4).f3, (rd_T30 x3_1 x9_4).f4⟩ : S30)]) := ⟨_, rfl⟩
                                        replace H : (tidemillref15_Last.l2 k4 l0 x3_1 x4_1 y149 true (wrap64 (x9_4 + 1))) = some r := by first | (rw [hy149]; with_reducible exact H) | (have H2_ := (Option.bind_some _ _).symm.trans H; rw [hy149]; with_reducible exact H2_) | (have H2_ := (Option.bind_some _ _).symm.trans H; with_reducible exact H2_) | with_reducible exact H | (rw [hy149]; exact H) | exact H
                                        have Ny149 := Aside0.mk hy149
                                        clear hy149
                                        have H' := Aside0.mk H
                                        clear H
                                        obtain ⟨Ao31, co31, eo31⟩ := Kd.R_slice HO_3.out
                                        subst eo31
                                        try go_wp2
                                        have n0_ := Aside0.mk (Kd.R_drew HO_3.out)
                                        have n1_ := Aside0.mk (Kd.R_drew HO_7.out)
                                        have n2_ := Aside0.mk (below_drew1 HB.out)
                                        clear HO_3
                                        clear HO_7
                                        clear HB
                                        have HO_3 := n0_
                                        have HO_7 := n1_
                                        have HB := n2_
                                        clear n0_ n1_ n2_
                                        have p141 : 0 ≤ (x4_1 : Int) := of_decide_eq_true (by first | (with_reducible assumption) | assumption)
                                        have q141 : x4_1 < (l0.length : Int) := of_decide_eq_true (by first | (with_reducible assumption) | assumption)
                                        obtain ⟨ad141, e141, hx141_0, hx141_1, hx141_2, hx141_3, hx141_4⟩ := at_T30 HR0.out x4_1 p141 q141
                                        have hw141_4 := hx141_4
                                        have hw141_3 := hx141_3
                                        have hw141_2 := hx141_2
                                        have hw141_1 := hx141_1
                                        have hw141_0 := hx141_0
                                        cases e141
                                        replace hx141_0 := (HB.out.cell (World.block_lt_of_cell? w _ hx141_0)).trans hx141_0
                                        replace hx141_1 := (HB.out.cell (World.block_lt_of_cell? w _ hx141_1)).trans hx141_1
                                        replace hx141_2 := (HB.out.cell (World.block_lt_of_cell? w _ hx141_2)).trans hx141_2
                                        replace hx141_3 := (HB.out.cell (World.block_lt_of_cell? w _ hx141_3)).trans hx141_3
                                        replace hx141_4 := (HB.out.cell (World.block_lt_of_cell? w _ hx141_4)).trans hx141_4
                                        replace p141 := eq_true p141
                                        replace q141 := eq_true q141
                                        have p142 : 0 ≤ (x9_4 : Int) := of_decide_eq_true (by first | (with_reducible assumption) | assumption)
                                        have q142 : x9_4 < (x3_1.length : Int) := of_decide_eq_true (by first | (with_reducible assumption) | assumption)
                                        obtain ⟨ad142, e142, hx142_0, hx142_1, hx142_2, hx142_3, hx142_4⟩ := at_T30 (Kd.R_reads' HO_3.out).2.2 x9_4 p142 q142
                                        cases e142
                                        replace p142 := eq_true p142
                                        replace q142 := eq_true q142
                                        refine start_ (n := 13) (S := fun w' => w'.cell? (ad141.add ((x4_1).toNat * 5)) = some (.int .i64 ((rd_T30 l0 x4_1).f0)) ∧ w'.cell? ⟨(ad141.add ((x4_1).toNat * 5)).block, (ad141.add ((x4_1).toNat * 5)).off + 1, none⟩ = some (.int .i64 ((rd_T30 l0 x4_1).f1)) ∧ w'.cell? ⟨(ad141.add ((x4_1).toNat * 5)).block, (ad141.add ((x4_1).toNat * 5)).off + 2, none⟩ = some (.int .i64 ((rd_T30 l0 x4_1).f2)) ∧ w'.cell? ⟨(ad141.add ((x4_1).toNat * 5)).block, (ad141.add ((x4_1).toNat * 5)).off + 3, none⟩ = some (.int .i64 ((rd_T30 l0 x4_1).f3)) ∧ w'.cell? ⟨(ad141.add ((x4_1).toNat * 5)).block, (ad141.add ((x4_1).toNat * 5)).off + 4, none⟩ = some (.bool ((rd_T30 l0 x4_1).f4)) ∧ w'.cell? (ad142.add ((x9_4).toNat * 5)) = some (.int .i64 ((rd_T30 x3_1 x9_4).f0)) ∧ w'.cell? ⟨(ad142.add ((x9_4).toNat * 5)).block, (ad142.add ((x9_4).toNat * 5)).off + 1, none⟩ = some (.int .i64 ((rd_T30 x3_1 x9_4).f1)) ∧ w'.cell? ⟨(ad142.add ((x9_4).toNat * 5)).block, (ad142.add ((x9_4).toNat * 5)).off + 2, none⟩ = some (.int .i64 ((rd_T30 x3_1 x9_4).f2)) ∧ w'.cell? ⟨(ad142.add ((x9_4).toNat * 5)).block, (ad142.add ((x9_4).toNat * 5)).off + 3, none⟩ = some (.int .i64 ((rd_T30 x3_1 x9_4).f3)) ∧ w'.cell? ⟨(ad142.add ((x9_4).toNat * 5)).block, (ad142.add ((x9_4).toNat * 5)).off + 4, none⟩ = some (.bool ((rd_T30 x3_1 x9_4).f4))) (ds := []) #[false, false, false, false, false, false, false, false, false, false, false, false, false] (by kernel_rfl) rfl rfl ⟨((HB.out.cell (World.block_lt_of_cell? w _ hw141_0)).trans hw141_0), ((HB.out.cell (World.block_lt_of_cell? w _ hw141_1)).trans hw141_1), ((HB.out.cell (World.block_lt_of_cell? w _ hw141_2)).trans hw141_2), ((HB.out.cell (World.block_lt_of_cell? w _ hw141_3)).trans hw141_3), ((HB.out.cell (World.block_lt_of_cell? w _ hw141_4)).trans hw141_4), hx142_0, hx142_1, hx142_2, hx142_3, hx142_4⟩ (fun hHeld => ?_); refine with_tabW tidemillref15_Last.tab16 tidemillref15_Last.bits16 (fun HT_ HW_ => ?_)
                                        generalize wr.drew = w32 at HO_3 HO_7 HB hx141_0 hx141_1 hx141_2 hx141_3 hx141_4 hx142_0 hx142_1 hx142_2 hx142_3 hx142_4 hHeld ⊢
                                        refine pure_ (i := 0) (N := some 50) (v := ?_) (a' := ?_) #[true, false, false, false, false, false, false, false, false, false, false, false, false] rfl rfl (any_of HT_.out (by kernel_rfl)) (fun _ _ _ h => h) (Or.inl ⟨by rfl, ?_⟩) ?_ ?_
                                        rotate_left
                                        · intro w'
                                          go_simp
                                          with_reducible rfl
                                        rotate_left
                                        · simp only [Act.put, List.setIfInBounds_toArray, List.set_cons_zero, List.set_cons_succ, i64_w, i32_w]
                                          rfl
                                        refine pure_ (i := 1) (N := some 51) (v := ?_) (a' := ?_) #[true, true, false, false, false, false, false, false, false, false, false, false, false] rfl rfl (any_of HT_.out (by kernel_rfl)) (fun _ _ _ h => h) (Or.inl ⟨by rfl, ?_⟩) ?_ ?_
                                        rotate_left
                                        · intro w'
                                          go_simp
                                          with_reducible rfl
                                        rotate_left
                                        · simp only [Act.put, List.setIfInBounds_toArray, List.set_cons_zero, List.set_cons_succ, i64_w, i32_w]
                                          rfl
                                        refine pure_ (i := 2) (N := some 52) (v := ?_) (a' := ?_) #[true, true, true, false, false, false, false, false, false, false, false, false, false] rfl rfl (any_of HT_.out (by kernel_rfl)) (fun _ _ _ h => h) (Or.inl ⟨by rfl, ?_⟩) ?_ ?_
                                        rotate_left
                                        · intro w'
                                          go_simp
                                          with_reducible rfl
                                        rotate_left
                                        · simp only [Act.put, List.setIfInBounds_toArray, List.set_cons_zero, List.set_cons_succ, i64_w, i32_w]
                                          rfl
                                        refine pure_ (i := 3) (N := some 53) (v := ?_) (a' := ?_) #[true, true, true, true, false, false, false, false, false, false, false, false, false] rfl rfl (any_of HT_.out (by kernel_rfl)) (fun _ _ _ h => h) (Or.inl ⟨by rfl, ?_⟩) ?_ ?_
                                        rotate_left
                                        · intro w'
                                          go_simp
                                          with_reducible rfl
                                        rotate_left
                                        · simp only [Act.put, List.setIfInBounds_toArray, List.set_cons_zero, List.set_cons_succ, i64_w, i32_w]
                                          rfl
                                        refine pure_ (i := 4) (N := some 54) (v := ?_) (a' := ?_) #[true, true, true, true, true, false, false, false, false, false, false, false, false] rfl rfl (any_of HT_.out (by kernel_rfl)) (fun _ _ _ h => h) (Or.inl ⟨by rfl, ?_⟩) ?_ ?_
                                        rotate_left
                                        · intro w'
                                          go_simp
                                          with_reducible rfl
                                        rotate_left
                                        · simp only [Act.put, List.setIfInBounds_toArray, List.set_cons_zero, List.set_cons_succ, i64_w, i32_w]
                                          rfl
                                        refine pure_ (i := 5) (N := some 55) (v := ?_) (a' := ?_) #[true, true, true, true, true, true, false, false, false, false, false, false, false] rfl rfl (any_of HT_.out (by kernel_rfl)) (fun _ _ _ h => h) (Or.inl ⟨by rfl, ?_⟩) ?_ ?_
                                        rotate_left
                                        · intro w'
                                          go_simp
                                          with_reducible rfl
                                        rotate_left
                                        · simp only [Act.put, List.setIfInBounds_toArray, List.set_cons_zero, List.set_cons_succ, i64_w, i32_w]
                                          rfl
                                        refine pure_ (i := 7) (N := some 57) (v := ?_) (a' := ?_) #[true, true, true, true, true, true, false, true, false, false, false, false, false] rfl rfl (any_of HT_.out (by kernel_rfl)) (fun _ _ _ h => h) (Or.inl ⟨by rfl, ?_⟩) ?_ ?_
                                        rotate_left
                                        · intro w'
                                          go_simp
                                          with_reducible rfl
                                        rotate_left
                                        · simp only [Act.put, List.setIfInBounds_toArray, List.set_cons_zero, List.set_cons_succ, i64_w, i32_w]
                                          rfl
                                        refine pure_ (i := 8) (N := some 58) (v := ?_) (a' := ?_) #[true, true, true, true, true, true, false, true, true, false, false, false, false] rfl rfl (any_of HT_.out (by kernel_rfl)) (fun _ _ _ h => h) (Or.inl ⟨by rfl, ?_⟩) ?_ ?_
                                        rotate_left
                                        · intro w'
                                          go_simp
                                          with_reducible rfl
                                        rotate_left
                                        · simp only [Act.put, List.setIfInBounds_toArray, List.set_cons_zero, List.set_cons_succ, i64_w, i32_w]
                                          rfl
                                        refine pure_ (i := 9) (N := some 59) (v := ?_) (a' := ?_) #[true, true, true, true, true, true, false, true, true, true, false, false, false] rfl rfl (any_of HT_.out (by kernel_rfl)) (fun _ _ _ h => h) (Or.inl ⟨by rfl, ?_⟩) ?_ ?_
                                        rotate_left
                                        · intro w'
                                          go_simp
                                          with_reducible rfl
                                        rotate_left
                                        · simp only [Act.put, List.setIfInBounds_toArray, List.set_cons_zero, List.set_cons_succ, i64_w, i32_w]
                                          rfl
                                        refine take_ (i := 6) (N := some 56) (v := ?_) (a' := ?_) #[true, true, true, true, true, true, true, true, true, true, false, false, false] rfl rfl (take_ofW HT_.out HW_.out (by kernel_rfl)) (fun _ _ _ h => h) (Or.inl ⟨by rfl, ?_⟩) hHeld ?_ ?_
                                        rotate_left
                                        · rintro w' ⟨s0, s1, s2, s3, s4, s5, s6, s7, s8, s9⟩
                                          go_simp
                                          with_reducible rfl
                                        rotate_left
                                        · simp only [Act.put, List.setIfInBounds_toArray, List.set_cons_zero, List.set_cons_succ, i64_w, i32_w]
                                          rfl
                                        refine take_ (i := 10) (N := some 60) (v := ?_) (a' := ?_) #[true, true, true, true, true, true, true, true, true, true, true, false, false] rfl rfl (take_ofW HT_.out HW_.out (by kernel_rfl)) (fun _ _ _ h => h) (Or.inl ⟨by rfl, ?_⟩) hHeld ?_ ?_
                                        rotate_left
                                        · rintro w' ⟨s0, s1, s2, s3, s4, s5, s6, s7, s8, s9⟩
                                          go_simp
                                          with_reducible rfl
                                        rotate_left
                                        · simp only [Act.put, List.setIfInBounds_toArray, List.set_cons_zero, List.set_cons_succ, i64_w, i32_w]
                                          rfl
                                        refine one_ (i := 11) (N := some 61) #[true, true, true, true, true, true, true, true, true, true, true, true, false] rfl rfl (one_of HT_.out (by kernel_rfl)) (by decide) (fun K hK => ?_)
                                        refine goes_ Try.func33 (by kernel_rfl) rfl #[.agg #[.int .i64 ((rd_T30 l0 x4_1).f0), .int .i64 ((rd_T30 l0 x4_1).f1), .int .i64 ((rd_T30 l0 x4_1).f2), .int .i64 ((rd_T30 l0 x4_1).f3), .bool ((rd_T30 l0 x4_1).f4)], .agg #[.int .i64 ((rd_T30 x3_1 x9_4).f0), .int .i64 ((rd_T30 x3_1 x9_4).f1), .int .i64 ((rd_T30 x3_1 x9_4).f2), .int .i64 ((rd_T30 x3_1 x9_4).f3), .bool ((rd_T30 x3_1 x9_4).f4)]] (by rfl) rfl rfl (by (try simp only [List.map_toArray, List.map_cons, List.map_nil]); first | done | rfl | (simp only [List.length_drop, List.length_take]; rfl)) ?_
                                        with_reducible refine (tidemillref15_ahead.calls ((rd_T30 l0 x4_1).f0) ((rd_T30 l0 x4_1).f1) ((rd_T30 l0 x4_1).f2) ((rd_T30 l0 x4_1).f3) ((rd_T30 l0 x4_1).f4) ((rd_T30 x3_1 x9_4).f0) ((rd_T30 x3_1 x9_4).f1) ((rd_T30 x3_1 x9_4).f2) ((rd_T30 x3_1 x9_4).f3) ((rd_T30 x3_1 x9_4).f4) true _ A27.out).mono ?_
                                        rintro e w33 ⟨rfl, hb⟩
                                        have HS5_ := (hb.cell (World.block_lt_of_cell? _ _ (hHeld.2.2.2.2.2.1))).trans (hHeld.2.2.2.2.2.1)
                                        have HS6_ := (hb.cell (World.block_lt_of_cell? _ _ (hHeld.2.2.2.2.2.2.1))).trans (hHeld.2.2.2.2.2.2.1)
                                        have HS7_ := (hb.cell (World.block_lt_of_cell? _ _ (hHeld.2.2.2.2.2.2.2.1))).trans (hHeld.2.2.2.2.2.2.2.1)
                                        have HS8_ := (hb.cell (World.block_lt_of_cell? _ _ (hHeld.2.2.2.2.2.2.2.2.1))).trans (hHeld.2.2.2.2.2.2.2.2.1)
                                        have HS9_ := (hb.cell (World.block_lt_of_cell? _ _ (hHeld.2.2.2.2.2.2.2.2.2))).trans (hHeld.2.2.2.2.2.2.2.2.2)
                                        refine ⟨_, rfl, ?_⟩
                                        have n0_ := Aside0.mk (Kd.R_below (by (with_reducible repeat (first | apply Kd.R_alloc | apply Kd.R_drewN | apply Kd.R_drew)); exact HO_3.out) hb)
                                        have n1_ := Aside0.mk (Kd.R_below (by (with_reducible repeat (first | apply Kd.R_alloc | apply Kd.R_drewN | apply Kd.R_drew)); exact HO_7.out) hb)
                                        have n2_ := Aside0.mk (below_step (by repeat (first | (with_reducible first | exact HB.out | apply below_alloc | apply pw_below_drewN | apply below_drew1) | exact HB.out)) hb)
                                        clear HO_3
                                        clear HO_7
                                        clear HB
                                        have HO_3 := n0_
                                        have HO_7 := n1_
                                        have HB := n2_
                                        clear n0_ n1_ n2_
                                        (try clear hb)
                                        (try clear hb2)
                                        (try clear hk)
                                        (try clear hi)
                                        refine hK.out _ _ ⟨((HB.out.cell (World.block_lt_of_cell? w _ hw141_0)).trans hw141_0), ((HB.out.cell (World.block_lt_of_cell? w _ hw141_1)).trans hw141_1), ((HB.out.cell (World.block_lt_of_cell? w _ hw141_2)).trans hw141_2), ((HB.out.cell (World.block_lt_of_cell? w _ hw141_3)).trans hw141_3), ((HB.out.cell (World.block_lt_of_cell? w _ hw141_4)).trans hw141_4), HS5_, HS6_, HS7_, HS8_, HS9_⟩ (fun hHeld => ?_)
                                        clear hK K
                                        refine norm_ (a' := ?_) ?_ ?_
                                        rotate_left
                                        · show Act.put _ (some 61) _ = _
                                          simp only [Act.put, List.setIfInBounds_toArray, List.set_cons_zero, List.set_cons_succ, i64_w, i32_w]
                                          rfl
                                        refine pure_ (i := 12) (N := some 62) (v := ?_) (a' := ?_) #[true, true, true, true, true, true, true, true, true, true, true, true, true] rfl rfl (any_of HT_.out (by kernel_rfl)) (fun _ _ _ h => h) (Or.inl ⟨by rfl, ?_⟩) ?_ ?_
                                        rotate_left
                                        · intro w'
                                          go_simp
                                          with_reducible rfl
                                        rotate_left
                                        · simp only [Act.put, List.setIfInBounds_toArray, List.set_cons_zero, List.set_cons_succ, i64_w, i32_w]
                                          rfl
                                        refine done_ (done_of HT_.out (by kernel_rfl)) ?_
                                        have p144 : 0 ≤ (x4_1 : Int) := of_decide_eq_true (by first | (with_reducible assumption) | assumption)
                                        have q144 : x4_1 < (l0.length : Int) := of_decide_eq_true (by first | (with_reducible assumption) | assumption)
                                        obtain ⟨ad144, e144, hx144_0, hx144_1, hx144_2, hx144_3, hx144_4⟩ := at_T30 HR0.out x4_1 p144 q144
                                        obtain rfl : ad141 = ad144 := (by injection e144)
                                        replace hx144_0 := (HB.out.cell (World.block_lt_of_cell? w _ hx144_0)).trans hx144_0
                                        replace hx144_1 := (HB.out.cell (World.block_lt_of_cell? w _ hx144_1)).trans hx144_1
                                        replace hx144_2 := (HB.out.cell (World.block_lt_of_cell? w _ hx144_2)).trans hx144_2
                                        replace hx144_3 := (HB.out.cell (World.block_lt_of_cell? w _ hx144_3)).trans hx144_3
                                        replace hx144_4 := (HB.out.cell (World.block_lt_of_cell? w _ hx144_4)).trans hx144_4
                                        replace p144 := eq_true p144
                                        replace q144 := eq_true q144
                                        try go_wp2_with (first | ((with_reducible refine gate_builtin (b := .append) (xs := #[.tmp 63, .tmp 68]) rfl ?_); at_builtin; refine Kd.R_append k30 (w0 := w) w.heap.size rfl (.tmp 63) (.tmp 68) 22 30 (.agg #[(.int .i64 0), (.int .i64 0), (.int .i64 0), (.int .i64 0), (.bool false)]) 40 rfl Try.underlying22 info30 rfl (by decide) (by omega) u7 x7_4 (⟨(rd_T30 l0 x4_1).f0, (rd_T30 l0 x4_1).f1, (rd_T30 l0 x4_1).f2, (rd_T30 l0 x4_1).f3, (rd_T30 l0 x4_1).f4⟩ : S30) [.int .i64 ((rd_T30 l0 x4_1).f0), .int .i64 ((rd_T30 l0 x4_1).f1), .int .i64 ((rd_T30 l0 x4_1).f2), .int .i64 ((rd_T30 l0 x4_1).f3), .bool ((rd_T30 l0 x4_1).f4)] (fun k_ => some k_ ≠ (.slice (some ad142) x3_1.length co31 : Value).ownBlock) (fun _ => False) rfl rfl ?aP (fun _ hk => hk.elim) ?aF ?aO ?aB ?aS ?aL ?_; (case aP => exact k30_mkM _ _ _ (⟨(rd_T30 l0 x4_1).f0, (rd_T30 l0 x4_1).f1, (rd_T30 l0 x4_1).f2, (rd_T30 l0 x4_1).f3, (rd_T30 l0 x4_1).f4⟩ : S30)); (case aB => exact (by repeat (first | (with_reducible first | exact HB.out | apply below_alloc | apply pw_below_drewN | apply below_drew1) | exact HB.out))); (case aF => exact (fun k_ hk => Kd.fresh' (Kd.R_lt (by (with_reducible repeat (first | apply Kd.R_alloc | apply Kd.R_drewN | apply Kd.R_drew)); exact HO_3.out)) k_ hk)); (case aO => exact (by (with_reducible repeat (first | apply Kd.R_alloc | apply Kd.R_drewN | apply Kd.R_drew)); exact HO_7.out)); (case aS => exact (below_size (by repeat (first | (with_reducible first | exact HB.out | apply below_alloc | apply pw_below_drewN | apply below_drew1) | exact HB.out)))); (case aL => have := LMc29.out; omega); intro v146 w34 ho hb hg hat; rw [← Ny145.out] at ho; have n0_ := Aside0.mk (Kd.R_after (ok := (fun _ => True)) (by (with_reducible repeat (first | apply Kd.R_alloc | apply Kd.R_drewN | apply Kd.R_drew)); exact Kd.R_mono HO_3.out (fun _ hk => ⟨trivial, hk⟩)) hg hat); have n1_ := Aside0.mk (hb); have n2_ := Aside0.mk (ho); clear HO_3; clear HB; clear HO_7; have HO_3 := n0_; have HB := n1_; have HO147 := n2_; clear n0_ n1_ n2_; clear ho hb hg hat; have p148 : 0 ≤ (x9_4 : Int) := of_decide_eq_true (by first | (with_reducible assumption) | assumption); have q148 : x9_4 < (x3_1.length : Int) := of_decide_eq_true (by first | (with_reducible assumption) | assumption); obtain ⟨ad148, e148, hx148_0, hx148_1, hx148_2, hx148_3, hx148_4⟩ := at_T30 (Kd.R_reads' HO_3.out).2.2 x9_4 p148 q148; obtain rfl : ad142 = ad148 := (by injection e148); replace p148 := eq_true p148; replace q148 := eq_true q148) | ((with_reducible refine gate_builtin (b := .append) (xs := #[.tmp 70, .tmp 75]) rfl ?_); at_builtin; refine Kd.R_append k30 (w0 := w) w.heap.size rfl (.tmp 70) (.tmp 75) 22 30 (.agg #[(.int .i64 0), (.int .i64 0), (.int .i64 0), (.int .i64 0), (.bool false)]) 40 rfl Try.underlying22 info30 rfl (by decide) (by omega) v146 y145 (⟨(rd_T30 x3_1 x9_4).f0, (rd_T30 x3_1 x9_4).f1, (rd_T30 x3_1 x9_4).f2, (rd_T30 x3_1 x9_4).f3, (rd_T30 x3_1 x9_4).f4⟩ : S30) [.int .i64 ((rd_T30 x3_1 x9_4).f0), .int .i64 ((rd_T30 x3_1 x9_4).f1), .int .i64 ((rd_T30 x3_1 x9_4).f2), .int .i64 ((rd_T30 x3_1 x9_4).f3), .bool ((rd_T30 x3_1 x9_4).f4)] (fun k_ => some k_ ≠ (.slice (some ad142) x3_1.length co31 : Value).ownBlock) (fun _ => False) rfl rfl ?aP (fun _ hk => hk.elim) ?aF ?aO ?aB ?aS ?aL ?_; (case aP => exact k30_mkM _ _ _ (⟨(rd_T30 x3_1 x9_4).f0, (rd_T30 x3_1 x9_4).f1, (rd_T30 x3_1 x9_4).f2, (rd_T30 x3_1 x9_4).f3, (rd_T30 x3_1 x9_4).f4⟩ : S30)); (case aB => exact (by repeat (first | (with_reducible first | exact HB.out | apply below_alloc | apply pw_below_drewN | apply below_drew1) | exact HB.out))); (case aF => exact (fun k_ hk => Kd.fresh' (Kd.R_lt (by (with_reducible repeat (first | apply Kd.R_alloc | apply Kd.R_drewN | apply Kd.R_drew)); exact HO_3.out)) k_ hk)); (case aO => exact (by (with_reducible repeat (first | apply Kd.R_alloc | apply Kd.R_drewN | apply Kd.R_drew)); exact HO147.out)); (case aS => exact (below_size (by repeat (first | (with_reducible first | exact HB.out | apply below_alloc | apply pw_below_drewN | apply below_drew1) | exact HB.out)))); (case aL => have := LMc30.out; omega); intro v150 w35 ho hb hg hat; rw [← Ny149.out] at ho; have n0_ := Aside0.mk (Kd.R_after (ok := (fun _ => True)) (by (with_reducible repeat (first | apply Kd.R_alloc | apply Kd.R_drewN | apply Kd.R_drew)); exact HO_3.out) hg hat); have n1_ := Aside0.mk (hb); have n2_ := Aside0.mk (ho); clear HO_3; clear HB; clear HO147; have HO_3 := n0_; have HB := n1_; have HO151 := n2_; clear n0_ n1_ n2_; clear ho hb hg hat))
                                        go_roundg k4
                                        case measure => have := HK1.out; have := HK2.out; have := HJ11.out; have := HK4.out; omega
                                        case rel => exact ⟨(y149), (true), (wrap64 (x9_4 + 1)), (by first | rfl | (simp; done) | (simp [*]; done)), (by first | rfl | (simp; done) | (simp [*]; done)), H', ⟨by have := HK1.out; have := HK2.out; have := HJ11.out; have := HK4.out; omega⟩, ⟨by (with_reducible repeat (first | apply Kd.R_alloc | apply Kd.R_drewN | apply Kd.R_drew)); exact Kd.R_mono HO_3.out (fun _ hk => hk.2)⟩, ⟨by (with_reducible repeat (first | apply Kd.R_alloc | apply Kd.R_drewN | apply Kd.R_drew)); exact HO151.out⟩, ⟨by repeat (first | (with_reducible first | exact HB.out | apply below_alloc | apply pw_below_drewN | apply below_drew1) | exact HB.out)⟩⟩
                                      · rw [if_neg c30] at H
                                        exact absurd H (by simp)
                                    · rw [if_neg c29] at H
                                      exact absurd H (by simp)
                                  · replace c28 := Bool.eq_false_iff.mpr c28
                                    subst c28
                                    have H1 : (if x7_4.length < 3518437208883 then (tidemillref15_Last.l2 k4 l0 x3_1 x4_1 (x7_4 ++ [(⟨(rd_T30 x3_1 x9_4).f0, (rd_T30 x3_1 x9_4).f1, (rd_T30 x3_1 x9_4).f2, (rd_T30 x3_1 x9_4).f3, (rd_T30 x3_1 x9_4).f4⟩ : S30)]) false (wrap64 (x9_4 + 1))) else (none)) = some r := by rw [if_neg (show ¬ (false = true) by decide)] at H; exact H
                                    clear H
                                    have H := H1
                                    clear H1
                                    by_cases c36 : x7_4.length < 3518437208883
                                    · rw [if_pos c36] at H
                                      have LMc36 := Aside0.mk c36
                                      clear c36
                                      obtain ⟨y153, hy153⟩ : ∃ y_ : List (S30), y_ = (x7_4 ++ [(⟨(rd_T30 x3_1 x9_4).f0, (rd_T30 x3_1 x9_4).f1, (rd_T30 x3_1 x9_4).f2, (rd_T30 x3_1 x9_4).f3, (rd_T30 x3_1 x9_4).f4⟩ : S30)]) := ⟨_, rfl⟩
                                      replace H : (tidemillref15_Last.l2 k4 l0 x3_1 x4_1 y153 false (wrap64 (x9_4 + 1))) = some r := by first | (rw [hy153]; with_reducible exact H) | (have H2_ := (Option.bind_some _ _).symm.trans H; rw [hy153]; with_reducible exact H2_) | (have H2_ := (Option.bind_some _ _).symm.trans H; with_reducible exact H2_) | with_reducible exact H | (rw [hy153]; exact H) | exact H
                                      have Ny153 := Aside0.mk hy153
                                      clear hy153
                                      have H' := Aside0.mk H
                                      clear H
                                      obtain ⟨Ao37, co37, eo37⟩ := Kd.R_slice HO_3.out
                                      subst eo37
                                      try go_wp2
                                      have n0_ := Aside0.mk (Kd.R_drew HO_3.out)
                                      have n1_ := Aside0.mk (Kd.R_drew HO_7.out)
                                      have n2_ := Aside0.mk (below_drew1 HB.out)
                                      clear HO_3
                                      clear HO_7
                                      clear HB
                                      have HO_3 := n0_
                                      have HO_7 := n1_
                                      have HB := n2_
                                      clear n0_ n1_ n2_
                                      have p141 : 0 ≤ (x4_1 : Int) := of_decide_eq_true (by first | (with_reducible assumption) | assumption)
                                      have q141 : x4_1 < (l0.length : Int) := of_decide_eq_true (by first | (with_reducible assumption) | assumption)
                                      obtain ⟨ad141, e141, hx141_0, hx141_1, hx141_2, hx141_3, hx141_4⟩ := at_T30 HR0.out x4_1 p141 q141
                                      have hw141_4 := hx141_4
                                      have hw141_3 := hx141_3
                                      have hw141_2 := hx141_2
                                      have hw141_1 := hx141_1
                                      have hw141_0 := hx141_0
                                      cases e141
                                      replace hx141_0 := (HB.out.cell (World.block_lt_of_cell? w _ hx141_0)).trans hx141_0
                                      replace hx141_1 := (HB.out.cell (World.block_lt_of_cell? w _ hx141_1)).trans hx141_1
                                      replace hx141_2 := (HB.out.cell (World.block_lt_of_cell? w _ hx141_2)).trans hx141_2
                                      replace hx141_3 := (HB.out.cell (World.block_lt_of_cell? w _ hx141_3)).trans hx141_3
                                      replace hx141_4 := (HB.out.cell (World.block_lt_of_cell? w _ hx141_4)).trans hx141_4
                                      replace p141 := eq_true p141
                                      replace q141 := eq_true q141
                                      have p142 : 0 ≤ (x9_4 : Int) := of_decide_eq_true (by first | (with_reducible assumption) | assumption)
                                      have q142 : x9_4 < (x3_1.length : Int) := of_decide_eq_true (by first | (with_reducible assumption) | assumption)
                                      obtain ⟨ad142, e142, hx142_0, hx142_1, hx142_2, hx142_3, hx142_4⟩ := at_T30 (Kd.R_reads' HO_3.out).2.2 x9_4 p142 q142
                                      cases e142
                                      replace p142 := eq_true p142
                                      replace q142 := eq_true q142
                                      refine start_ (n := 13) (S := fun w' => w'.cell? (ad141.add ((x4_1).toNat * 5)) = some (.int .i64 ((rd_T30 l0 x4_1).f0)) ∧ w'.cell? ⟨(ad141.add ((x4_1).toNat * 5)).block, (ad141.add ((x4_1).toNat * 5)).off + 1, none⟩ = some (.int .i64 ((rd_T30 l0 x4_1).f1)) ∧ w'.cell? ⟨(ad141.add ((x4_1).toNat * 5)).block, (ad141.add ((x4_1).toNat * 5)).off + 2, none⟩ = some (.int .i64 ((rd_T30 l0 x4_1).f2)) ∧ w'.cell? ⟨(ad141.add ((x4_1).toNat * 5)).block, (ad141.add ((x4_1).toNat * 5)).off + 3, none⟩ = some (.int .i64 ((rd_T30 l0 x4_1).f3)) ∧ w'.cell? ⟨(ad141.add ((x4_1).toNat * 5)).block, (ad141.add ((x4_1).toNat * 5)).off + 4, none⟩ = some (.bool ((rd_T30 l0 x4_1).f4)) ∧ w'.cell? (ad142.add ((x9_4).toNat * 5)) = some (.int .i64 ((rd_T30 x3_1 x9_4).f0)) ∧ w'.cell? ⟨(ad142.add ((x9_4).toNat * 5)).block, (ad142.add ((x9_4).toNat * 5)).off + 1, none⟩ = some (.int .i64 ((rd_T30 x3_1 x9_4).f1)) ∧ w'.cell? ⟨(ad142.add ((x9_4).toNat * 5)).block, (ad142.add ((x9_4).toNat * 5)).off + 2, none⟩ = some (.int .i64 ((rd_T30 x3_1 x9_4).f2)) ∧ w'.cell? ⟨(ad142.add ((x9_4).toNat * 5)).block, (ad142.add ((x9_4).toNat * 5)).off + 3, none⟩ = some (.int .i64 ((rd_T30 x3_1 x9_4).f3)) ∧ w'.cell? ⟨(ad142.add ((x9_4).toNat * 5)).block, (ad142.add ((x9_4).toNat * 5)).off + 4, none⟩ = some (.bool ((rd_T30 x3_1 x9_4).f4))) (ds := []) #[false, false, false, false, false, false, false, false, false, false, false, false, false] (by kernel_rfl) rfl rfl ⟨((HB.out.cell (World.block_lt_of_cell? w _ hw141_0)).trans hw141_0), ((HB.out.cell (World.block_lt_of_cell? w _ hw141_1)).trans hw141_1), ((HB.out.cell (World.block_lt_of_cell? w _ hw141_2)).trans hw141_2), ((HB.out.cell (World.block_lt_of_cell? w _ hw141_3)).trans hw141_3), ((HB.out.cell (World.block_lt_of_cell? w _ hw141_4)).trans hw141_4), hx142_0, hx142_1, hx142_2, hx142_3, hx142_4⟩ (fun hHeld => ?_); refine with_tabW tidemillref15_Last.tab16 tidemillref15_Last.bits16 (fun HT_ HW_ => ?_)
                                      generalize wr.drew = w38 at HO_3 HO_7 HB hx141_0 hx141_1 hx141_2 hx141_3 hx141_4 hx142_0 hx142_1 hx142_2 hx142_3 hx142_4 hHeld ⊢
                                      refine pure_ (i := 0) (N := some 50) (v := ?_) (a' := ?_) #[true, false, false, false, false, false, false, false, false, false, false, false, false] rfl rfl (any_of HT_.out (by kernel_rfl)) (fun _ _ _ h => h) (Or.inl ⟨by rfl, ?_⟩) ?_ ?_
                                      rotate_left
                                      · intro w'
                                        go_simp
                                        with_reducible rfl
                                      rotate_left
                                      · simp only [Act.put, List.setIfInBounds_toArray, List.set_cons_zero, List.set_cons_succ, i64_w, i32_w]
                                        rfl
                                      refine pure_ (i := 1) (N := some 51) (v := ?_) (a' := ?_) #[true, true, false, false, false, false, false, false, false, false, false, false, false] rfl rfl (any_of HT_.out (by kernel_rfl)) (fun _ _ _ h => h) (Or.inl ⟨by rfl, ?_⟩) ?_ ?_
                                      rotate_left
                                      · intro w'
                                        go_simp
                                        with_reducible rfl
                                      rotate_left
                                      · simp only [Act.put, List.setIfInBounds_toArray, List.set_cons_zero, List.set_cons_succ, i64_w, i32_w]
                                        rfl
                                      refine pure_ (i := 2) (N := some 52) (v := ?_) (a' := ?_) #[true, true, true, false, false, false, false, false, false, false, false, false, false] rfl rfl (any_of HT_.out (by kernel_rfl)) (fun _ _ _ h => h) (Or.inl ⟨by rfl, ?_⟩) ?_ ?_
                                      rotate_left
                                      · intro w'
                                        go_simp
                                        with_reducible rfl
                                      rotate_left
                                      · simp only [Act.put, List.setIfInBounds_toArray, List.set_cons_zero, List.set_cons_succ, i64_w, i32_w]
                                        rfl
                                      refine pure_ (i := 3) (N := some 53) (v := ?_) (a' := ?_) #[true, true, true, true, false, false, false, false, false, false, false, false, false] rfl rfl (any_of HT_.out (by kernel_rfl)) (fun _ _ _ h => h) (Or.inl ⟨by rfl, ?_⟩) ?_ ?_
                                      rotate_left
                                      · intro w'
                                        go_simp
                                        with_reducible rfl
                                      rotate_left
                                      · simp only [Act.put, List.setIfInBounds_toArray, List.set_cons_zero, List.set_cons_succ, i64_w, i32_w]
                                        rfl
                                      refine pure_ (i := 4) (N := some 54) (v := ?_) (a' := ?_) #[true, true, true, true, true, false, false, false, false, false, false, false, false] rfl rfl (any_of HT_.out (by kernel_rfl)) (fun _ _ _ h => h) (Or.inl ⟨by rfl, ?_⟩) ?_ ?_
                                      rotate_left
                                      · intro w'
                                        go_simp
                                        with_reducible rfl
                                      rotate_left
                                      · simp only [Act.put, List.setIfInBounds_toArray, List.set_cons_zero, List.set_cons_succ, i64_w, i32_w]
                                        rfl
                                      refine pure_ (i := 5) (N := some 55) (v := ?_) (a' := ?_) #[true, true, true, true, true, true, false, false, false, false, false, false, false] rfl rfl (any_of HT_.out (by kernel_rfl)) (fun _ _ _ h => h) (Or.inl ⟨by rfl, ?_⟩) ?_ ?_
                                      rotate_left
                                      · intro w'
                                        go_simp
                                        with_reducible rfl
                                      rotate_left
                                      · simp only [Act.put, List.setIfInBounds_toArray, List.set_cons_zero, List.set_cons_succ, i64_w, i32_w]
                                        rfl
                                      refine pure_ (i := 7) (N := some 57) (v := ?_) (a' := ?_) #[true, true, true, true, true, true, false, true, false, false, false, false, false] rfl rfl (any_of HT_.out (by kernel_rfl)) (fun _ _ _ h => h) (Or.inl ⟨by rfl, ?_⟩) ?_ ?_
                                      rotate_left
                                      · intro w'
                                        go_simp
                                        with_reducible rfl
                                      rotate_left
                                      · simp only [Act.put, List.setIfInBounds_toArray, List.set_cons_zero, List.set_cons_succ, i64_w, i32_w]
                                        rfl
                                      refine pure_ (i := 8) (N := some 58) (v := ?_) (a' := ?_) #[true, true, true, true, true, true, false, true, true, false, false, false, false] rfl rfl (any_of HT_.out (by kernel_rfl)) (fun _ _ _ h => h) (Or.inl ⟨by rfl, ?_⟩) ?_ ?_
                                      rotate_left
                                      · intro w'
                                        go_simp
                                        with_reducible rfl
                                      rotate_left
                                      · simp only [Act.put, List.setIfInBounds_toArray, List.set_cons_zero, List.set_cons_succ, i64_w, i32_w]
                                        rfl
                                      refine pure_ (i := 9) (N := some 59) (v := ?_) (a' := ?_) #[true, true, true, true, true, true, false, true, true, true, false, false, false] rfl rfl (any_of HT_.out (by kernel_rfl)) (fun _ _ _ h => h) (Or.inl ⟨by rfl, ?_⟩) ?_ ?_
                                      rotate_left
                                      · intro w'
                                        go_simp
                                        with_reducible rfl
                                      rotate_left
                                      · simp only [Act.put, List.setIfInBounds_toArray, List.set_cons_zero, List.set_cons_succ, i64_w, i32_w]
                                        rfl
                                      refine take_ (i := 6) (N := some 56) (v := ?_) (a' := ?_) #[true, true, true, true, true, true, true, true, true, true, false, false, false] rfl rfl (take_ofW HT_.out HW_.out (by kernel_rfl)) (fun _ _ _ h => h) (Or.inl ⟨by rfl, ?_⟩) hHeld ?_ ?_
                                      rotate_left
                                      · rintro w' ⟨s0, s1, s2, s3, s4, s5, s6, s7, s8, s9⟩
                                        go_simp
                                        with_reducible rfl
                                      rotate_left
                                      · simp only [Act.put, List.setIfInBounds_toArray, List.set_cons_zero, List.set_cons_succ, i64_w, i32_w]
                                        rfl
                                      refine take_ (i := 10) (N := some 60) (v := ?_) (a' := ?_) #[true, true, true, true, true, true, true, true, true, true, true, false, false] rfl rfl (take_ofW HT_.out HW_.out (by kernel_rfl)) (fun _ _ _ h => h) (Or.inl ⟨by rfl, ?_⟩) hHeld ?_ ?_
                                      rotate_left
                                      · rintro w' ⟨s0, s1, s2, s3, s4, s5, s6, s7, s8, s9⟩
                                        go_simp
                                        with_reducible rfl
                                      rotate_left
                                      · simp only [Act.put, List.setIfInBounds_toArray, List.set_cons_zero, List.set_cons_succ, i64_w, i32_w]
                                        rfl
                                      refine one_ (i := 11) (N := some 61) #[true, true, true, true, true, true, true, true, true, true, true, true, false] rfl rfl (one_of HT_.out (by kernel_rfl)) (by decide) (fun K hK => ?_)
                                      refine goes_ Try.func33 (by kernel_rfl) rfl #[.agg #[.int .i64 ((rd_T30 l0 x4_1).f0), .int .i64 ((rd_T30 l0 x4_1).f1), .int .i64 ((rd_T30 l0 x4_1).f2), .int .i64 ((rd_T30 l0 x4_1).f3), .bool ((rd_T30 l0 x4_1).f4)], .agg #[.int .i64 ((rd_T30 x3_1 x9_4).f0), .int .i64 ((rd_T30 x3_1 x9_4).f1), .int .i64 ((rd_T30 x3_1 x9_4).f2), .int .i64 ((rd_T30 x3_1 x9_4).f3), .bool ((rd_T30 x3_1 x9_4).f4)]] (by rfl) rfl rfl (by (try simp only [List.map_toArray, List.map_cons, List.map_nil]); first | done | rfl | (simp only [List.length_drop, List.length_take]; rfl)) ?_
                                      with_reducible refine (tidemillref15_ahead.calls ((rd_T30 l0 x4_1).f0) ((rd_T30 l0 x4_1).f1) ((rd_T30 l0 x4_1).f2) ((rd_T30 l0 x4_1).f3) ((rd_T30 l0 x4_1).f4) ((rd_T30 x3_1 x9_4).f0) ((rd_T30 x3_1 x9_4).f1) ((rd_T30 x3_1 x9_4).f2) ((rd_T30 x3_1 x9_4).f3) ((rd_T30 x3_1 x9_4).f4) false _ A27.out).mono ?_
                                      rintro e w39 ⟨rfl, hb⟩
                                      have HS5_ := (hb.cell (World.block_lt_of_cell? _ _ (hHeld.2.2.2.2.2.1))).trans (hHeld.2.2.2.2.2.1)
                                      have HS6_ := (hb.cell (World.block_lt_of_cell? _ _ (hHeld.2.2.2.2.2.2.1))).trans (hHeld.2.2.2.2.2.2.1)
                                      have HS7_ := (hb.cell (World.block_lt_of_cell? _ _ (hHeld.2.2.2.2.2.2.2.1))).trans (hHeld.2.2.2.2.2.2.2.1)
                                      have HS8_ := (hb.cell (World.block_lt_of_cell? _ _ (hHeld.2.2.2.2.2.2.2.2.1))).trans (hHeld.2.2.2.2.2.2.2.2.1)
                                      have HS9_ := (hb.cell (World.block_lt_of_cell? _ _ (hHeld.2.2.2.2.2.2.2.2.2))).trans (hHeld.2.2.2.2.2.2.2.2.2)
                                      refine ⟨_, rfl, ?_⟩
                                      have n0_ := Aside0.mk (Kd.R_below (by (with_reducible repeat (first | apply Kd.R_alloc | apply Kd.R_drewN | apply Kd.R_drew)); exact HO_3.out) hb)
                                      have n1_ := Aside0.mk (Kd.R_below (by (with_reducible repeat (first | apply Kd.R_alloc | apply Kd.R_drewN | apply Kd.R_drew)); exact HO_7.out) hb)
                                      have n2_ := Aside0.mk (below_step (by repeat (first | (with_reducible first | exact HB.out | apply below_alloc | apply pw_below_drewN | apply below_drew1) | exact HB.out)) hb)
                                      clear HO_3
                                      clear HO_7
                                      clear HB
                                      have HO_3 := n0_
                                      have HO_7 := n1_
                                      have HB := n2_
                                      clear n0_ n1_ n2_
                                      (try clear hb)
                                      (try clear hb2)
                                      (try clear hk)
                                      (try clear hi)
                                      refine hK.out _ _ ⟨((HB.out.cell (World.block_lt_of_cell? w _ hw141_0)).trans hw141_0), ((HB.out.cell (World.block_lt_of_cell? w _ hw141_1)).trans hw141_1), ((HB.out.cell (World.block_lt_of_cell? w _ hw141_2)).trans hw141_2), ((HB.out.cell (World.block_lt_of_cell? w _ hw141_3)).trans hw141_3), ((HB.out.cell (World.block_lt_of_cell? w _ hw141_4)).trans hw141_4), HS5_, HS6_, HS7_, HS8_, HS9_⟩ (fun hHeld => ?_)
                                      clear hK K
                                      refine norm_ (a' := ?_) ?_ ?_
                                      rotate_left
                                      · show Act.put _ (some 61) _ = _
                                        simp only [Act.put, List.setIfInBounds_toArray, List.set_cons_zero, List.set_cons_succ, i64_w, i32_w]
                                        rfl
                                      refine pure_ (i := 12) (N := some 62) (v := ?_) (a' := ?_) #[true, true, true, true, true, true, true, true, true, true, true, true, true] rfl rfl (any_of HT_.out (by kernel_rfl)) (fun _ _ _ h => h) (Or.inl ⟨by rfl, ?_⟩) ?_ ?_
                                      rotate_left
                                      · intro w'
                                        go_simp
                                        with_reducible rfl
                                      rotate_left
                                      · simp only [Act.put, List.setIfInBounds_toArray, List.set_cons_zero, List.set_cons_succ, i64_w, i32_w]
                                        rfl
                                      refine done_ (done_of HT_.out (by kernel_rfl)) ?_
                                      have p152 : 0 ≤ (x9_4 : Int) := of_decide_eq_true (by first | (with_reducible assumption) | assumption)
                                      have q152 : x9_4 < (x3_1.length : Int) := of_decide_eq_true (by first | (with_reducible assumption) | assumption)
                                      obtain ⟨ad152, e152, hx152_0, hx152_1, hx152_2, hx152_3, hx152_4⟩ := at_T30 (Kd.R_reads' HO_3.out).2.2 x9_4 p152 q152
                                      obtain rfl : ad142 = ad152 := (by injection e152)
                                      replace p152 := eq_true p152
                                      replace q152 := eq_true q152
                                      try go_wp2_with (first | ((with_reducible refine gate_builtin (b := .append) (xs := #[.tmp 70, .tmp 75]) rfl ?_); at_builtin; refine Kd.R_append k30 (w0 := w) w.heap.size rfl (.tmp 70) (.tmp 75) 22 30 (.agg #[(.int .i64 0), (.int .i64 0), (.int .i64 0), (.int .i64 0), (.bool false)]) 40 rfl Try.underlying22 info30 rfl (by decide) (by omega) u7 x7_4 (⟨(rd_T30 x3_1 x9_4).f0, (rd_T30 x3_1 x9_4).f1, (rd_T30 x3_1 x9_4).f2, (rd_T30 x3_1 x9_4).f3, (rd_T30 x3_1 x9_4).f4⟩ : S30) [.int .i64 ((rd_T30 x3_1 x9_4).f0), .int .i64 ((rd_T30 x3_1 x9_4).f1), .int .i64 ((rd_T30 x3_1 x9_4).f2), .int .i64 ((rd_T30 x3_1 x9_4).f3), .bool ((rd_T30 x3_1 x9_4).f4)] (fun k_ => some k_ ≠ (.slice (some ad142) x3_1.length co37 : Value).ownBlock) (fun _ => False) rfl rfl ?aP (fun _ hk => hk.elim) ?aF ?aO ?aB ?aS ?aL ?_; (case aP => exact k30_mkM _ _ _ (⟨(rd_T30 x3_1 x9_4).f0, (rd_T30 x3_1 x9_4).f1, (rd_T30 x3_1 x9_4).f2, (rd_T30 x3_1 x9_4).f3, (rd_T30 x3_1 x9_4).f4⟩ : S30)); (case aB => exact (by repeat (first | (with_reducible first | exact HB.out | apply below_alloc | apply pw_below_drewN | apply below_drew1) | exact HB.out))); (case aF => exact (fun k_ hk => Kd.fresh' (Kd.R_lt (by (with_reducible repeat (first | apply Kd.R_alloc | apply Kd.R_drewN | apply Kd.R_drew)); exact HO_3.out)) k_ hk)); (case aO => exact (by (with_reducible repeat (first | apply Kd.R_alloc | apply Kd.R_drewN | apply Kd.R_drew)); exact HO_7.out)); (case aS => exact (below_size (by repeat (first | (with_reducible first | exact HB.out | apply below_alloc | apply pw_below_drewN | apply below_drew1) | exact HB.out)))); (case aL => have := LMc36.out; omega); intro v154 w40 ho hb hg hat; rw [← Ny153.out] at ho; have n0_ := Aside0.mk (Kd.R_after (ok := (fun _ => True)) (by (with_reducible repeat (first | apply Kd.R_alloc | apply Kd.R_drewN | apply Kd.R_drew)); exact Kd.R_mono HO_3.out (fun _ hk => ⟨trivial, hk⟩)) hg hat); have n1_ := Aside0.mk (hb); have n2_ := Aside0.mk (ho); clear HO_3; clear HB; clear HO_7; have HO_3 := n0_; have HB := n1_; have HO155 := n2_; clear n0_ n1_ n2_; clear ho hb hg hat))
                                      go_roundg k4
                                      case measure => have := HK1.out; have := HK2.out; have := HJ11.out; have := HK4.out; omega
                                      case rel => exact ⟨(y153), (false), (wrap64 (x9_4 + 1)), (by first | rfl | (simp; done) | (simp [*]; done)), (by first | rfl | (simp; done) | (simp [*]; done)), H', ⟨by have := HK1.out; have := HK2.out; have := HJ11.out; have := HK4.out; omega⟩, ⟨by (with_reducible repeat (first | apply Kd.R_alloc | apply Kd.R_drewN | apply Kd.R_drew)); exact Kd.R_mono HO_3.out (fun _ hk => hk.2)⟩, ⟨by (with_reducible repeat (first | apply Kd.R_alloc | apply Kd.R_drewN | apply Kd.R_drew)); exact HO155.out⟩, ⟨by repeat (first | (with_reducible first | exact HB.out | apply below_alloc | apply pw_below_drewN | apply below_drew1) | exact HB.out)⟩⟩
                                    · rw [if_neg c36] at H
                                      exact absurd H (by simp)
                                · rw [if_neg c26] at H
                                  exact absurd H (by simp)
                              · rw [if_neg c25] at H
                                exact absurd H (by simp)
                            · rw [if_neg c24] at H
                              exact absurd H (by simp)
                        · rw [if_neg c17] at H
                          have c17b0 : decide (x9_4 < (x3_1.length : Int)) = false := decide_eq_false c17
                          clear c17
                          by_cases c41 : x8_4 = true
                          · subst c41
                            have H1 : (tidemillref15_Last.l0 k4 l0 x7_4 (wrap64 (x4_1 + 1))) = some r := by rw [if_pos rfl] at H; exact H
                            clear H
                            have H := H1
                            clear H1
                            have H' := Aside0.mk H
                            clear H
                            obtain ⟨Ao42, co42, eo42⟩ := Kd.R_slice HO_3.out
                            subst eo42
                            go_wp2
                            go_roundg k4
                            case measure => have := HK1.out; have := HK2.out; have := HJ11.out; have := HK4.out; omega
                            case rel => exact ⟨(x7_4), (wrap64 (x4_1 + 1)), (by first | rfl | (simp; done) | (simp [*]; done)), H', ⟨by have := HK1.out; have := HK2.out; have := HJ11.out; have := HK4.out; omega⟩, ⟨by (with_reducible repeat (first | apply Kd.R_alloc | apply Kd.R_drewN | apply Kd.R_drew)); exact Kd.R_mono HO_7.out (fun _ hk => trivial)⟩, ⟨by repeat (first | (with_reducible first | exact HB.out | apply below_alloc | apply pw_below_drewN | apply below_drew1) | exact HB.out)⟩⟩
                          · replace c41 := Bool.eq_false_iff.mpr c41
                            subst c41
                            have H1 : (if 0 ≤ x4_1 then (if x4_1 < (l0.length : Int) then (if x7_4.length < 3518437208883 then (tidemillref15_Last.l0 k4 l0 (x7_4 ++ [(⟨(rd_T30 l0 x4_1).f0, (rd_T30 l0 x4_1).f1, (rd_T30 l0 x4_1).f2, (rd_T30 l0 x4_1).f3, (rd_T30 l0 x4_1).f4⟩ : S30)]) (wrap64 (x4_1 + 1))) else (none)) else (none)) else (none)) = some r := by rw [if_neg (show ¬ (false = true) by decide)] at H; exact H
                            clear H
                            have H := H1
                            clear H1
                            by_cases c43 : 0 ≤ x4_1
                            · rw [if_pos c43] at H
                              have c43b0 : decide (0 ≤ x4_1) = true := decide_eq_true c43
                              clear c43
                              by_cases c44 : x4_1 < (l0.length : Int)
                              · rw [if_pos c44] at H
                                have c44b0 : decide (x4_1 < (l0.length : Int)) = true := decide_eq_true c44
                                clear c44
                                by_cases c45 : x7_4.length < 3518437208883
                                · rw [if_pos c45] at H
                                  have LMc45 := Aside0.mk c45
                                  clear c45
                                  obtain ⟨y157, hy157⟩ : ∃ y_ : List (S30), y_ = (x7_4 ++ [(⟨(rd_T30 l0 x4_1).f0, (rd_T30 l0 x4_1).f1, (rd_T30 l0 x4_1).f2, (rd_T30 l0 x4_1).f3, (rd_T30 l0 x4_1).f4⟩ : S30)]) := ⟨_, rfl⟩
                                  replace H : (tidemillref15_Last.l0 k4 l0 y157 (wrap64 (x4_1 + 1))) = some r := by first | (rw [hy157]; with_reducible exact H) | (have H2_ := (Option.bind_some _ _).symm.trans H; rw [hy157]; with_reducible exact H2_) | (have H2_ := (Option.bind_some _ _).symm.trans H; with_reducible exact H2_) | with_reducible exact H | (rw [hy157]; exact H) | exact H
                                  have Ny157 := Aside0.mk hy157
                                  clear hy157
                                  have H' := Aside0.mk H
                                  clear H
                                  obtain ⟨Ao46, co46, eo46⟩ := Kd.R_slice HO_3.out
                                  subst eo46
                                  have p156 : 0 ≤ (x4_1 : Int) := of_decide_eq_true (by first | (with_reducible assumption) | assumption)
                                  have q156 : x4_1 < (l0.length : Int) := of_decide_eq_true (by first | (with_reducible assumption) | assumption)
                                  obtain ⟨ad156, e156, hx156_0, hx156_1, hx156_2, hx156_3, hx156_4⟩ := at_T30 HR0.out x4_1 p156 q156
                                  cases e156
                                  replace hx156_0 := (HB.out.cell (World.block_lt_of_cell? w _ hx156_0)).trans hx156_0
                                  replace hx156_1 := (HB.out.cell (World.block_lt_of_cell? w _ hx156_1)).trans hx156_1
                                  replace hx156_2 := (HB.out.cell (World.block_lt_of_cell? w _ hx156_2)).trans hx156_2
                                  replace hx156_3 := (HB.out.cell (World.block_lt_of_cell? w _ hx156_3)).trans hx156_3
                                  replace hx156_4 := (HB.out.cell (World.block_lt_of_cell? w _ hx156_4)).trans hx156_4
                                  replace p156 := eq_true p156
                                  replace q156 := eq_true q156
                                  go_wp2_with (first | ((with_reducible refine gate_builtin (b := .append) (xs := #[.tmp 79, .tmp 84]) rfl ?_); at_builtin; refine Kd.R_append k30 (w0 := w) w.heap.size rfl (.tmp 79) (.tmp 84) 22 30 (.agg #[(.int .i64 0), (.int .i64 0), (.int .i64 0), (.int .i64 0), (.bool false)]) 40 rfl Try.underlying22 info30 rfl (by decide) (by omega) u7 x7_4 (⟨(rd_T30 l0 x4_1).f0, (rd_T30 l0 x4_1).f1, (rd_T30 l0 x4_1).f2, (rd_T30 l0 x4_1).f3, (rd_T30 l0 x4_1).f4⟩ : S30) [.int .i64 ((rd_T30 l0 x4_1).f0), .int .i64 ((rd_T30 l0 x4_1).f1), .int .i64 ((rd_T30 l0 x4_1).f2), .int .i64 ((rd_T30 l0 x4_1).f3), .bool ((rd_T30 l0 x4_1).f4)] (fun k_ => some k_ ≠ (.slice Ao46 x3_1.length co46 : Value).ownBlock) (fun _ => False) rfl rfl ?aP (fun _ hk => hk.elim) ?aF ?aO ?aB ?aS ?aL ?_; (case aP => exact k30_mkM _ _ _ (⟨(rd_T30 l0 x4_1).f0, (rd_T30 l0 x4_1).f1, (rd_T30 l0 x4_1).f2, (rd_T30 l0 x4_1).f3, (rd_T30 l0 x4_1).f4⟩ : S30)); (case aB => exact (by repeat (first | (with_reducible first | exact HB.out | apply below_alloc | apply pw_below_drewN | apply below_drew1) | exact HB.out))); (case aF => exact (fun k_ hk => Kd.fresh' (Kd.R_lt (by (with_reducible repeat (first | apply Kd.R_alloc | apply Kd.R_drewN | apply Kd.R_drew)); exact HO_3.out)) k_ hk)); (case aO => exact (by (with_reducible repeat (first | apply Kd.R_alloc | apply Kd.R_drewN | apply Kd.R_drew)); exact HO_7.out)); (case aS => exact (below_size (by repeat (first | (with_reducible first | exact HB.out | apply below_alloc | apply pw_below_drewN | apply below_drew1) | exact HB.out)))); (case aL => have := LMc45.out; omega); intro v158 w47 ho hb hg hat; rw [← Ny157.out] at ho; have n0_ := Aside0.mk (Kd.R_after (ok := (fun _ => True)) (by (with_reducible repeat (first | apply Kd.R_alloc | apply Kd.R_drewN | apply Kd.R_drew)); exact Kd.R_mono HO_3.out (fun _ hk => ⟨trivial, hk⟩)) hg hat); have n1_ := Aside0.mk (hb); have n2_ := Aside0.mk (ho); clear HO_3; clear HB; clear HO_7; have HO_3 := n0_; have HB := n1_; have HO159 := n2_; clear n0_ n1_ n2_; clear ho hb hg hat))
                                  go_roundg k4
                                  case measure => have := HK1.out; have := HK2.out; have := HJ11.out; have := HK4.out; omega
                                  case rel => exact ⟨(y157), (wrap64 (x4_1 + 1)), (by first | rfl | (simp; done) | (simp [*]; done)), H', ⟨by have := HK1.out; have := HK2.out; have := HJ11.out; have := HK4.out; omega⟩, ⟨by (with_reducible repeat (first | apply Kd.R_alloc | apply Kd.R_drewN | apply Kd.R_drew)); exact Kd.R_mono HO159.out (fun _ hk => trivial)⟩, ⟨by repeat (first | (with_reducible first | exact HB.out | apply below_alloc | apply pw_below_drewN | apply below_drew1) | exact HB.out)⟩⟩
                                · rw [if_neg c45] at H
                                  exact absurd H (by simp)
                              · rw [if_neg c44] at H
                                exact absurd H (by simp)
                            · rw [if_neg c43] at H
                              exact absurd H (by simp)
      · rw [if_neg c2] at H
        have c2b0 : decide (x4_1 < (l0.length : Int)) = false := decide_eq_false c2
        clear c2
        obtain rfl := Option.some.inj H
        go_wp2
        go_ret
        exact ⟨_, by first | rfl | (simp [errW_none, errW_some] <;> rfl) | (simp [*, errW_none, errW_some] <;> rfl), by (with_reducible repeat (first | apply Kd.R_alloc | apply Kd.R_drewN | apply Kd.R_drew)); exact HO_3.out, by repeat (first | (with_reducible first | exact HB.out | apply below_alloc | apply pw_below_drewN | apply below_drew1) | exact HB.out)⟩

end Go.Proofs.Ytfccepkpbnalmaa.PChgLasts

-- PRINTED BY print.sh 35421559b90ae4d0a3588c463048766b98c2df88dd9212a6774a882060cdf62d: not written by this session
import Derived.Test.YtjngkndiokfibaaPChgBackx0
import Derived.Test.YtjngkndiokfibaaPChgBackx2
namespace Go.Proofs.Ytjngkndiokfibaa.PChgBack
open Go.RowKit Go.Proofs.YtjngkndiokfibaaW.PrintWords Go.Proofs.YtjngkndiokfibaaW.PrintLast Go.Proofs.YtjngkndiokfibaaW.PrintMore
attribute [local go_sem] max2_int min2_int max_two min_two max_three min_three max_four min_four   -- for this text's walks alone
set_option linter.unusedVariables false
set_option linter.unusedSimpArgs false

attribute [local go_sem high] eqA57
/-! ### chg_Changes: function 13 -/
mutual
def chg_Changes.j0 : Nat → List (S57) → List Bool → Bool → Option ((List (S23)) × Int)
  | 0, _, _, _ => none
  | k + 1, x0, x1, x20 => if x20 = true then (some (([] : List (S23)), 5)) else (chg_Changes.l0 k x0 x1 ([] : List (S23)) 0)
def chg_Changes.l0 : Nat → List (S57) → List Bool → List (S23) → Int → Option ((List (S23)) × Int)
  | 0, _, _, _, _ => none
  | k + 1, x0, x1, x6, x7 => if x7 < (x0.length : Int) then (if 0 ≤ x7 then (if 0 ≤ (wrap64 (x7 + 1)) then (if (wrap64 (x7 + 1)) < (x0.length : Int) then (if x7 < (x1.length : Int) then (if rdOf false x1 x7 = true then (some (([] : List (S23)), 5)) else (if (!(((rd_T57 x0 (wrap64 (x7 + 1))).f0) == ((rd_T57 x0 x7).f0)) || (!(((rd_T57 x0 (wrap64 (x7 + 1))).f2) == 0))) = true then (some (([] : List (S23)), 5)) else (if (wrap64 (x7 + 1)) < (x1.length : Int) then (if x6.length < 3518437208883 then (chg_Changes.l0 k x0 x1 (x6 ++ [(⟨(rd_T57 x0 x7).f0, (rd_T57 x0 x7).f2, (rd_T57 x0 x7).f1, (rd_T57 x0 (wrap64 (x7 + 1))).f1, rdOf false x1 (wrap64 (x7 + 1))⟩ : S23)]) (wrap64 (x7 + 2))) else (none)) else (none)))) else (none)) else (none)) else (none)) else (none)) else (some (x6, 0))
end
def chg_Changes.f (k : Nat) (l0 : List (S57)) (l1 : List Bool) : Option ((List (S23)) × Int) := if (l0.length : Int) = (l1.length : Int) then (chg_Changes.j0 k l0 l1 (((l0.length : Int) % 2) != 0)) else (chg_Changes.j0 k l0 l1 true)
theorem chg_Changes.mono_l : ∀ k, (∀ y0 y1 y2, LeO (chg_Changes.j0 k y0 y1 y2) (chg_Changes.j0 (k + 1) y0 y1 y2)) ∧ (∀ y0 y1 y2 y3, LeO (chg_Changes.l0 k y0 y1 y2 y3) (chg_Changes.l0 (k + 1) y0 y1 y2 y3))
  | 0 => ⟨fun _ _ _ r h => by simp [chg_Changes.j0] at h, fun _ _ _ _ r h => by simp [chg_Changes.l0] at h⟩
  | k + 1 => by
    obtain ⟨ih0, ih1⟩ := chg_Changes.mono_l k
    refine ⟨?_, ?_⟩
    · intro y0 y1 y2
      unfold chg_Changes.j0
      repeat' first
      | (with_reducible exact ih0 _ _ _)
      | (with_reducible exact ih1 _ _ _ _)
      | (with_reducible exact LeO.refl _)
      | (with_reducible exact LeO.none _)
      | (with_reducible refine LeO.ite ?_ ?_)
      | (with_reducible refine LeO.bind ?_ (fun _ => ?_))
      | exact ih0 _ _ _
      | exact ih1 _ _ _ _
      | exact LeO.none _
      | refine LeO.ite ?_ ?_
      | refine LeO.bind ?_ (fun _ => ?_)
    · intro y0 y1 y2 y3
      unfold chg_Changes.l0
      repeat' first
      | (with_reducible exact ih0 _ _ _)
      | (with_reducible exact ih1 _ _ _ _)
      | (with_reducible exact LeO.refl _)
      | (with_reducible exact LeO.none _)
      | (with_reducible refine LeO.ite ?_ ?_)
      | (with_reducible refine LeO.bind ?_ (fun _ => ?_))
      | exact ih0 _ _ _
      | exact ih1 _ _ _ _
      | exact LeO.none _
      | refine LeO.ite ?_ ?_
      | refine LeO.bind ?_ (fun _ => ?_)
theorem chg_Changes.mono : ∀ a0 a1 k, LeO (chg_Changes.f k a0 a1) (chg_Changes.f (k + 1) a0 a1) := by
  intro a0 a1 k
  obtain ⟨ih0, ih1⟩ := chg_Changes.mono_l k
  unfold chg_Changes.f
  repeat' first
      | (with_reducible exact ih0 _ _ _)
      | (with_reducible exact ih1 _ _ _ _)
      | (with_reducible exact LeO.refl _)
      | (with_reducible exact LeO.none _)
      | (with_reducible refine LeO.ite ?_ ?_)
      | (with_reducible refine LeO.bind ?_ (fun _ => ?_))
      | exact ih0 _ _ _
      | exact ih1 _ _ _ _
      | exact LeO.none _
      | refine LeO.ite ?_ ?_
      | refine LeO.bind ?_ (fun _ => ?_)
def chg_Changes.T7 : Bool × List (List Nat × List Nat) := (true, [([], []), ([], []), ([0, 1], [0, 1]), ([2], [2]), ([], []), ([], []), ([5], [5]), ([4, 6], [4, 6]), ([7], [7]), ([], []), ([], []), ([9, 3, 0, 1, 2, 3, 9, 10], [3, 9]), ([10, 8, 11, 0, 1, 2, 3, 4, 5, 6, 7, 8, 9, 10, 11], [8, 10])])
def chg_Changes.B7 : List Nat := [0, 0, 3, 7, 0, 0, 32, 112, 240, 0, 0, 1551, 4095]
theorem chg_Changes.tab7 : rtab .any (opsOf Try.f13 7) = chg_Changes.T7 := by kernel_rfl
theorem chg_Changes.bits7 : waitsOk chg_Changes.T7.2 chg_Changes.B7 = true := by kernel_rfl
def chg_Changes.T10 : Bool × List (List Nat × List Nat) := (true, [([], []), ([], []), ([1], [1]), ([], []), ([3], [3]), ([], []), ([5], [5]), ([], []), ([7], [7]), ([], []), ([], []), ([10], [10]), ([9, 11], [9, 11]), ([12], [12]), ([2, 4, 6, 8, 13], [2, 4, 6, 8, 13]), ([14], [14]), ([0, 15], [0, 15]), ([16, 16, 0, 1, 2, 3, 4, 5, 6, 7, 8, 9, 10, 11, 12, 13, 14, 15, 16], [0, 16])])
def chg_Changes.B10 : List Nat := [0, 0, 2, 0, 8, 0, 32, 0, 128, 0, 0, 1024, 3584, 7680, 16382, 32766, 65535, 131071]
theorem chg_Changes.tab10 : rtab .any (opsOf Try.f13 10) = chg_Changes.T10 := by kernel_rfl
theorem chg_Changes.bits10 : waitsOk chg_Changes.T10.2 chg_Changes.B10 = true := by kernel_rfl
set_option maxHeartbeats 8000000 in
set_option maxRecDepth 100000 in
theorem chg_Changes.calls (k : Nat) (A0 : Option Addr) (c0 : Nat) (l0 : List (S57)) (A1 : Option Addr) (c1 : Nat) (l1 : List Bool) (r1 : List (S23)) (r2 : Int) (w : World) (hr0 : Kd.C k57 w A0 l0.length l0) (hc0 : l0.length ≤ c0) (hr1 : Kd.C Kd.bool w A1 l1.length l1) (hc1 : l1.length ≤ c1) (h : chg_Changes.f k l0 l1 = some (r1, r2)) :
    Calls Try.prog 13 #[.slice A0 l0.length c0, .slice A1 l1.length c1] w fun e w' => ∃ v0_ : Value, e = .returned (.tuple #[v0_, .int .i64 r2]) ∧ Kd.R k23 23 w' w.heap.size (fun _ => True) v0_ r1 ∧ Below w.heap.size w w' := by
  have hu57 := Try.underlying57
  have hu23 := Try.underlying23
  have HR0 := Aside0.mk hr0
  have HC0 := Aside0.mk hc0
  clear hr0 hc0
  have HR1 := Aside0.mk hr1
  have HC1 := Aside0.mk hc1
  clear hr1 hc1
  have HB := Aside0.mk (Below.refl w.heap.size w)
  have H : (if (l0.length : Int) = (l1.length : Int) then (chg_Changes.j0 k l0 l1 (((l0.length : Int) % 2) != 0)) else (chg_Changes.j0 k l0 l1 true)) = some (r1, r2) := h
  clear h
  have HC3 := Aside0.mk H
  clear H
  go_enter Try.func13, Try.ntmps13
  go_upto_region 1 with (fail)
  go_cut [20] (fun v20 wc => ∃ (kq : Nat) (x20_2 : Bool), v20 = .bool x20_2 ∧ Aside0 (chg_Changes.j0 kq l0 l1 x20_2 = some (r1, r2)) ∧ Aside0 (kq ≤ k) ∧ Aside0 (Below w.heap.size w wc))
  case first =>
    have H := HC3.out
    clear HC3
    by_cases c4 : (l0.length : Int) = (l1.length : Int)
    · rw [if_pos c4] at H
      have c4b0 : ((l0.length : Int) == (l1.length : Int)) = true := beq_iff_eq.mpr c4
      have c4b1 : ((l0.length : Int) != (l1.length : Int)) = false := bne_eq_false_iff_eq.mpr c4
      have c4b2 : (l0.length == l1.length) = true := by first | simpa using c4 | (simp at c4 ⊢; omega)
      clear c4
      (first | rw [c4b0] | (simp only [i64_w, i32_w]; rw [c4b0]) | skip)
      have H' := Aside0.mk H
      clear H
      go_wp2
      go_meet
      case rel => exact ⟨_, ((((l0.length : Int) % 2) != 0)), (by first | rfl | (simp; done) | (simp [*]; done)), H', ⟨by first | omega | exact Nat.le_refl _⟩, ⟨by repeat (first | (with_reducible first | exact HB.out | apply below_alloc | apply pw_below_drewN | apply below_drew1) | exact HB.out)⟩⟩
    · rw [if_neg c4] at H
      have c4b0 : ((l0.length : Int) == (l1.length : Int)) = false := beq_eq_false_iff_ne.mpr c4
      have c4b1 : ((l0.length : Int) != (l1.length : Int)) = true := bne_iff_ne.mpr c4
      have c4b2 : (l0.length == l1.length) = false := by first | simpa using c4 | (simp at c4 ⊢; omega)
      (first | rw [c4b0] | (simp only [i64_w, i32_w]; rw [c4b0]) | skip)
      have H' := Aside0.mk H
      clear H
      go_wp2
      go_meet
      case rel => exact ⟨_, (true), (by first | rfl | (simp; done) | (simp [*]; done)), H', ⟨by first | omega | exact Nat.le_refl _⟩, ⟨by repeat (first | (with_reducible first | exact HB.out | apply below_alloc | apply pw_below_drewN | apply below_drew1) | exact HB.out)⟩⟩
  case rest =>
    clear HC3
    try clear c1
    try clear p2
    try clear c4
    try clear c4b0
    try clear c4b1
    try clear c4b2
    obtain ⟨kq, x20_2, rfl, HA, HJ2, HB⟩ := hcut
    cases kq with
    | zero => exact absurd HA.out (by simp [chg_Changes.j0])
    | succ kj2 =>
      have H := HA.out
      clear HA
      simp only [chg_Changes.j0] at H
      by_cases c5 : x20_2 = true
      · subst c5
        have H1 : (some (([] : List (S23)), 5)) = some (r1, r2) := by rw [if_pos rfl] at H; exact H
        clear H
        have H := H1
        clear H1
        simp only [Option.some.injEq, Prod.mk.injEq] at H
        obtain ⟨rfl, rfl⟩ := H
        go_wp2
        go_ret2
        exact ⟨_, by first | rfl | (simp [errW_none, errW_some] <;> rfl) | (simp [*, errW_none, errW_some] <;> rfl), by first | exact Kd.R_nil _ _ _ _ _ | exact Kd.N_nil _ _ _ _ _ | exact Kd.V_nil _ _ _ _ _ | exact Kd.Q_nil _ _ _ _ _ | exact Kd.S_nil _ _ _ _ _, by repeat (first | (with_reducible first | exact HB.out | apply below_alloc | apply pw_below_drewN | apply below_drew1) | exact HB.out)⟩
      · replace c5 := Bool.eq_false_iff.mpr c5
        subst c5
        have H1 : (chg_Changes.l0 kj2 l0 l1 ([] : List (S23)) 0) = some (r1, r2) := by rw [if_neg (show ¬ (false = true) by decide)] at H; exact H
        clear H
        have H := H1
        clear H1
        have H' := Aside0.mk H
        clear H
        go_wp2
        go_loopg [6, 7] kj2 (fun kq v6 v7 w' => ∃ (x6_2 : List (S23)) (x7_2 : Int), v7 = .int .i64 x7_2 ∧ Aside0 (chg_Changes.l0 kq l0 l1 x6_2 x7_2 = some (r1, r2)) ∧ Aside0 (kq ≤ kj2) ∧ Aside0 (Kd.R k23 23 w' w.heap.size (fun _ => True) v6 x6_2) ∧ Aside0 (Below w.heap.size w w'))
        case atStart => exact ⟨(([] : List (S23))), (0), (by first | rfl | (simp; done) | (simp [*]; done)), H', ⟨Nat.le_refl _⟩, ⟨by first | exact Kd.R_nil _ _ _ _ _ | exact Kd.N_nil _ _ _ _ _ | exact Kd.V_nil _ _ _ _ _ | exact Kd.Q_nil _ _ _ _ _ | exact Kd.S_nil _ _ _ _ _⟩, ⟨by repeat (first | (with_reducible first | exact HB.out | apply below_alloc | apply pw_below_drewN | apply below_drew1) | exact HB.out)⟩⟩
        case round =>
          clear H'
          try clear c1
          try clear p2
          try clear c4
          try clear c4b0
          try clear c4b1
          try clear c4b2
          try clear c5
          try clear p2
          obtain ⟨x6_2, x7_2, rfl, HA, HK2, HO_6, HB⟩ := hrel
          cases gk with
          | zero => exact absurd HA.out (by simp [chg_Changes.l0])
          | succ k2 =>
            have H := HA.out
            clear HA
            simp only [chg_Changes.l0] at H
            by_cases c6 : x7_2 < (l0.length : Int)
            · rw [if_pos c6] at H
              have c6b0 : decide (x7_2 < (l0.length : Int)) = true := decide_eq_true c6
              clear c6
              by_cases c7 : 0 ≤ x7_2
              · rw [if_pos c7] at H
                have c7b0 : decide (0 ≤ x7_2) = true := decide_eq_true c7
                clear c7
                obtain ⟨ji8, hji8⟩ : ∃ j_ : Int, (wrap64 (x7_2 + 1)) = j_ := ⟨_, rfl⟩
                replace H : (if 0 ≤ (ji8) then (if (ji8) < (l0.length : Int) then (if x7_2 < (l1.length : Int) then (if rdOf false l1 x7_2 = true then (some (([] : List (S23)), 5)) else (if (!(((rd_T57 l0 (ji8)).f0) == ((rd_T57 l0 x7_2).f0)) || (!(((rd_T57 l0 (ji8)).f2) == 0))) = true then (some (([] : List (S23)), 5)) else (if (ji8) < (l1.length : Int) then (if x6_2.length < 3518437208883 then (chg_Changes.l0 k2 l0 l1 (x6_2 ++ [(⟨(rd_T57 l0 x7_2).f0, (rd_T57 l0 x7_2).f2, (rd_T57 l0 x7_2).f1, (rd_T57 l0 (ji8)).f1, rdOf false l1 (ji8)⟩ : S23)]) (wrap64 (x7_2 + 2))) else (none)) else (none)))) else (none)) else (none)) else (none)) = some (r1, r2) := by first | (rw [hji8] at H; exact H) | (simp only [hji8] at H ⊢; exact H)
                have hji8w : (IntKind.i64.wrap (x7_2 + 1)) = ji8 := (i64_w _).trans hji8
                by_cases c9 : 0 ≤ (ji8)
                · rw [if_pos c9] at H
                  have c9b0 : decide (0 ≤ (ji8)) = true := decide_eq_true c9
                  clear c9
                  by_cases c10 : (ji8) < (l0.length : Int)
                  · rw [if_pos c10] at H
                    have c10b0 : decide ((ji8) < (l0.length : Int)) = true := decide_eq_true c10
                    clear c10
                    by_cases c11 : x7_2 < (l1.length : Int)
                    · rw [if_pos c11] at H
                      have c11b0 : decide (x7_2 < (l1.length : Int)) = true := decide_eq_true c11
                      clear c11
                      obtain ⟨bq12, hbq12⟩ : ∃ b_ : Bool, b_ = (rdOf false l1 x7_2) := ⟨_, rfl⟩
                      replace H : (if bq12 = true then (some (([] : List (S23)), 5)) else (if (!(((rd_T57 l0 (ji8)).f0) == ((rd_T57 l0 x7_2).f0)) || (!(((rd_T57 l0 (ji8)).f2) == 0))) = true then (some (([] : List (S23)), 5)) else (if (ji8) < (l1.length : Int) then (if x6_2.length < 3518437208883 then (chg_Changes.l0 k2 l0 l1 (x6_2 ++ [(⟨(rd_T57 l0 x7_2).f0, (rd_T57 l0 x7_2).f2, (rd_T57 l0 x7_2).f1, (rd_T57 l0 (ji8)).f1, rdOf false l1 (ji8)⟩ : S23)]) (wrap64 (x7_2 + 2))) else (none)) else (none)))) = some (r1, r2) := by rw [← hbq12] at H; exact H
                      have Nbq12 := Aside0.mk hbq12
                      clear hbq12
                      by_cases c13 : bq12 = true
                      · subst c13
                        have H1 : (some (([] : List (S23)), 5)) = some (r1, r2) := by rw [if_pos rfl] at H; exact H
                        clear H
                        have H := H1
                        clear H1
                        simp only [Option.some.injEq, Prod.mk.injEq] at H
                        obtain ⟨rfl, rfl⟩ := H
                        try go_wp2
                        have n0_ := Aside0.mk (Kd.R_drew HO_6.out)
                        have n1_ := Aside0.mk (below_drew1 HB.out)
                        clear HO_6
                        clear HB
                        have HO_6 := n0_
                        have HB := n1_
                        clear n0_ n1_
                        have p122 : 0 ≤ (x7_2 : Int) := of_decide_eq_true (by first | (with_reducible assumption) | assumption)
                        have q122 : x7_2 < (l0.length : Int) := of_decide_eq_true (by first | (with_reducible assumption) | assumption)
                        obtain ⟨ad122, e122, hx122_0, hx122_1, hx122_2⟩ := at_T57 HR0.out x7_2 p122 q122
                        have hw122_2 := hx122_2
                        have hw122_1 := hx122_1
                        have hw122_0 := hx122_0
                        cases e122
                        replace hx122_0 := (HB.out.cell (World.block_lt_of_cell? w _ hx122_0)).trans hx122_0
                        replace hx122_1 := (HB.out.cell (World.block_lt_of_cell? w _ hx122_1)).trans hx122_1
                        replace hx122_2 := (HB.out.cell (World.block_lt_of_cell? w _ hx122_2)).trans hx122_2
                        replace p122 := eq_true p122
                        replace q122 := eq_true q122
                        have p123 : 0 ≤ ((ji8) : Int) := of_decide_eq_true (by first | (with_reducible assumption) | assumption)
                        have q123 : (ji8) < (l0.length : Int) := of_decide_eq_true (by first | (with_reducible assumption) | assumption)
                        obtain ⟨ad123, e123, hx123_0, hx123_1, hx123_2⟩ := at_T57 HR0.out (ji8) p123 q123
                        have hw123_2 := hx123_2
                        have hw123_1 := hx123_1
                        have hw123_0 := hx123_0
                        obtain rfl : ad122 = ad123 := (by injection e123)
                        replace hx123_0 := (HB.out.cell (World.block_lt_of_cell? w _ hx123_0)).trans hx123_0
                        replace hx123_1 := (HB.out.cell (World.block_lt_of_cell? w _ hx123_1)).trans hx123_1
                        replace hx123_2 := (HB.out.cell (World.block_lt_of_cell? w _ hx123_2)).trans hx123_2
                        replace p123 := eq_true p123
                        replace q123 := eq_true q123
                        refine start_ (n := 13) (S := fun w' => w'.cell? (ad122.add ((x7_2).toNat * 3)) = some (.int .i64 ((rd_T57 l0 x7_2).f0)) ∧ w'.cell? ⟨(ad122.add ((x7_2).toNat * 3)).block, (ad122.add ((x7_2).toNat * 3)).off + 1, none⟩ = some (.int .i64 ((rd_T57 l0 x7_2).f1)) ∧ w'.cell? ⟨(ad122.add ((x7_2).toNat * 3)).block, (ad122.add ((x7_2).toNat * 3)).off + 2, none⟩ = some (.int .i64 ((rd_T57 l0 x7_2).f2)) ∧ w'.cell? (ad122.add (((ji8)).toNat * 3)) = some (.int .i64 ((rd_T57 l0 (ji8)).f0)) ∧ w'.cell? ⟨(ad122.add (((ji8)).toNat * 3)).block, (ad122.add (((ji8)).toNat * 3)).off + 1, none⟩ = some (.int .i64 ((rd_T57 l0 (ji8)).f1)) ∧ w'.cell? ⟨(ad122.add (((ji8)).toNat * 3)).block, (ad122.add (((ji8)).toNat * 3)).off + 2, none⟩ = some (.int .i64 ((rd_T57 l0 (ji8)).f2))) (ds := []) #[false, false, false, false, false, false, false, false, false, false, false, false, false] (by kernel_rfl) rfl rfl ⟨((HB.out.cell (World.block_lt_of_cell? w _ hw122_0)).trans hw122_0), ((HB.out.cell (World.block_lt_of_cell? w _ hw122_1)).trans hw122_1), ((HB.out.cell (World.block_lt_of_cell? w _ hw122_2)).trans hw122_2), ((HB.out.cell (World.block_lt_of_cell? w _ hw123_0)).trans hw123_0), ((HB.out.cell (World.block_lt_of_cell? w _ hw123_1)).trans hw123_1), ((HB.out.cell (World.block_lt_of_cell? w _ hw123_2)).trans hw123_2)⟩ (fun hHeld => ?_); refine with_tabW chg_Changes.tab7 chg_Changes.bits7 (fun HT_ HW_ => ?_)
                        generalize wr.drew = w14 at HO_6 HB hx122_0 hx122_1 hx122_2 hx123_0 hx123_1 hx123_2 hHeld ⊢
                        refine pure_ (i := 0) (N := some 27) (v := ?_) (a' := ?_) #[true, false, false, false, false, false, false, false, false, false, false, false, false] rfl rfl (any_of HT_.out (by kernel_rfl)) (fun _ _ _ h => h) (Or.inl ⟨by rfl, ?_⟩) ?_ ?_
                        rotate_left
                        · intro w'
                          go_simp
                          with_reducible rfl
                        rotate_left
                        · simp only [Act.put, List.setIfInBounds_toArray, List.set_cons_zero, List.set_cons_succ, i64_w, i32_w]
                          rfl
                        refine pure_ (i := 1) (N := some 28) (v := ?_) (a' := ?_) #[true, true, false, false, false, false, false, false, false, false, false, false, false] rfl rfl (any_of HT_.out (by kernel_rfl)) (fun _ _ _ h => h) (Or.inl ⟨by rfl, ?_⟩) ?_ ?_
                        rotate_left
                        · intro w'
                          go_simp
                          with_reducible rfl
                        rotate_left
                        · simp only [Act.put, List.setIfInBounds_toArray, List.set_cons_zero, List.set_cons_succ, i64_w, i32_w]
                          rfl
                        refine pure_ (i := 2) (N := some 29) (v := ?_) (a' := ?_) #[true, true, true, false, false, false, false, false, false, false, false, false, false] rfl rfl (any_of HT_.out (by kernel_rfl)) (fun _ _ _ h => h) (Or.inl ⟨by rfl, ?_⟩) ?_ ?_
                        rotate_left
                        · intro w'
                          go_simp
                          with_reducible rfl
                        rotate_left
                        · simp only [Act.put, List.setIfInBounds_toArray, List.set_cons_zero, List.set_cons_succ, i64_w, i32_w]
                          rfl
                        refine pure_ (i := 4) (N := some 31) (v := ?_) (a' := ?_) #[true, true, true, false, true, false, false, false, false, false, false, false, false] rfl rfl (any_of HT_.out (by kernel_rfl)) (fun _ _ _ h => h) (Or.inl ⟨by rfl, ?_⟩) ?_ ?_
                        rotate_left
                        · intro w'
                          go_simp
                          with_reducible rfl
                        rotate_left
                        · simp only [Act.put, List.setIfInBounds_toArray, List.set_cons_zero, List.set_cons_succ, i64_w, i32_w]
                          rfl
                        refine pure_ (i := 5) (N := some 32) (v := ?_) (a' := ?_) #[true, true, true, false, true, true, false, false, false, false, false, false, false] rfl rfl (any_of HT_.out (by kernel_rfl)) (fun _ _ _ h => h) (Or.inl ⟨by rfl, ?_⟩) ?_ ?_
                        rotate_left
                        · intro w'
                          go_simp
                          with_reducible rfl
                        rotate_left
                        · simp only [Act.put, List.setIfInBounds_toArray, List.set_cons_zero, List.set_cons_succ, i64_w, i32_w]
                          rfl
                        refine pure_ (i := 6) (N := some 33) (v := ?_) (a' := ?_) #[true, true, true, false, true, true, true, false, false, false, false, false, false] rfl rfl (any_of HT_.out (by kernel_rfl)) (fun _ _ _ h => h) (Or.inl ⟨by rfl, ?_⟩) ?_ ?_
                        rotate_left
                        · intro w'
                          go_simp
                          with_reducible rfl
                        rotate_left
                        · simp only [Act.put, List.setIfInBounds_toArray, List.set_cons_zero, List.set_cons_succ, i64_w, i32_w]
                          rfl
                        refine pure_ (i := 7) (N := some 34) (v := ?_) (a' := ?_) #[true, true, true, false, true, true, true, true, false, false, false, false, false] rfl rfl (any_of HT_.out (by kernel_rfl)) (fun _ _ _ h => h) (Or.inl ⟨by rfl, ?_⟩) ?_ ?_
                        rotate_left
                        · intro w'
                          go_simp
                          with_reducible rfl
                        rotate_left
                        · simp only [Act.put, List.setIfInBounds_toArray, List.set_cons_zero, List.set_cons_succ, i64_w, i32_w]
                          rfl
                        refine take_ (i := 3) (N := some 30) (v := ?_) (a' := ?_) #[true, true, true, true, true, true, true, true, false, false, false, false, false] rfl rfl (take_ofW HT_.out HW_.out (by kernel_rfl)) (fun _ _ _ h => h) (Or.inl ⟨by rfl, ?_⟩) hHeld ?_ ?_
                        rotate_left
                        · rintro w' ⟨s0, s1, s2, s3, s4, s5⟩
                          go_simp
                          with_reducible rfl
                        rotate_left
                        · simp only [Act.put, List.setIfInBounds_toArray, List.set_cons_zero, List.set_cons_succ, i64_w, i32_w]
                          rfl
                        refine take_ (i := 8) (N := some 35) (v := ?_) (a' := ?_) #[true, true, true, true, true, true, true, true, true, false, false, false, false] rfl rfl (take_ofW HT_.out HW_.out (by kernel_rfl)) (fun _ _ _ h => h) (Or.inl ⟨by rfl, ?_⟩) hHeld ?_ ?_
                        rotate_left
                        · rintro w' ⟨s0, s1, s2, s3, s4, s5⟩
                          go_simp
                          with_reducible rfl
                        rotate_left
                        · simp only [Act.put, List.setIfInBounds_toArray, List.set_cons_zero, List.set_cons_succ, i64_w, i32_w]
                          rfl
                        refine join_ (σ := Nat × Nat) 2 #[true, true, true, true, true, true, true, true, true, true, true, false, false] (fun s_ => [(8, .pointer (some ⟨s_.1, 0, none⟩)), (9, .pointer (some ⟨s_.2, 0, none⟩))]) (fun s_ w' => (w'.cell? (ad122.add ((x7_2).toNat * 3)) = some (.int .i64 ((rd_T57 l0 x7_2).f0)) ∧ w'.cell? ⟨(ad122.add ((x7_2).toNat * 3)).block, (ad122.add ((x7_2).toNat * 3)).off + 1, none⟩ = some (.int .i64 ((rd_T57 l0 x7_2).f1)) ∧ w'.cell? ⟨(ad122.add ((x7_2).toNat * 3)).block, (ad122.add ((x7_2).toNat * 3)).off + 2, none⟩ = some (.int .i64 ((rd_T57 l0 x7_2).f2)) ∧ w'.cell? (ad122.add (((ji8)).toNat * 3)) = some (.int .i64 ((rd_T57 l0 (ji8)).f0)) ∧ w'.cell? ⟨(ad122.add (((ji8)).toNat * 3)).block, (ad122.add (((ji8)).toNat * 3)).off + 1, none⟩ = some (.int .i64 ((rd_T57 l0 (ji8)).f1)) ∧ w'.cell? ⟨(ad122.add (((ji8)).toNat * 3)).block, (ad122.add (((ji8)).toNat * 3)).off + 2, none⟩ = some (.int .i64 ((rd_T57 l0 (ji8)).f2))) ∧ (Kd.R k23 23 w' w.heap.size (fun _ => True) u6 x6_2) ∧ (w'.heap[s_.1]? = some (.cells #[.int .i64 0, .int .i64 0, .int .i64 0] 57 (0, 0))) ∧ (w'.heap[s_.2]? = some (.cells #[.int .i64 0, .int .i64 0, .int .i64 0] 57 (0, 0))) ∧ (w.heap.size ≤ s_.1) ∧ (w.heap.size ≤ s_.1) ∧ (s_.2 ≠ s_.1) ∧ (s_.1 ≠ s_.2) ∧ (w.heap.size ≤ s_.2) ∧ (w.heap.size ≤ s_.2) ∧ (Below w.heap.size w w')) ?_ ?_
                        rotate_left
                        · intro hCont
                          refine two_ (i := 9) (j := 10) (Ni := some 8) (Nj := some 9) #[true, true, true, true, true, true, true, true, true, true, false, false, false] #[true, true, true, true, true, true, true, true, true, false, true, false, false] rfl rfl rfl rfl (two_of HT_.out (by kernel_rfl)) (by decide) (by decide) (fun K hK => ?_) (fun K hK => ?_)
                          · skip
                            refine box_step ?hg (N := 8) ?hd (cs := #[.int .i64 0, .int .i64 0, .int .i64 0]) (t := 57) ?hr ?_; (case hd => rfl); (case hg => rfl); (case hr => first | (go_simp; done) | (go_simp; rfl))
                            intro gb124 hg w15 hbox hb
                            have n0_ := Aside0.mk (Kd.R_below (by (with_reducible repeat (first | apply Kd.R_alloc | apply Kd.R_drewN | apply Kd.R_drew)); exact HO_6.out) hb)
                            have n1_ := Aside0.mk (below_step (by repeat (first | (with_reducible first | exact HB.out | apply below_alloc | apply pw_below_drewN | apply below_drew1) | exact HB.out)) hb)
                            have n2_ := Aside0.mk (hbox)
                            have n3_ := Aside0.mk ((by rw [hg]; exact (below_size (by repeat (first | (with_reducible first | exact HB.out | apply below_alloc | apply pw_below_drewN | apply below_drew1) | exact HB.out))) : w.heap.size ≤ gb124))
                            have n4_ := Aside0.mk ((by rw [hg]; exact (below_size (by repeat (first | (with_reducible first | exact HB.out | apply below_alloc | apply pw_below_drewN | apply below_drew1) | exact HB.out))) : w.heap.size ≤ gb124))
                            clear HO_6
                            clear HB
                            have HO_6 := n0_
                            have HB := n1_
                            have BK124 := n2_
                            have GW124 := n3_
                            have GE124 := n4_
                            clear n0_ n1_ n2_ n3_ n4_
                            clear hb hbox hg
                            refine hK.out _ _ ⟨((HB.out.cell (World.block_lt_of_cell? w _ hw122_0)).trans hw122_0), ((HB.out.cell (World.block_lt_of_cell? w _ hw122_1)).trans hw122_1), ((HB.out.cell (World.block_lt_of_cell? w _ hw122_2)).trans hw122_2), ((HB.out.cell (World.block_lt_of_cell? w _ hw123_0)).trans hw123_0), ((HB.out.cell (World.block_lt_of_cell? w _ hw123_1)).trans hw123_1), ((HB.out.cell (World.block_lt_of_cell? w _ hw123_2)).trans hw123_2)⟩ (fun hHeld => ?_)
                            clear hK K
                            refine norm_ (a' := ?_) ?_ ?_
                            rotate_left
                            · show Act.put _ (some 8) _ = _
                              simp only [Act.put, List.setIfInBounds_toArray, List.set_cons_zero, List.set_cons_succ, i64_w, i32_w]
                              rfl
                            refine one_ (i := 10) (N := some 9) #[true, true, true, true, true, true, true, true, true, true, true, false, false] rfl rfl (one_of HT_.out (by kernel_rfl)) (by decide) (fun K hK => ?_)
                            refine box_step ?hg (N := 9) ?hd (cs := #[.int .i64 0, .int .i64 0, .int .i64 0]) (t := 57) ?hr ?_; (case hd => rfl); (case hg => rfl); (case hr => first | (go_simp; done) | (go_simp; rfl))
                            intro gb125 hg w16 hbox hb
                            have n0_ := Aside0.mk (Kd.R_below (by (with_reducible repeat (first | apply Kd.R_alloc | apply Kd.R_drewN | apply Kd.R_drew)); exact HO_6.out) hb)
                            have n1_ := Aside0.mk (blk_below (g := gb124) (o := .cells #[.int .i64 0, .int .i64 0, .int .i64 0] 57 (0, 0)) (by (with_reducible repeat (first | refine blk_drewN ?_ _ | refine blk_drew ?_ | refine blk_alloc ?_ _)); exact BK124.out) hb)
                            have n2_ := Aside0.mk (below_step (by repeat (first | (with_reducible first | exact HB.out | apply below_alloc | apply pw_below_drewN | apply below_drew1 | refine below_set ?_ GE124.out) | exact HB.out)) hb)
                            have n3_ := Aside0.mk (hbox)
                            have n4_ := Aside0.mk ((by rw [hg]; exact (below_size (by repeat (first | (with_reducible first | exact HB.out | apply below_alloc | apply pw_below_drewN | apply below_drew1 | refine below_set ?_ GE124.out) | exact HB.out))) : w.heap.size ≤ gb125))
                            have n5_ := Aside0.mk ((by rw [hg]; exact (below_size (by repeat (first | (with_reducible first | exact HB.out | apply below_alloc | apply pw_below_drewN | apply below_drew1 | refine below_set ?_ GE124.out) | exact HB.out))) : w.heap.size ≤ gb125))
                            have n6_ := Aside0.mk ((by rw [hg]; exact Nat.ne_of_lt (blk_lt (g := gb124) (o := .cells #[.int .i64 0, .int .i64 0, .int .i64 0] 57 (0, 0)) (by (with_reducible repeat (first | refine blk_drewN ?_ _ | refine blk_drew ?_ | refine blk_alloc ?_ _)); exact BK124.out)) : gb124 ≠ gb125))
                            have n7_ := Aside0.mk ((by rw [hg]; exact Nat.ne_of_gt (blk_lt (g := gb124) (o := .cells #[.int .i64 0, .int .i64 0, .int .i64 0] 57 (0, 0)) (by (with_reducible repeat (first | refine blk_drewN ?_ _ | refine blk_drew ?_ | refine blk_alloc ?_ _)); exact BK124.out)) : gb125 ≠ gb124))
                            clear HO_6
                            clear BK124
                            clear HB
                            have HO_6 := n0_
                            have BK124 := n1_
                            have HB := n2_
                            have BK125 := n3_
                            have GW125 := n4_
                            have GE125 := n5_
                            have NB124_125 := n6_
                            have NB125_124 := n7_
                            clear n0_ n1_ n2_ n3_ n4_ n5_ n6_ n7_
                            clear hb hbox hg
                            refine hK.out _ _ ⟨((HB.out.cell (World.block_lt_of_cell? w _ hw122_0)).trans hw122_0), ((HB.out.cell (World.block_lt_of_cell? w _ hw122_1)).trans hw122_1), ((HB.out.cell (World.block_lt_of_cell? w _ hw122_2)).trans hw122_2), ((HB.out.cell (World.block_lt_of_cell? w _ hw123_0)).trans hw123_0), ((HB.out.cell (World.block_lt_of_cell? w _ hw123_1)).trans hw123_1), ((HB.out.cell (World.block_lt_of_cell? w _ hw123_2)).trans hw123_2)⟩ (fun hHeld => ?_)
                            clear hK K
                            refine norm_ (a' := ?_) ?_ ?_
                            rotate_left
                            · show Act.put _ (some 9) _ = _
                              simp only [Act.put, List.setIfInBounds_toArray, List.set_cons_zero, List.set_cons_succ, i64_w, i32_w]
                              rfl
                            exact norm_ (by simp only [putAll, Act.put, List.setIfInBounds_toArray, List.set_cons_zero, List.set_cons_succ]) (hCont (gb124, gb125) _ ⟨hHeld, (by (with_reducible repeat (first | apply Kd.R_alloc | apply Kd.R_drewN | apply Kd.R_drew)); exact HO_6.out), (by (with_reducible repeat (first | refine blk_drewN ?_ _ | refine blk_drew ?_ | refine blk_alloc ?_ _)); exact BK124.out), (by (with_reducible repeat (first | refine blk_drewN ?_ _ | refine blk_drew ?_ | refine blk_alloc ?_ _)); exact BK125.out), GW124.out, GE124.out, NB125_124.out, NB124_125.out, GW125.out, GE125.out, (by repeat (first | (with_reducible first | exact HB.out | apply below_alloc | apply pw_below_drewN | apply below_drew1 | refine below_set ?_ GE124.out | refine below_set ?_ GE125.out) | exact HB.out))⟩)
                          · skip
                            refine box_step ?hg (N := 9) ?hd (cs := #[.int .i64 0, .int .i64 0, .int .i64 0]) (t := 57) ?hr ?_; (case hd => rfl); (case hg => rfl); (case hr => first | (go_simp; done) | (go_simp; rfl))
                            intro gb125 hg w15 hbox hb
                            have n0_ := Aside0.mk (Kd.R_below (by (with_reducible repeat (first | apply Kd.R_alloc | apply Kd.R_drewN | apply Kd.R_drew)); exact HO_6.out) hb)
                            have n1_ := Aside0.mk (below_step (by repeat (first | (with_reducible first | exact HB.out | apply below_alloc | apply pw_below_drewN | apply below_drew1) | exact HB.out)) hb)
                            have n2_ := Aside0.mk (hbox)
                            have n3_ := Aside0.mk ((by rw [hg]; exact (below_size (by repeat (first | (with_reducible first | exact HB.out | apply below_alloc | apply pw_below_drewN | apply below_drew1) | exact HB.out))) : w.heap.size ≤ gb125))
                            have n4_ := Aside0.mk ((by rw [hg]; exact (below_size (by repeat (first | (with_reducible first | exact HB.out | apply below_alloc | apply pw_below_drewN | apply below_drew1) | exact HB.out))) : w.heap.size ≤ gb125))
                            clear HO_6
                            clear HB
                            have HO_6 := n0_
                            have HB := n1_
                            have BK125 := n2_
                            have GW125 := n3_
                            have GE125 := n4_
                            clear n0_ n1_ n2_ n3_ n4_
                            clear hb hbox hg
                            refine hK.out _ _ ⟨((HB.out.cell (World.block_lt_of_cell? w _ hw122_0)).trans hw122_0), ((HB.out.cell (World.block_lt_of_cell? w _ hw122_1)).trans hw122_1), ((HB.out.cell (World.block_lt_of_cell? w _ hw122_2)).trans hw122_2), ((HB.out.cell (World.block_lt_of_cell? w _ hw123_0)).trans hw123_0), ((HB.out.cell (World.block_lt_of_cell? w _ hw123_1)).trans hw123_1), ((HB.out.cell (World.block_lt_of_cell? w _ hw123_2)).trans hw123_2)⟩ (fun hHeld => ?_)
                            clear hK K
                            refine norm_ (a' := ?_) ?_ ?_
                            rotate_left
                            · show Act.put _ (some 9) _ = _
                              simp only [Act.put, List.setIfInBounds_toArray, List.set_cons_zero, List.set_cons_succ, i64_w, i32_w]
                              rfl
                            refine one_ (i := 9) (N := some 8) #[true, true, true, true, true, true, true, true, true, true, true, false, false] rfl rfl (one_of HT_.out (by kernel_rfl)) (by decide) (fun K hK => ?_)
                            refine box_step ?hg (N := 8) ?hd (cs := #[.int .i64 0, .int .i64 0, .int .i64 0]) (t := 57) ?hr ?_; (case hd => rfl); (case hg => rfl); (case hr => first | (go_simp; done) | (go_simp; rfl))
                            intro gb124 hg w16 hbox hb
                            have n0_ := Aside0.mk (Kd.R_below (by (with_reducible repeat (first | apply Kd.R_alloc | apply Kd.R_drewN | apply Kd.R_drew)); exact HO_6.out) hb)
                            have n1_ := Aside0.mk (blk_below (g := gb125) (o := .cells #[.int .i64 0, .int .i64 0, .int .i64 0] 57 (0, 0)) (by (with_reducible repeat (first | refine blk_drewN ?_ _ | refine blk_drew ?_ | refine blk_alloc ?_ _)); exact BK125.out) hb)
                            have n2_ := Aside0.mk (below_step (by repeat (first | (with_reducible first | exact HB.out | apply below_alloc | apply pw_below_drewN | apply below_drew1 | refine below_set ?_ GE125.out) | exact HB.out)) hb)
                            have n3_ := Aside0.mk (hbox)
                            have n4_ := Aside0.mk ((by rw [hg]; exact (below_size (by repeat (first | (with_reducible first | exact HB.out | apply below_alloc | apply pw_below_drewN | apply below_drew1 | refine below_set ?_ GE125.out) | exact HB.out))) : w.heap.size ≤ gb124))
                            have n5_ := Aside0.mk ((by rw [hg]; exact (below_size (by repeat (first | (with_reducible first | exact HB.out | apply below_alloc | apply pw_below_drewN | apply below_drew1 | refine below_set ?_ GE125.out) | exact HB.out))) : w.heap.size ≤ gb124))
                            have n6_ := Aside0.mk ((by rw [hg]; exact Nat.ne_of_lt (blk_lt (g := gb125) (o := .cells #[.int .i64 0, .int .i64 0, .int .i64 0] 57 (0, 0)) (by (with_reducible repeat (first | refine blk_drewN ?_ _ | refine blk_drew ?_ | refine blk_alloc ?_ _)); exact BK125.out)) : gb125 ≠ gb124))
                            have n7_ := Aside0.mk ((by rw [hg]; exact Nat.ne_of_gt (blk_lt (g := gb125) (o := .cells #[.int .i64 0, .int .i64 0, .int .i64 0] 57 (0, 0)) (by (with_reducible repeat (first | refine blk_drewN ?_ _ | refine blk_drew ?_ | refine blk_alloc ?_ _)); exact BK125.out)) : gb124 ≠ gb125))
                            clear HO_6
                            clear BK125
                            clear HB
                            have HO_6 := n0_
                            have BK125 := n1_
                            have HB := n2_
                            have BK124 := n3_
                            have GW124 := n4_
                            have GE124 := n5_
                            have NB125_124 := n6_
                            have NB124_125 := n7_
                            clear n0_ n1_ n2_ n3_ n4_ n5_ n6_ n7_
                            clear hb hbox hg
                            refine hK.out _ _ ⟨((HB.out.cell (World.block_lt_of_cell? w _ hw122_0)).trans hw122_0), ((HB.out.cell (World.block_lt_of_cell? w _ hw122_1)).trans hw122_1), ((HB.out.cell (World.block_lt_of_cell? w _ hw122_2)).trans hw122_2), ((HB.out.cell (World.block_lt_of_cell? w _ hw123_0)).trans hw123_0), ((HB.out.cell (World.block_lt_of_cell? w _ hw123_1)).trans hw123_1), ((HB.out.cell (World.block_lt_of_cell? w _ hw123_2)).trans hw123_2)⟩ (fun hHeld => ?_)
                            clear hK K
                            refine norm_ (a' := ?_) ?_ ?_
                            rotate_left
                            · show Act.put _ (some 8) _ = _
                              simp only [Act.put, List.setIfInBounds_toArray, List.set_cons_zero, List.set_cons_succ, i64_w, i32_w]
                              rfl
                            exact norm_ (by simp only [putAll, Act.put, List.setIfInBounds_toArray, List.set_cons_zero, List.set_cons_succ]) (hCont (gb124, gb125) _ ⟨hHeld, (by (with_reducible repeat (first | apply Kd.R_alloc | apply Kd.R_drewN | apply Kd.R_drew)); exact HO_6.out), (by (with_reducible repeat (first | refine blk_drewN ?_ _ | refine blk_drew ?_ | refine blk_alloc ?_ _)); exact BK124.out), (by (with_reducible repeat (first | refine blk_drewN ?_ _ | refine blk_drew ?_ | refine blk_alloc ?_ _)); exact BK125.out), GW124.out, GE124.out, NB125_124.out, NB124_125.out, GW125.out, GE125.out, (by repeat (first | (with_reducible first | exact HB.out | apply below_alloc | apply pw_below_drewN | apply below_drew1 | refine below_set ?_ GE125.out | refine below_set ?_ GE124.out) | exact HB.out))⟩)
                        rintro ⟨gb124, gb125⟩ w17 ⟨hS_, h0_, h1_, h2_, h3_, h4_, h5_, h6_, h7_, h8_, h9_⟩
                        have n0_ : Aside0 (Kd.R k23 23 w17 w.heap.size (fun _ => True) u6 x6_2) := ⟨h0_⟩
                        have n1_ : Aside0 (w17.heap[gb124]? = some (.cells #[.int .i64 0, .int .i64 0, .int .i64 0] 57 (0, 0))) := ⟨h1_⟩
                        have n2_ : Aside0 (w17.heap[gb125]? = some (.cells #[.int .i64 0, .int .i64 0, .int .i64 0] 57 (0, 0))) := ⟨h2_⟩
                        have n3_ : Aside0 (w.heap.size ≤ gb124) := ⟨h3_⟩
                        have n4_ : Aside0 (w.heap.size ≤ gb124) := ⟨h4_⟩
                        have n5_ : Aside0 (gb125 ≠ gb124) := ⟨h5_⟩
                        have n6_ : Aside0 (gb124 ≠ gb125) := ⟨h6_⟩
                        have n7_ : Aside0 (w.heap.size ≤ gb125) := ⟨h7_⟩
                        have n8_ : Aside0 (w.heap.size ≤ gb125) := ⟨h8_⟩
                        have n9_ : Aside0 (Below w.heap.size w w17) := ⟨h9_⟩
                        clear HO_6
                        clear HB
                        clear h0_ h1_ h2_ h3_ h4_ h5_ h6_ h7_ h8_ h9_
                        have HO_6 := n0_
                        have BK124 := n1_
                        have BK125 := n2_
                        have GW124 := n3_
                        have GE124 := n4_
                        have NB125_124 := n5_
                        have NB124_125 := n6_
                        have GW125 := n7_
                        have GE125 := n8_
                        have HB := n9_
                        clear n0_ n1_ n2_ n3_ n4_ n5_ n6_ n7_ n8_ n9_
                        have hHeld : w17.cell? (ad122.add ((x7_2).toNat * 3)) = some (.int .i64 ((rd_T57 l0 x7_2).f0)) ∧ w17.cell? ⟨(ad122.add ((x7_2).toNat * 3)).block, (ad122.add ((x7_2).toNat * 3)).off + 1, none⟩ = some (.int .i64 ((rd_T57 l0 x7_2).f1)) ∧ w17.cell? ⟨(ad122.add ((x7_2).toNat * 3)).block, (ad122.add ((x7_2).toNat * 3)).off + 2, none⟩ = some (.int .i64 ((rd_T57 l0 x7_2).f2)) ∧ w17.cell? (ad122.add (((ji8)).toNat * 3)) = some (.int .i64 ((rd_T57 l0 (ji8)).f0)) ∧ w17.cell? ⟨(ad122.add (((ji8)).toNat * 3)).block, (ad122.add (((ji8)).toNat * 3)).off + 1, none⟩ = some (.int .i64 ((rd_T57 l0 (ji8)).f1)) ∧ w17.cell? ⟨(ad122.add (((ji8)).toNat * 3)).block, (ad122.add (((ji8)).toNat * 3)).off + 2, none⟩ = some (.int .i64 ((rd_T57 l0 (ji8)).f2)) := hS_
                        refine norm_ (a' := ?_) ?_ ?_
                        rotate_left
                        · simp only [putAll, Act.put, List.setIfInBounds_toArray, List.set_cons_zero, List.set_cons_succ]
                          rfl
                        refine one_ (i := 11) (N := none) #[true, true, true, true, true, true, true, true, true, true, true, true, false] rfl rfl (one_of HT_.out (by kernel_rfl)) (by decide) (fun K hK => ?_)
                        have hs18 : w17.cell? ⟨gb124, 0, none⟩ = some (.int .i64 0) := (blk_cell BK124.out 0).trans rfl
                        have hfs18 := blk_frozen BK124.out 0
                        have hns18_1 := NB125_124.out
                        have hms18_1 := NB124_125.out
                        have hs19 : w17.cell? ⟨gb124, 1, none⟩ = some (.int .i64 0) := (blk_cell BK124.out 1).trans rfl
                        have hfs19 := blk_frozen BK124.out 1
                        have hns19_1 := NB125_124.out
                        have hms19_1 := NB124_125.out
                        have hs20 : w17.cell? ⟨gb124, 2, none⟩ = some (.int .i64 0) := (blk_cell BK124.out 2).trans rfl
                        have hfs20 := blk_frozen BK124.out 2
                        have hns20_1 := NB125_124.out
                        have hms20_1 := NB124_125.out
                        refine skip_ (w1 := ?_) (by rfl) rfl ?_ ?_
                        rotate_left
                        · go_simp
                          rfl
                        refine hK.out _ _ ⟨((cell_far (p := ⟨gb124, _, none⟩) (by first | exact Nat.ne_of_lt (Nat.lt_of_lt_of_le (by have := World.block_lt_of_cell? _ _ hw122_0; first | rwa [add_block] at this | exact this) GW124.out) | (rw [add_block]; exact Nat.ne_of_lt (Nat.lt_of_lt_of_le (by have := World.block_lt_of_cell? _ _ hw122_0; first | rwa [add_block] at this | exact this) GW124.out)) | (show (Addr.add _ _).block ≠ _; rw [add_block]; exact Nat.ne_of_lt (Nat.lt_of_lt_of_le (by have := World.block_lt_of_cell? _ _ hw122_0; first | rwa [add_block] at this | exact this) GW124.out)) | (dsimp only; exact Nat.ne_of_lt (Nat.lt_of_lt_of_le (by have := World.block_lt_of_cell? _ _ hw122_0; first | rwa [add_block] at this | exact this) GW124.out))) _).trans (((cell_far (p := ⟨gb124, _, none⟩) (by first | exact Nat.ne_of_lt (Nat.lt_of_lt_of_le (by have := World.block_lt_of_cell? _ _ hw122_0; first | rwa [add_block] at this | exact this) GW124.out) | (rw [add_block]; exact Nat.ne_of_lt (Nat.lt_of_lt_of_le (by have := World.block_lt_of_cell? _ _ hw122_0; first | rwa [add_block] at this | exact this) GW124.out)) | (show (Addr.add _ _).block ≠ _; rw [add_block]; exact Nat.ne_of_lt (Nat.lt_of_lt_of_le (by have := World.block_lt_of_cell? _ _ hw122_0; first | rwa [add_block] at this | exact this) GW124.out)) | (dsimp only; exact Nat.ne_of_lt (Nat.lt_of_lt_of_le (by have := World.block_lt_of_cell? _ _ hw122_0; first | rwa [add_block] at this | exact this) GW124.out))) _).trans (((cell_far (p := ⟨gb124, _, none⟩) (by first | exact Nat.ne_of_lt (Nat.lt_of_lt_of_le (by have := World.block_lt_of_cell? _ _ hw122_0; first | rwa [add_block] at this | exact this) GW124.out) | (rw [add_block]; exact Nat.ne_of_lt (Nat.lt_of_lt_of_le (by have := World.block_lt_of_cell? _ _ hw122_0; first | rwa [add_block] at this | exact this) GW124.out)) | (show (Addr.add _ _).block ≠ _; rw [add_block]; exact Nat.ne_of_lt (Nat.lt_of_lt_of_le (by have := World.block_lt_of_cell? _ _ hw122_0; first | rwa [add_block] at this | exact this) GW124.out)) | (dsimp only; exact Nat.ne_of_lt (Nat.lt_of_lt_of_le (by have := World.block_lt_of_cell? _ _ hw122_0; first | rwa [add_block] at this | exact this) GW124.out))) _).trans (hHeld.1)))))), ((cell_far (p := ⟨gb124, _, none⟩) (by first | exact Nat.ne_of_lt (Nat.lt_of_lt_of_le (by have := World.block_lt_of_cell? _ _ hw122_1; first | rwa [add_block] at this | exact this) GW124.out) | (rw [add_block]; exact Nat.ne_of_lt (Nat.lt_of_lt_of_le (by have := World.block_lt_of_cell? _ _ hw122_1; first | rwa [add_block] at this | exact this) GW124.out)) | (show (Addr.add _ _).block ≠ _; rw [add_block]; exact Nat.ne_of_lt (Nat.lt_of_lt_of_le (by have := World.block_lt_of_cell? _ _ hw122_1; first | rwa [add_block] at this | exact this) GW124.out)) | (dsimp only; exact Nat.ne_of_lt (Nat.lt_of_lt_of_le (by have := World.block_lt_of_cell? _ _ hw122_1; first | rwa [add_block] at this | exact this) GW124.out))) _).trans (((cell_far (p := ⟨gb124, _, none⟩) (by first | exact Nat.ne_of_lt (Nat.lt_of_lt_of_le (by have := World.block_lt_of_cell? _ _ hw122_1; first | rwa [add_block] at this | exact this) GW124.out) | (rw [add_block]; exact Nat.ne_of_lt (Nat.lt_of_lt_of_le (by have := World.block_lt_of_cell? _ _ hw122_1; first | rwa [add_block] at this | exact this) GW124.out)) | (show (Addr.add _ _).block ≠ _; rw [add_block]; exact Nat.ne_of_lt (Nat.lt_of_lt_of_le (by have := World.block_lt_of_cell? _ _ hw122_1; first | rwa [add_block] at this | exact this) GW124.out)) | (dsimp only; exact Nat.ne_of_lt (Nat.lt_of_lt_of_le (by have := World.block_lt_of_cell? _ _ hw122_1; first | rwa [add_block] at this | exact this) GW124.out))) _).trans (((cell_far (p := ⟨gb124, _, none⟩) (by first | exact Nat.ne_of_lt (Nat.lt_of_lt_of_le (by have := World.block_lt_of_cell? _ _ hw122_1; first | rwa [add_block] at this | exact this) GW124.out) | (rw [add_block]; exact Nat.ne_of_lt (Nat.lt_of_lt_of_le (by have := World.block_lt_of_cell? _ _ hw122_1; first | rwa [add_block] at this | exact this) GW124.out)) | (show (Addr.add _ _).block ≠ _; rw [add_block]; exact Nat.ne_of_lt (Nat.lt_of_lt_of_le (by have := World.block_lt_of_cell? _ _ hw122_1; first | rwa [add_block] at this | exact this) GW124.out)) | (dsimp only; exact Nat.ne_of_lt (Nat.lt_of_lt_of_le (by have := World.block_lt_of_cell? _ _ hw122_1; first | rwa [add_block] at this | exact this) GW124.out))) _).trans (hHeld.2.1)))))), ((cell_far (p := ⟨gb124, _, none⟩) (by first | exact Nat.ne_of_lt (Nat.lt_of_lt_of_le (by have := World.block_lt_of_cell? _ _ hw122_2; first | rwa [add_block] at this | exact this) GW124.out) | (rw [add_block]; exact Nat.ne_of_lt (Nat.lt_of_lt_of_le (by have := World.block_lt_of_cell? _ _ hw122_2; first | rwa [add_block] at this | exact this) GW124.out)) | (show (Addr.add _ _).block ≠ _; rw [add_block]; exact Nat.ne_of_lt (Nat.lt_of_lt_of_le (by have := World.block_lt_of_cell? _ _ hw122_2; first | rwa [add_block] at this | exact this) GW124.out)) | (dsimp only; exact Nat.ne_of_lt (Nat.lt_of_lt_of_le (by have := World.block_lt_of_cell? _ _ hw122_2; first | rwa [add_block] at this | exact this) GW124.out))) _).trans (((cell_far (p := ⟨gb124, _, none⟩) (by first | exact Nat.ne_of_lt (Nat.lt_of_lt_of_le (by have := World.block_lt_of_cell? _ _ hw122_2; first | rwa [add_block] at this | exact this) GW124.out) | (rw [add_block]; exact Nat.ne_of_lt (Nat.lt_of_lt_of_le (by have := World.block_lt_of_cell? _ _ hw122_2; first | rwa [add_block] at this | exact this) GW124.out)) | (show (Addr.add _ _).block ≠ _; rw [add_block]; exact Nat.ne_of_lt (Nat.lt_of_lt_of_le (by have := World.block_lt_of_cell? _ _ hw122_2; first | rwa [add_block] at this | exact this) GW124.out)) | (dsimp only; exact Nat.ne_of_lt (Nat.lt_of_lt_of_le (by have := World.block_lt_of_cell? _ _ hw122_2; first | rwa [add_block] at this | exact this) GW124.out))) _).trans (((cell_far (p := ⟨gb124, _, none⟩) (by first | exact Nat.ne_of_lt (Nat.lt_of_lt_of_le (by have := World.block_lt_of_cell? _ _ hw122_2; first | rwa [add_block] at this | exact this) GW124.out) | (rw [add_block]; exact Nat.ne_of_lt (Nat.lt_of_lt_of_le (by have := World.block_lt_of_cell? _ _ hw122_2; first | rwa [add_block] at this | exact this) GW124.out)) | (show (Addr.add _ _).block ≠ _; rw [add_block]; exact Nat.ne_of_lt (Nat.lt_of_lt_of_le (by have := World.block_lt_of_cell? _ _ hw122_2; first | rwa [add_block] at this | exact this) GW124.out)) | (dsimp only; exact Nat.ne_of_lt (Nat.lt_of_lt_of_le (by have := World.block_lt_of_cell? _ _ hw122_2; first | rwa [add_block] at this | exact this) GW124.out))) _).trans (hHeld.2.2.1)))))), ((cell_far (p := ⟨gb124, _, none⟩) (by first | exact Nat.ne_of_lt (Nat.lt_of_lt_of_le (by have := World.block_lt_of_cell? _ _ hw123_0; first | rwa [add_block] at this | exact this) GW124.out) | (rw [add_block]; exact Nat.ne_of_lt (Nat.lt_of_lt_of_le (by have := World.block_lt_of_cell? _ _ hw123_0; first | rwa [add_block] at this | exact this) GW124.out)) | (show (Addr.add _ _).block ≠ _; rw [add_block]; exact Nat.ne_of_lt (Nat.lt_of_lt_of_le (by have := World.block_lt_of_cell? _ _ hw123_0; first | rwa [add_block] at this | exact this) GW124.out)) | (dsimp only; exact Nat.ne_of_lt (Nat.lt_of_lt_of_le (by have := World.block_lt_of_cell? _ _ hw123_0; first | rwa [add_block] at this | exact this) GW124.out))) _).trans (((cell_far (p := ⟨gb124, _, none⟩) (by first | exact Nat.ne_of_lt (Nat.lt_of_lt_of_le (by have := World.block_lt_of_cell? _ _ hw123_0; first | rwa [add_block] at this | exact this) GW124.out) | (rw [add_block]; exact Nat.ne_of_lt (Nat.lt_of_lt_of_le (by have := World.block_lt_of_cell? _ _ hw123_0; first | rwa [add_block] at this | exact this) GW124.out)) | (show (Addr.add _ _).block ≠ _; rw [add_block]; exact Nat.ne_of_lt (Nat.lt_of_lt_of_le (by have := World.block_lt_of_cell? _ _ hw123_0; first | rwa [add_block] at this | exact this) GW124.out)) | (dsimp only; exact Nat.ne_of_lt (Nat.lt_of_lt_of_le (by have := World.block_lt_of_cell? _ _ hw123_0; first | rwa [add_block] at this | exact this) GW124.out))) _).trans (((cell_far (p := ⟨gb124, _, none⟩) (by first | exact Nat.ne_of_lt (Nat.lt_of_lt_of_le (by have := World.block_lt_of_cell? _ _ hw123_0; first | rwa [add_block] at this | exact this) GW124.out) | (rw [add_block]; exact Nat.ne_of_lt (Nat.lt_of_lt_of_le (by have := World.block_lt_of_cell? _ _ hw123_0; first | rwa [add_block] at this | exact this) GW124.out)) | (show (Addr.add _ _).block ≠ _; rw [add_block]; exact Nat.ne_of_lt (Nat.lt_of_lt_of_le (by have := World.block_lt_of_cell? _ _ hw123_0; first | rwa [add_block] at this | exact this) GW124.out)) | (dsimp only; exact Nat.ne_of_lt (Nat.lt_of_lt_of_le (by have := World.block_lt_of_cell? _ _ hw123_0; first | rwa [add_block] at this | exact this) GW124.out))) _).trans (hHeld.2.2.2.1)))))), ((cell_far (p := ⟨gb124, _, none⟩) (by first | exact Nat.ne_of_lt (Nat.lt_of_lt_of_le (by have := World.block_lt_of_cell? _ _ hw123_1; first | rwa [add_block] at this | exact this) GW124.out) | (rw [add_block]; exact Nat.ne_of_lt (Nat.lt_of_lt_of_le (by have := World.block_lt_of_cell? _ _ hw123_1; first | rwa [add_block] at this | exact this) GW124.out)) | (show (Addr.add _ _).block ≠ _; rw [add_block]; exact Nat.ne_of_lt (Nat.lt_of_lt_of_le (by have := World.block_lt_of_cell? _ _ hw123_1; first | rwa [add_block] at this | exact this) GW124.out)) | (dsimp only; exact Nat.ne_of_lt (Nat.lt_of_lt_of_le (by have := World.block_lt_of_cell? _ _ hw123_1; first | rwa [add_block] at this | exact this) GW124.out))) _).trans (((cell_far (p := ⟨gb124, _, none⟩) (by first | exact Nat.ne_of_lt (Nat.lt_of_lt_of_le (by have := World.block_lt_of_cell? _ _ hw123_1; first | rwa [add_block] at this | exact this) GW124.out) | (rw [add_block]; exact Nat.ne_of_lt (Nat.lt_of_lt_of_le (by have := World.block_lt_of_cell? _ _ hw123_1; first | rwa [add_block] at this | exact this) GW124.out)) | (show (Addr.add _ _).block ≠ _; rw [add_block]; exact Nat.ne_of_lt (Nat.lt_of_lt_of_le (by have := World.block_lt_of_cell? _ _ hw123_1; first | rwa [add_block] at this | exact this) GW124.out)) | (dsimp only; exact Nat.ne_of_lt (Nat.lt_of_lt_of_le (by have := World.block_lt_of_cell? _ _ hw123_1; first | rwa [add_block] at this | exact this) GW124.out))) _).trans (((cell_far (p := ⟨gb124, _, none⟩) (by first | exact Nat.ne_of_lt (Nat.lt_of_lt_of_le (by have := World.block_lt_of_cell? _ _ hw123_1; first | rwa [add_block] at this | exact this) GW124.out) | (rw [add_block]; exact Nat.ne_of_lt (Nat.lt_of_lt_of_le (by have := World.block_lt_of_cell? _ _ hw123_1; first | rwa [add_block] at this | exact this) GW124.out)) | (show (Addr.add _ _).block ≠ _; rw [add_block]; exact Nat.ne_of_lt (Nat.lt_of_lt_of_le (by have := World.block_lt_of_cell? _ _ hw123_1; first | rwa [add_block] at this | exact this) GW124.out)) | (dsimp only; exact Nat.ne_of_lt (Nat.lt_of_lt_of_le (by have := World.block_lt_of_cell? _ _ hw123_1; first | rwa [add_block] at this | exact this) GW124.out))) _).trans (hHeld.2.2.2.2.1)))))), ((cell_far (p := ⟨gb124, _, none⟩) (by first | exact Nat.ne_of_lt (Nat.lt_of_lt_of_le (by have := World.block_lt_of_cell? _ _ hw123_2; first | rwa [add_block] at this | exact this) GW124.out) | (rw [add_block]; exact Nat.ne_of_lt (Nat.lt_of_lt_of_le (by have := World.block_lt_of_cell? _ _ hw123_2; first | rwa [add_block] at this | exact this) GW124.out)) | (show (Addr.add _ _).block ≠ _; rw [add_block]; exact Nat.ne_of_lt (Nat.lt_of_lt_of_le (by have := World.block_lt_of_cell? _ _ hw123_2; first | rwa [add_block] at this | exact this) GW124.out)) | (dsimp only; exact Nat.ne_of_lt (Nat.lt_of_lt_of_le (by have := World.block_lt_of_cell? _ _ hw123_2; first | rwa [add_block] at this | exact this) GW124.out))) _).trans (((cell_far (p := ⟨gb124, _, none⟩) (by first | exact Nat.ne_of_lt (Nat.lt_of_lt_of_le (by have := World.block_lt_of_cell? _ _ hw123_2; first | rwa [add_block] at this | exact this) GW124.out) | (rw [add_block]; exact Nat.ne_of_lt (Nat.lt_of_lt_of_le (by have := World.block_lt_of_cell? _ _ hw123_2; first | rwa [add_block] at this | exact this) GW124.out)) | (show (Addr.add _ _).block ≠ _; rw [add_block]; exact Nat.ne_of_lt (Nat.lt_of_lt_of_le (by have := World.block_lt_of_cell? _ _ hw123_2; first | rwa [add_block] at this | exact this) GW124.out)) | (dsimp only; exact Nat.ne_of_lt (Nat.lt_of_lt_of_le (by have := World.block_lt_of_cell? _ _ hw123_2; first | rwa [add_block] at this | exact this) GW124.out))) _).trans (((cell_far (p := ⟨gb124, _, none⟩) (by first | exact Nat.ne_of_lt (Nat.lt_of_lt_of_le (by have := World.block_lt_of_cell? _ _ hw123_2; first | rwa [add_block] at this | exact this) GW124.out) | (rw [add_block]; exact Nat.ne_of_lt (Nat.lt_of_lt_of_le (by have := World.block_lt_of_cell? _ _ hw123_2; first | rwa [add_block] at this | exact this) GW124.out)) | (show (Addr.add _ _).block ≠ _; rw [add_block]; exact Nat.ne_of_lt (Nat.lt_of_lt_of_le (by have := World.block_lt_of_cell? _ _ hw123_2; first | rwa [add_block] at this | exact this) GW124.out)) | (dsimp only; exact Nat.ne_of_lt (Nat.lt_of_lt_of_le (by have := World.block_lt_of_cell? _ _ hw123_2; first | rwa [add_block] at this | exact this) GW124.out))) _).trans (hHeld.2.2.2.2.2))))))⟩ (fun hHeld => ?_)
                        clear hK K
                        refine one_ (i := 12) (N := none) #[true, true, true, true, true, true, true, true, true, true, true, true, true] rfl rfl (one_of HT_.out (by kernel_rfl)) (by decide) (fun K hK => ?_)
                        have hs21 : w17.cell? ⟨gb125, 0, none⟩ = some (.int .i64 0) := (blk_cell BK125.out 0).trans rfl
                        have hfs21 := blk_frozen BK125.out 0
                        have hns21_0 := NB124_125.out
                        have hms21_0 := NB125_124.out
                        have hs22 : w17.cell? ⟨gb125, 1, none⟩ = some (.int .i64 0) := (blk_cell BK125.out 1).trans rfl
                        have hfs22 := blk_frozen BK125.out 1
                        have hns22_0 := NB124_125.out
                        have hms22_0 := NB125_124.out
                        have hs23 : w17.cell? ⟨gb125, 2, none⟩ = some (.int .i64 0) := (blk_cell BK125.out 2).trans rfl
                        have hfs23 := blk_frozen BK125.out 2
                        have hns23_0 := NB124_125.out
                        have hms23_0 := NB125_124.out
                        refine skip_ (w1 := ?_) (by rfl) rfl ?_ ?_
                        rotate_left
                        · go_simp
                          rfl
                        refine hK.out _ _ ⟨((cell_far (p := ⟨gb125, _, none⟩) (by first | exact Nat.ne_of_lt (Nat.lt_of_lt_of_le (by have := World.block_lt_of_cell? _ _ hw122_0; first | rwa [add_block] at this | exact this) GW125.out) | (rw [add_block]; exact Nat.ne_of_lt (Nat.lt_of_lt_of_le (by have := World.block_lt_of_cell? _ _ hw122_0; first | rwa [add_block] at this | exact this) GW125.out)) | (show (Addr.add _ _).block ≠ _; rw [add_block]; exact Nat.ne_of_lt (Nat.lt_of_lt_of_le (by have := World.block_lt_of_cell? _ _ hw122_0; first | rwa [add_block] at this | exact this) GW125.out)) | (dsimp only; exact Nat.ne_of_lt (Nat.lt_of_lt_of_le (by have := World.block_lt_of_cell? _ _ hw122_0; first | rwa [add_block] at this | exact this) GW125.out))) _).trans (((cell_far (p := ⟨gb125, _, none⟩) (by first | exact Nat.ne_of_lt (Nat.lt_of_lt_of_le (by have := World.block_lt_of_cell? _ _ hw122_0; first | rwa [add_block] at this | exact this) GW125.out) | (rw [add_block]; exact Nat.ne_of_lt (Nat.lt_of_lt_of_le (by have := World.block_lt_of_cell? _ _ hw122_0; first | rwa [add_block] at this | exact this) GW125.out)) | (show (Addr.add _ _).block ≠ _; rw [add_block]; exact Nat.ne_of_lt (Nat.lt_of_lt_of_le (by have := World.block_lt_of_cell? _ _ hw122_0; first | rwa [add_block] at this | exact this) GW125.out)) | (dsimp only; exact Nat.ne_of_lt (Nat.lt_of_lt_of_le (by have := World.block_lt_of_cell? _ _ hw122_0; first | rwa [add_block] at this | exact this) GW125.out))) _).trans (((cell_far (p := ⟨gb125, _, none⟩) (by first | exact Nat.ne_of_lt (Nat.lt_of_lt_of_le (by have := World.block_lt_of_cell? _ _ hw122_0; first | rwa [add_block] at this | exact this) GW125.out) | (rw [add_block]; exact Nat.ne_of_lt (Nat.lt_of_lt_of_le (by have := World.block_lt_of_cell? _ _ hw122_0; first | rwa [add_block] at this | exact this) GW125.out)) | (show (Addr.add _ _).block ≠ _; rw [add_block]; exact Nat.ne_of_lt (Nat.lt_of_lt_of_le (by have := World.block_lt_of_cell? _ _ hw122_0; first | rwa [add_block] at this | exact this) GW125.out)) | (dsimp only; exact Nat.ne_of_lt (Nat.lt_of_lt_of_le (by have := World.block_lt_of_cell? _ _ hw122_0; first | rwa [add_block] at this | exact this) GW125.out))) _).trans (hHeld.1)))))), ((cell_far (p := ⟨gb125, _, none⟩) (by first | exact Nat.ne_of_lt (Nat.lt_of_lt_of_le (by have := World.block_lt_of_cell? _ _ hw122_1; first | rwa [add_block] at this | exact this) GW125.out) | (rw [add_block]; exact Nat.ne_of_lt (Nat.lt_of_lt_of_le (by have := World.block_lt_of_cell? _ _ hw122_1; first | rwa [add_block] at this | exact this) GW125.out)) | (show (Addr.add _ _).block ≠ _; rw [add_block]; exact Nat.ne_of_lt (Nat.lt_of_lt_of_le (by have := World.block_lt_of_cell? _ _ hw122_1; first | rwa [add_block] at this | exact this) GW125.out)) | (dsimp only; exact Nat.ne_of_lt (Nat.lt_of_lt_of_le (by have := World.block_lt_of_cell? _ _ hw122_1; first | rwa [add_block] at this | exact this) GW125.out))) _).trans (((cell_far (p := ⟨gb125, _, none⟩) (by first | exact Nat.ne_of_lt (Nat.lt_of_lt_of_le (by have := World.block_lt_of_cell? _ _ hw122_1; first | rwa [add_block] at this | exact this) GW125.out) | (rw [add_block]; exact Nat.ne_of_lt (Nat.lt_of_lt_of_le (by have := World.block_lt_of_cell? _ _ hw122_1; first | rwa [add_block] at this | exact this) GW125.out)) | (show (Addr.add _ _).block ≠ _; rw [add_block]; exact Nat.ne_of_lt (Nat.lt_of_lt_of_le (by have := World.block_lt_of_cell? _ _ hw122_1; first | rwa [add_block] at this | exact this) GW125.out)) | (dsimp only; exact Nat.ne_of_lt (Nat.lt_of_lt_of_le (by have := World.block_lt_of_cell? _ _ hw122_1; first | rwa [add_block] at this | exact this) GW125.out))) _).trans (((cell_far (p := ⟨gb125, _, none⟩) (by first | exact Nat.ne_of_lt (Nat.lt_of_lt_of_le (by have := World.block_lt_of_cell? _ _ hw122_1; first | rwa [add_block] at this | exact this) GW125.out) | (rw [add_block]; exact Nat.ne_of_lt (Nat.lt_of_lt_of_le (by have := World.block_lt_of_cell? _ _ hw122_1; first | rwa [add_block] at this | exact this) GW125.out)) | (show (Addr.add _ _).block ≠ _; rw [add_block]; exact Nat.ne_of_lt (Nat.lt_of_lt_of_le (by have := World.block_lt_of_cell? _ _ hw122_1; first | rwa [add_block] at this | exact this) GW125.out)) | (dsimp only; exact Nat.ne_of_lt (Nat.lt_of_lt_of_le (by have := World.block_lt_of_cell? _ _ hw122_1; first | rwa [add_block] at this | exact this) GW125.out))) _).trans (hHeld.2.1)))))), ((cell_far (p := ⟨gb125, _, none⟩) (by first | exact Nat.ne_of_lt (Nat.lt_of_lt_of_le (by have := World.block_lt_of_cell? _ _ hw122_2; first | rwa [add_block] at this | exact this) GW125.out) | (rw [add_block]; exact Nat.ne_of_lt (Nat.lt_of_lt_of_le (by have := World.block_lt_of_cell? _ _ hw122_2; first | rwa [add_block] at this | exact this) GW125.out)) | (show (Addr.add _ _).block ≠ _; rw [add_block]; exact Nat.ne_of_lt (Nat.lt_of_lt_of_le (by have := World.block_lt_of_cell? _ _ hw122_2; first | rwa [add_block] at this | exact this) GW125.out)) | (dsimp only; exact Nat.ne_of_lt (Nat.lt_of_lt_of_le (by have := World.block_lt_of_cell? _ _ hw122_2; first | rwa [add_block] at this | exact this) GW125.out))) _).trans (((cell_far (p := ⟨gb125, _, none⟩) (by first | exact Nat.ne_of_lt (Nat.lt_of_lt_of_le (by have := World.block_lt_of_cell? _ _ hw122_2; first | rwa [add_block] at this | exact this) GW125.out) | (rw [add_block]; exact Nat.ne_of_lt (Nat.lt_of_lt_of_le (by have := World.block_lt_of_cell? _ _ hw122_2; first | rwa [add_block] at this | exact this) GW125.out)) | (show (Addr.add _ _).block ≠ _; rw [add_block]; exact Nat.ne_of_lt (Nat.lt_of_lt_of_le (by have := World.block_lt_of_cell? _ _ hw122_2; first | rwa [add_block] at this | exact this) GW125.out)) | (dsimp only; exact Nat.ne_of_lt (Nat.lt_of_lt_of_le (by have := World.block_lt_of_cell? _ _ hw122_2; first | rwa [add_block] at this | exact this) GW125.out))) _).trans (((cell_far (p := ⟨gb125, _, none⟩) (by first | exact Nat.ne_of_lt (Nat.lt_of_lt_of_le (by have := World.block_lt_of_cell? _ _ hw122_2; first | rwa [add_block] at this | exact this) GW125.out) | (rw [add_block]; exact Nat.ne_of_lt (Nat.lt_of_lt_of_le (by have := World.block_lt_of_cell? _ _ hw122_2; first | rwa [add_block] at this | exact this) GW125.out)) | (show (Addr.add _ _).block ≠ _; rw [add_block]; exact Nat.ne_of_lt (Nat.lt_of_lt_of_le (by have := World.block_lt_of_cell? _ _ hw122_2; first | rwa [add_block] at this | exact this) GW125.out)) | (dsimp only; exact Nat.ne_of_lt (Nat.lt_of_lt_of_le (by have := World.block_lt_of_cell? _ _ hw122_2; first | rwa [add_block] at this | exact this) GW125.out))) _).trans (hHeld.2.2.1)))))), ((cell_far (p := ⟨gb125, _, none⟩) (by first | exact Nat.ne_of_lt (Nat.lt_of_lt_of_le (by have := World.block_lt_of_cell? _ _ hw123_0; first | rwa [add_block] at this | exact this) GW125.out) | (rw [add_block]; exact Nat.ne_of_lt (Nat.lt_of_lt_of_le (by have := World.block_lt_of_cell? _ _ hw123_0; first | rwa [add_block] at this | exact this) GW125.out)) | (show (Addr.add _ _).block ≠ _; rw [add_block]; exact Nat.ne_of_lt (Nat.lt_of_lt_of_le (by have := World.block_lt_of_cell? _ _ hw123_0; first | rwa [add_block] at this | exact this) GW125.out)) | (dsimp only; exact Nat.ne_of_lt (Nat.lt_of_lt_of_le (by have := World.block_lt_of_cell? _ _ hw123_0; first | rwa [add_block] at this | exact this) GW125.out))) _).trans (((cell_far (p := ⟨gb125, _, none⟩) (by first | exact Nat.ne_of_lt (Nat.lt_of_lt_of_le (by have := World.block_lt_of_cell? _ _ hw123_0; first | rwa [add_block] at this | exact this) GW125.out) | (rw [add_block]; exact Nat.ne_of_lt (Nat.lt_of_lt_of_le (by have := World.block_lt_of_cell? _ _ hw123_0; first | rwa [add_block] at this | exact this) GW125.out)) | (show (Addr.add _ _).block ≠ _; rw [add_block]; exact Nat.ne_of_lt (Nat.lt_of_lt_of_le (by have := World.block_lt_of_cell? _ _ hw123_0; first | rwa [add_block] at this | exact this) GW125.out)) | (dsimp only; exact Nat.ne_of_lt (Nat.lt_of_lt_of_le (by have := World.block_lt_of_cell? _ _ hw123_0; first | rwa [add_block] at this | exact this) GW125.out))) _).trans (((cell_far (p := ⟨gb125, _, none⟩) (by first | exact Nat.ne_of_lt (Nat.lt_of_lt_of_le (by have := World.block_lt_of_cell? _ _ hw123_0; first | rwa [add_block] at this | exact this) GW125.out) | (rw [add_block]; exact Nat.ne_of_lt (Nat.lt_of_lt_of_le (by have := World.block_lt_of_cell? _ _ hw123_0; first | rwa [add_block] at this | exact this) GW125.out)) | (show (Addr.add _ _).block ≠ _; rw [add_block]; exact Nat.ne_of_lt (Nat.lt_of_lt_of_le (by have := World.block_lt_of_cell? _ _ hw123_0; first | rwa [add_block] at this | exact this) GW125.out)) | (dsimp only; exact Nat.ne_of_lt (Nat.lt_of_lt_of_le (by have := World.block_lt_of_cell? _ _ hw123_0; first | rwa [add_block] at this | exact this) GW125.out))) _).trans (hHeld.2.2.2.1)))))), ((cell_far (p := ⟨gb125, _, none⟩) (by first | exact Nat.ne_of_lt (Nat.lt_of_lt_of_le (by have := World.block_lt_of_cell? _ _ hw123_1; first | rwa [add_block] at this | exact this) GW125.out) | (rw [add_block]; exact Nat.ne_of_lt (Nat.lt_of_lt_of_le (by have := World.block_lt_of_cell? _ _ hw123_1; first | rwa [add_block] at this | exact this) GW125.out)) | (show (Addr.add _ _).block ≠ _; rw [add_block]; exact Nat.ne_of_lt (Nat.lt_of_lt_of_le (by have := World.block_lt_of_cell? _ _ hw123_1; first | rwa [add_block] at this | exact this) GW125.out)) | (dsimp only; exact Nat.ne_of_lt (Nat.lt_of_lt_of_le (by have := World.block_lt_of_cell? _ _ hw123_1; first | rwa [add_block] at this | exact this) GW125.out))) _).trans (((cell_far (p := ⟨gb125, _, none⟩) (by first | exact Nat.ne_of_lt (Nat.lt_of_lt_of_le (by have := World.block_lt_of_cell? _ _ hw123_1; first | rwa [add_block] at this | exact this) GW125.out) | (rw [add_block]; exact Nat.ne_of_lt (Nat.lt_of_lt_of_le (by have := World.block_lt_of_cell? _ _ hw123_1; first | rwa [add_block] at this | exact this) GW125.out)) | (show (Addr.add _ _).block ≠ _; rw [add_block]; exact Nat.ne_of_lt (Nat.lt_of_lt_of_le (by have := World.block_lt_of_cell? _ _ hw123_1; first | rwa [add_block] at this | exact this) GW125.out)) | (dsimp only; exact Nat.ne_of_lt (Nat.lt_of_lt_of_le (by have := World.block_lt_of_cell? _ _ hw123_1; first | rwa [add_block] at this | exact this) GW125.out))) _).trans (((cell_far (p := ⟨gb125, _, none⟩) (by first | exact Nat.ne_of_lt (Nat.lt_of_lt_of_le (by have := World.block_lt_of_cell? _ _ hw123_1; first | rwa [add_block] at this | exact this) GW125.out) | (rw [add_block]; exact Nat.ne_of_lt (Nat.lt_of_lt_of_le (by have := World.block_lt_of_cell? _ _ hw123_1; first | rwa [add_block] at this | exact this) GW125.out)) | (show (Addr.add _ _).block ≠ _; rw [add_block]; exact Nat.ne_of_lt (Nat.lt_of_lt_of_le (by have := World.block_lt_of_cell? _ _ hw123_1; first | rwa [add_block] at this | exact this) GW125.out)) | (dsimp only; exact Nat.ne_of_lt (Nat.lt_of_lt_of_le (by have := World.block_lt_of_cell? _ _ hw123_1; first | rwa [add_block] at this | exact this) GW125.out))) _).trans (hHeld.2.2.2.2.1)))))), ((cell_far (p := ⟨gb125, _, none⟩) (by first | exact Nat.ne_of_lt (Nat.lt_of_lt_of_le (by have := World.block_lt_of_cell? _ _ hw123_2; first | rwa [add_block] at this | exact this) GW125.out) | (rw [add_block]; exact Nat.ne_of_lt (Nat.lt_of_lt_of_le (by have := World.block_lt_of_cell? _ _ hw123_2; first | rwa [add_block] at this | exact this) GW125.out)) | (show (Addr.add _ _).block ≠ _; rw [add_block]; exact Nat.ne_of_lt (Nat.lt_of_lt_of_le (by have := World.block_lt_of_cell? _ _ hw123_2; first | rwa [add_block] at this | exact this) GW125.out)) | (dsimp only; exact Nat.ne_of_lt (Nat.lt_of_lt_of_le (by have := World.block_lt_of_cell? _ _ hw123_2; first | rwa [add_block] at this | exact this) GW125.out))) _).trans (((cell_far (p := ⟨gb125, _, none⟩) (by first | exact Nat.ne_of_lt (Nat.lt_of_lt_of_le (by have := World.block_lt_of_cell? _ _ hw123_2; first | rwa [add_block] at this | exact this) GW125.out) | (rw [add_block]; exact Nat.ne_of_lt (Nat.lt_of_lt_of_le (by have := World.block_lt_of_cell? _ _ hw123_2; first | rwa [add_block] at this | exact this) GW125.out)) | (show (Addr.add _ _).block ≠ _; rw [add_block]; exact Nat.ne_of_lt (Nat.lt_of_lt_of_le (by have := World.block_lt_of_cell? _ _ hw123_2; first | rwa [add_block] at this | exact this) GW125.out)) | (dsimp only; exact Nat.ne_of_lt (Nat.lt_of_lt_of_le (by have := World.block_lt_of_cell? _ _ hw123_2; first | rwa [add_block] at this | exact this) GW125.out))) _).trans (((cell_far (p := ⟨gb125, _, none⟩) (by first | exact Nat.ne_of_lt (Nat.lt_of_lt_of_le (by have := World.block_lt_of_cell? _ _ hw123_2; first | rwa [add_block] at this | exact this) GW125.out) | (rw [add_block]; exact Nat.ne_of_lt (Nat.lt_of_lt_of_le (by have := World.block_lt_of_cell? _ _ hw123_2; first | rwa [add_block] at this | exact this) GW125.out)) | (show (Addr.add _ _).block ≠ _; rw [add_block]; exact Nat.ne_of_lt (Nat.lt_of_lt_of_le (by have := World.block_lt_of_cell? _ _ hw123_2; first | rwa [add_block] at this | exact this) GW125.out)) | (dsimp only; exact Nat.ne_of_lt (Nat.lt_of_lt_of_le (by have := World.block_lt_of_cell? _ _ hw123_2; first | rwa [add_block] at this | exact this) GW125.out))) _).trans (hHeld.2.2.2.2.2))))))⟩ (fun hHeld => ?_)
                        clear hK K
                        refine done_ (done_of HT_.out (by kernel_rfl)) ?_
                        have p126 : 0 ≤ (x7_2 : Int) := of_decide_eq_true (by first | (with_reducible assumption) | assumption)
                        have q126 : x7_2 < (l1.length : Int) := of_decide_eq_true (by first | (with_reducible assumption) | assumption)
                        obtain ⟨ad126, e126, hx126_0⟩ := Kd.at_bool HR1.out x7_2 p126 q126
                        (try rw [← Nbq12.out] at hx126_0)
                        cases e126
                        have hn126_0 : ad126.block ≠ gb124 := Nat.ne_of_lt (Nat.lt_of_lt_of_le (by have := World.block_lt_of_cell? _ _ hx126_0; first | rwa [add_block] at this | exact this) GW124.out)
                        have hn126_1 : ad126.block ≠ gb124 := Nat.ne_of_lt (Nat.lt_of_lt_of_le (by have := World.block_lt_of_cell? _ _ hx126_0; first | rwa [add_block] at this | exact this) GW124.out)
                        have hn126_2 : ad126.block ≠ gb124 := Nat.ne_of_lt (Nat.lt_of_lt_of_le (by have := World.block_lt_of_cell? _ _ hx126_0; first | rwa [add_block] at this | exact this) GW124.out)
                        have hn126_3 : ad126.block ≠ gb125 := Nat.ne_of_lt (Nat.lt_of_lt_of_le (by have := World.block_lt_of_cell? _ _ hx126_0; first | rwa [add_block] at this | exact this) GW125.out)
                        have hn126_4 : ad126.block ≠ gb125 := Nat.ne_of_lt (Nat.lt_of_lt_of_le (by have := World.block_lt_of_cell? _ _ hx126_0; first | rwa [add_block] at this | exact this) GW125.out)
                        have hn126_5 : ad126.block ≠ gb125 := Nat.ne_of_lt (Nat.lt_of_lt_of_le (by have := World.block_lt_of_cell? _ _ hx126_0; first | rwa [add_block] at this | exact this) GW125.out)
                        replace hx126_0 := (HB.out.cell (World.block_lt_of_cell? w _ hx126_0)).trans hx126_0
                        replace hx126_0 := (cell_far (p := ⟨gb124, 0, none⟩) (by first | (rw [add_block]; exact hn126_0) | (show (Addr.add _ _).block ≠ _; rw [add_block]; exact hn126_0) | exact hn126_0) (.int .i64 ((rd_T57 l0 x7_2).f0))).trans hx126_0
                        replace hx126_0 := (cell_far (p := ⟨gb124, 1, none⟩) (by first | (rw [add_block]; exact hn126_1) | (show (Addr.add _ _).block ≠ _; rw [add_block]; exact hn126_1) | exact hn126_1) (.int .i64 ((rd_T57 l0 x7_2).f1))).trans hx126_0
                        replace hx126_0 := (cell_far (p := ⟨gb124, 2, none⟩) (by first | (rw [add_block]; exact hn126_2) | (show (Addr.add _ _).block ≠ _; rw [add_block]; exact hn126_2) | exact hn126_2) (.int .i64 ((rd_T57 l0 x7_2).f2))).trans hx126_0
                        replace hx126_0 := (cell_far (p := ⟨gb125, 0, none⟩) (by first | (rw [add_block]; exact hn126_3) | (show (Addr.add _ _).block ≠ _; rw [add_block]; exact hn126_3) | exact hn126_3) (.int .i64 ((rd_T57 l0 (ji8)).f0))).trans hx126_0
                        replace hx126_0 := (cell_far (p := ⟨gb125, 1, none⟩) (by first | (rw [add_block]; exact hn126_4) | (show (Addr.add _ _).block ≠ _; rw [add_block]; exact hn126_4) | exact hn126_4) (.int .i64 ((rd_T57 l0 (ji8)).f1))).trans hx126_0
                        replace hx126_0 := (cell_far (p := ⟨gb125, 2, none⟩) (by first | (rw [add_block]; exact hn126_5) | (show (Addr.add _ _).block ≠ _; rw [add_block]; exact hn126_5) | exact hn126_5) (.int .i64 ((rd_T57 l0 (ji8)).f2))).trans hx126_0
                        clear hn126_0
                        clear hn126_1
                        clear hn126_2
                        clear hn126_3
                        clear hn126_4
                        clear hn126_5
                        replace p126 := eq_true p126
                        replace q126 := eq_true q126
                        try go_wp2
                        go_ret2
                        exact ⟨_, by first | rfl | (simp [errW_none, errW_some] <;> rfl) | (simp only [← hji8]; first | rfl | (simp [errW_none, errW_some] <;> rfl)) | (simp [*, errW_none, errW_some] <;> rfl), by first | exact Kd.R_nil _ _ _ _ _ | exact Kd.N_nil _ _ _ _ _ | exact Kd.V_nil _ _ _ _ _ | exact Kd.Q_nil _ _ _ _ _ | exact Kd.S_nil _ _ _ _ _, by repeat (first | (with_reducible first | exact HB.out | apply below_alloc | apply pw_below_drewN | apply below_drew1 | refine below_set ?_ GE124.out | refine below_set ?_ GE125.out) | exact HB.out)⟩
                      · replace c13 := Bool.eq_false_iff.mpr c13
                        subst c13
                        have H1 : (if (!(((rd_T57 l0 (ji8)).f0) == ((rd_T57 l0 x7_2).f0)) || (!(((rd_T57 l0 (ji8)).f2) == 0))) = true then (some (([] : List (S23)), 5)) else (if (ji8) < (l1.length : Int) then (if x6_2.length < 3518437208883 then (chg_Changes.l0 k2 l0 l1 (x6_2 ++ [(⟨(rd_T57 l0 x7_2).f0, (rd_T57 l0 x7_2).f2, (rd_T57 l0 x7_2).f1, (rd_T57 l0 (ji8)).f1, rdOf false l1 (ji8)⟩ : S23)]) (wrap64 (x7_2 + 2))) else (none)) else (none))) = some (r1, r2) := by rw [if_neg (show ¬ (false = true) by decide)] at H; exact H
                        clear H
                        have H := H1
                        clear H1
                        by_cases c24 : (!(((rd_T57 l0 (ji8)).f0) == ((rd_T57 l0 x7_2).f0)) || (!(((rd_T57 l0 (ji8)).f2) == 0))) = true
                        · rw [if_pos c24] at H
                          have c24b0 : (!(((rd_T57 l0 (ji8)).f0) == ((rd_T57 l0 x7_2).f0)) || (!(((rd_T57 l0 (ji8)).f2) == 0))) = true := c24
                          clear c24
                          simp only [Option.some.injEq, Prod.mk.injEq] at H
                          obtain ⟨rfl, rfl⟩ := H
                          try go_wp2
                          have n0_ := Aside0.mk (Kd.R_drew HO_6.out)
                          have n1_ := Aside0.mk (below_drew1 HB.out)
                          clear HO_6
                          clear HB
                          have HO_6 := n0_
                          have HB := n1_
                          clear n0_ n1_
                          have p122 : 0 ≤ (x7_2 : Int) := of_decide_eq_true (by first | (with_reducible assumption) | assumption)
                          have q122 : x7_2 < (l0.length : Int) := of_decide_eq_true (by first | (with_reducible assumption) | assumption)
                          obtain ⟨ad122, e122, hx122_0, hx122_1, hx122_2⟩ := at_T57 HR0.out x7_2 p122 q122
                          have hw122_2 := hx122_2
                          have hw122_1 := hx122_1
                          have hw122_0 := hx122_0
                          cases e122
                          replace hx122_0 := (HB.out.cell (World.block_lt_of_cell? w _ hx122_0)).trans hx122_0
                          replace hx122_1 := (HB.out.cell (World.block_lt_of_cell? w _ hx122_1)).trans hx122_1
                          replace hx122_2 := (HB.out.cell (World.block_lt_of_cell? w _ hx122_2)).trans hx122_2
                          replace p122 := eq_true p122
                          replace q122 := eq_true q122
                          have p123 : 0 ≤ ((ji8) : Int) := of_decide_eq_true (by first | (with_reducible assumption) | assumption)
                          have q123 : (ji8) < (l0.length : Int) := of_decide_eq_true (by first | (with_reducible assumption) | assumption)
                          obtain ⟨ad123, e123, hx123_0, hx123_1, hx123_2⟩ := at_T57 HR0.out (ji8) p123 q123
                          have hw123_2 := hx123_2
                          have hw123_1 := hx123_1
                          have hw123_0 := hx123_0
                          obtain rfl : ad122 = ad123 := (by injection e123)
                          replace hx123_0 := (HB.out.cell (World.block_lt_of_cell? w _ hx123_0)).trans hx123_0
                          replace hx123_1 := (HB.out.cell (World.block_lt_of_cell? w _ hx123_1)).trans hx123_1
                          replace hx123_2 := (HB.out.cell (World.block_lt_of_cell? w _ hx123_2)).trans hx123_2
                          replace p123 := eq_true p123
                          replace q123 := eq_true q123
                          refine start_ (n := 13) (S := fun w' => w'.cell? (ad122.add ((x7_2).toNat * 3)) = some (.int .i64 ((rd_T57 l0 x7_2).f0)) ∧ w'.cell? ⟨(ad122.add ((x7_2).toNat * 3)).block, (ad122.add ((x7_2).toNat * 3)).off + 1, none⟩ = some (.int .i64 ((rd_T57 l0 x7_2).f1)) ∧ w'.cell? ⟨(ad122.add ((x7_2).toNat * 3)).block, (ad122.add ((x7_2).toNat * 3)).off + 2, none⟩ = some (.int .i64 ((rd_T57 l0 x7_2).f2)) ∧ w'.cell? (ad122.add (((ji8)).toNat * 3)) = some (.int .i64 ((rd_T57 l0 (ji8)).f0)) ∧ w'.cell? ⟨(ad122.add (((ji8)).toNat * 3)).block, (ad122.add (((ji8)).toNat * 3)).off + 1, none⟩ = some (.int .i64 ((rd_T57 l0 (ji8)).f1)) ∧ w'.cell? ⟨(ad122.add (((ji8)).toNat * 3)).block, (ad122.add (((ji8)).toNat * 3)).off + 2, none⟩ = some (.int .i64 ((rd_T57 l0 (ji8)).f2))) (ds := []) #[false, false, false, false, false, false, false, false, false, false, false, false, false] (by kernel_rfl) rfl rfl ⟨((HB.out.cell (World.block_lt_of_cell? w _ hw122_0)).trans hw122_0), ((HB.out.cell (World.block_lt_of_cell? w _ hw122_1)).trans hw122_1), ((HB.out.cell (World.block_lt_of_cell? w _ hw122_2)).trans hw122_2), ((HB.out.cell (World.block_lt_of_cell? w _ hw123_0)).trans hw123_0), ((HB.out.cell (World.block_lt_of_cell? w _ hw123_1)).trans hw123_1), ((HB.out.cell (World.block_lt_of_cell? w _ hw123_2)).trans hw123_2)⟩ (fun hHeld => ?_); refine with_tabW chg_Changes.tab7 chg_Changes.bits7 (fun HT_ HW_ => ?_)
                          generalize wr.drew = w25 at HO_6 HB hx122_0 hx122_1 hx122_2 hx123_0 hx123_1 hx123_2 hHeld ⊢
                          refine pure_ (i := 0) (N := some 27) (v := ?_) (a' := ?_) #[true, false, false, false, false, false, false, false, false, false, false, false, false] rfl rfl (any_of HT_.out (by kernel_rfl)) (fun _ _ _ h => h) (Or.inl ⟨by rfl, ?_⟩) ?_ ?_
                          rotate_left
                          · intro w'
                            go_simp
                            with_reducible rfl
                          rotate_left
                          · simp only [Act.put, List.setIfInBounds_toArray, List.set_cons_zero, List.set_cons_succ, i64_w, i32_w]
                            rfl
                          refine pure_ (i := 1) (N := some 28) (v := ?_) (a' := ?_) #[true, true, false, false, false, false, false, false, false, false, false, false, false] rfl rfl (any_of HT_.out (by kernel_rfl)) (fun _ _ _ h => h) (Or.inl ⟨by rfl, ?_⟩) ?_ ?_
                          rotate_left
                          · intro w'
                            go_simp
                            with_reducible rfl
                          rotate_left
                          · simp only [Act.put, List.setIfInBounds_toArray, List.set_cons_zero, List.set_cons_succ, i64_w, i32_w]
                            rfl
                          refine pure_ (i := 2) (N := some 29) (v := ?_) (a' := ?_) #[true, true, true, false, false, false, false, false, false, false, false, false, false] rfl rfl (any_of HT_.out (by kernel_rfl)) (fun _ _ _ h => h) (Or.inl ⟨by rfl, ?_⟩) ?_ ?_
                          rotate_left
                          · intro w'
                            go_simp
                            with_reducible rfl
                          rotate_left
                          · simp only [Act.put, List.setIfInBounds_toArray, List.set_cons_zero, List.set_cons_succ, i64_w, i32_w]
                            rfl
                          refine pure_ (i := 4) (N := some 31) (v := ?_) (a' := ?_) #[true, true, true, false, true, false, false, false, false, false, false, false, false] rfl rfl (any_of HT_.out (by kernel_rfl)) (fun _ _ _ h => h) (Or.inl ⟨by rfl, ?_⟩) ?_ ?_
                          rotate_left
                          · intro w'
                            go_simp
                            with_reducible rfl
                          rotate_left
                          · simp only [Act.put, List.setIfInBounds_toArray, List.set_cons_zero, List.set_cons_succ, i64_w, i32_w]
                            rfl
                          refine pure_ (i := 5) (N := some 32) (v := ?_) (a' := ?_) #[true, true, true, false, true, true, false, false, false, false, false, false, false] rfl rfl (any_of HT_.out (by kernel_rfl)) (fun _ _ _ h => h) (Or.inl ⟨by rfl, ?_⟩) ?_ ?_
                          rotate_left
                          · intro w'
                            go_simp
                            with_reducible rfl
                          rotate_left
                          · simp only [Act.put, List.setIfInBounds_toArray, List.set_cons_zero, List.set_cons_succ, i64_w, i32_w]
                            rfl
                          refine pure_ (i := 6) (N := some 33) (v := ?_) (a' := ?_) #[true, true, true, false, true, true, true, false, false, false, false, false, false] rfl rfl (any_of HT_.out (by kernel_rfl)) (fun _ _ _ h => h) (Or.inl ⟨by rfl, ?_⟩) ?_ ?_
                          rotate_left
                          · intro w'
                            go_simp
                            with_reducible rfl
                          rotate_left
                          · simp only [Act.put, List.setIfInBounds_toArray, List.set_cons_zero, List.set_cons_succ, i64_w, i32_w]
                            rfl
                          refine pure_ (i := 7) (N := some 34) (v := ?_) (a' := ?_) #[true, true, true, false, true, true, true, true, false, false, false, false, false] rfl rfl (any_of HT_.out (by kernel_rfl)) (fun _ _ _ h => h) (Or.inl ⟨by rfl, ?_⟩) ?_ ?_
                          rotate_left
                          · intro w'
                            go_simp
                            with_reducible rfl
                          rotate_left
                          · simp only [Act.put, List.setIfInBounds_toArray, List.set_cons_zero, List.set_cons_succ, i64_w, i32_w]
                            rfl
                          refine take_ (i := 3) (N := some 30) (v := ?_) (a' := ?_) #[true, true, true, true, true, true, true, true, false, false, false, false, false] rfl rfl (take_ofW HT_.out HW_.out (by kernel_rfl)) (fun _ _ _ h => h) (Or.inl ⟨by rfl, ?_⟩) hHeld ?_ ?_
                          rotate_left
                          · rintro w' ⟨s0, s1, s2, s3, s4, s5⟩
                            go_simp
                            with_reducible rfl
                          rotate_left
                          · simp only [Act.put, List.setIfInBounds_toArray, List.set_cons_zero, List.set_cons_succ, i64_w, i32_w]
                            rfl
                          refine take_ (i := 8) (N := some 35) (v := ?_) (a' := ?_) #[true, true, true, true, true, true, true, true, true, false, false, false, false] rfl rfl (take_ofW HT_.out HW_.out (by kernel_rfl)) (fun _ _ _ h => h) (Or.inl ⟨by rfl, ?_⟩) hHeld ?_ ?_
                          rotate_left
                          · rintro w' ⟨s0, s1, s2, s3, s4, s5⟩
                            go_simp
                            with_reducible rfl
                          rotate_left
                          · simp only [Act.put, List.setIfInBounds_toArray, List.set_cons_zero, List.set_cons_succ, i64_w, i32_w]
                            rfl
                          refine join_ (σ := Nat × Nat) 2 #[true, true, true, true, true, true, true, true, true, true, true, false, false] (fun s_ => [(8, .pointer (some ⟨s_.1, 0, none⟩)), (9, .pointer (some ⟨s_.2, 0, none⟩))]) (fun s_ w' => (w'.cell? (ad122.add ((x7_2).toNat * 3)) = some (.int .i64 ((rd_T57 l0 x7_2).f0)) ∧ w'.cell? ⟨(ad122.add ((x7_2).toNat * 3)).block, (ad122.add ((x7_2).toNat * 3)).off + 1, none⟩ = some (.int .i64 ((rd_T57 l0 x7_2).f1)) ∧ w'.cell? ⟨(ad122.add ((x7_2).toNat * 3)).block, (ad122.add ((x7_2).toNat * 3)).off + 2, none⟩ = some (.int .i64 ((rd_T57 l0 x7_2).f2)) ∧ w'.cell? (ad122.add (((ji8)).toNat * 3)) = some (.int .i64 ((rd_T57 l0 (ji8)).f0)) ∧ w'.cell? ⟨(ad122.add (((ji8)).toNat * 3)).block, (ad122.add (((ji8)).toNat * 3)).off + 1, none⟩ = some (.int .i64 ((rd_T57 l0 (ji8)).f1)) ∧ w'.cell? ⟨(ad122.add (((ji8)).toNat * 3)).block, (ad122.add (((ji8)).toNat * 3)).off + 2, none⟩ = some (.int .i64 ((rd_T57 l0 (ji8)).f2))) ∧ (Kd.R k23 23 w' w.heap.size (fun _ => True) u6 x6_2) ∧ (w'.heap[s_.1]? = some (.cells #[.int .i64 0, .int .i64 0, .int .i64 0] 57 (0, 0))) ∧ (w'.heap[s_.2]? = some (.cells #[.int .i64 0, .int .i64 0, .int .i64 0] 57 (0, 0))) ∧ (w.heap.size ≤ s_.1) ∧ (w.heap.size ≤ s_.1) ∧ (s_.2 ≠ s_.1) ∧ (s_.1 ≠ s_.2) ∧ (w.heap.size ≤ s_.2) ∧ (w.heap.size ≤ s_.2) ∧ (Below w.heap.size w w')) ?_ ?_
                          rotate_left
                          · intro hCont
                            refine two_ (i := 9) (j := 10) (Ni := some 8) (Nj := some 9) #[true, true, true, true, true, true, true, true, true, true, false, false, false] #[true, true, true, true, true, true, true, true, true, false, true, false, false] rfl rfl rfl rfl (two_of HT_.out (by kernel_rfl)) (by decide) (by decide) (fun K hK => ?_) (fun K hK => ?_)
                            · skip
                              refine box_step ?hg (N := 8) ?hd (cs := #[.int .i64 0, .int .i64 0, .int .i64 0]) (t := 57) ?hr ?_; (case hd => rfl); (case hg => rfl); (case hr => first | (go_simp; done) | (go_simp; rfl))
                              intro gb124 hg w26 hbox hb
                              have n0_ := Aside0.mk (Kd.R_below (by (with_reducible repeat (first | apply Kd.R_alloc | apply Kd.R_drewN | apply Kd.R_drew)); exact HO_6.out) hb)
                              have n1_ := Aside0.mk (below_step (by repeat (first | (with_reducible first | exact HB.out | apply below_alloc | apply pw_below_drewN | apply below_drew1) | exact HB.out)) hb)
                              have n2_ := Aside0.mk (hbox)
                              have n3_ := Aside0.mk ((by rw [hg]; exact (below_size (by repeat (first | (with_reducible first | exact HB.out | apply below_alloc | apply pw_below_drewN | apply below_drew1) | exact HB.out))) : w.heap.size ≤ gb124))
                              have n4_ := Aside0.mk ((by rw [hg]; exact (below_size (by repeat (first | (with_reducible first | exact HB.out | apply below_alloc | apply pw_below_drewN | apply below_drew1) | exact HB.out))) : w.heap.size ≤ gb124))
                              clear HO_6
                              clear HB
                              have HO_6 := n0_
                              have HB := n1_
                              have BK124 := n2_
                              have GW124 := n3_
                              have GE124 := n4_
                              clear n0_ n1_ n2_ n3_ n4_
                              clear hb hbox hg
                              refine hK.out _ _ ⟨((HB.out.cell (World.block_lt_of_cell? w _ hw122_0)).trans hw122_0), ((HB.out.cell (World.block_lt_of_cell? w _ hw122_1)).trans hw122_1), ((HB.out.cell (World.block_lt_of_cell? w _ hw122_2)).trans hw122_2), ((HB.out.cell (World.block_lt_of_cell? w _ hw123_0)).trans hw123_0), ((HB.out.cell (World.block_lt_of_cell? w _ hw123_1)).trans hw123_1), ((HB.out.cell (World.block_lt_of_cell? w _ hw123_2)).trans hw123_2)⟩ (fun hHeld => ?_)
                              clear hK K
                              refine norm_ (a' := ?_) ?_ ?_
                              rotate_left
                              · show Act.put _ (some 8) _ = _
                                simp only [Act.put, List.setIfInBounds_toArray, List.set_cons_zero, List.set_cons_succ, i64_w, i32_w]
                                rfl
                              refine one_ (i := 10) (N := some 9) #[true, true, true, true, true, true, true, true, true, true, true, false, false] rfl rfl (one_of HT_.out (by kernel_rfl)) (by decide) (fun K hK => ?_)
                              refine box_step ?hg (N := 9) ?hd (cs := #[.int .i64 0, .int .i64 0, .int .i64 0]) (t := 57) ?hr ?_; (case hd => rfl); (case hg => rfl); (case hr => first | (go_simp; done) | (go_simp; rfl))
                              intro gb125 hg w27 hbox hb
                              have n0_ := Aside0.mk (Kd.R_below (by (with_reducible repeat (first | apply Kd.R_alloc | apply Kd.R_drewN | apply Kd.R_drew)); exact HO_6.out) hb)
                              have n1_ := Aside0.mk (blk_below (g := gb124) (o := .cells #[.int .i64 0, .int .i64 0, .int .i64 0] 57 (0, 0)) (by (with_reducible repeat (first | refine blk_drewN ?_ _ | refine blk_drew ?_ | refine blk_alloc ?_ _)); exact BK124.out) hb)
                              have n2_ := Aside0.mk (below_step (by repeat (first | (with_reducible first | exact HB.out | apply below_alloc | apply pw_below_drewN | apply below_drew1 | refine below_set ?_ GE124.out) | exact HB.out)) hb)
                              have n3_ := Aside0.mk (hbox)
                              have n4_ := Aside0.mk ((by rw [hg]; exact (below_size (by repeat (first | (with_reducible first | exact HB.out | apply below_alloc | apply pw_below_drewN | apply below_drew1 | refine below_set ?_ GE124.out) | exact HB.out))) : w.heap.size ≤ gb125))
                              have n5_ := Aside0.mk ((by rw [hg]; exact (below_size (by repeat (first | (with_reducible first | exact HB.out | apply below_alloc | apply pw_below_drewN | apply below_drew1 | refine below_set ?_ GE124.out) | exact HB.out))) : w.heap.size ≤ gb125))
                              have n6_ := Aside0.mk ((by rw [hg]; exact Nat.ne_of_lt (blk_lt (g := gb124) (o := .cells #[.int .i64 0, .int .i64 0, .int .i64 0] 57 (0, 0)) (by (with_reducible repeat (first | refine blk_drewN ?_ _ | refine blk_drew ?_ | refine blk_alloc ?_ _)); exact BK124.out)) : gb124 ≠ gb125))
                              have n7_ := Aside0.mk ((by rw [hg]; exact Nat.ne_of_gt (blk_lt (g := gb124) (o := .cells #[.int .i64 0, .int .i64 0, .int .i64 0] 57 (0, 0)) (by (with_reducible repeat (first | refine blk_drewN ?_ _ | refine blk_drew ?_ | refine blk_alloc ?_ _)); exact BK124.out)) : gb125 ≠ gb124))
                              clear HO_6
                              clear BK124
                              clear HB
                              have HO_6 := n0_
                              have BK124 := n1_
                              have HB := n2_
                              have BK125 := n3_
                              have GW125 := n4_
                              have GE125 := n5_
                              have NB124_125 := n6_
                              have NB125_124 := n7_
                              clear n0_ n1_ n2_ n3_ n4_ n5_ n6_ n7_
                              clear hb hbox hg
                              refine hK.out _ _ ⟨((HB.out.cell (World.block_lt_of_cell? w _ hw122_0)).trans hw122_0), ((HB.out.cell (World.block_lt_of_cell? w _ hw122_1)).trans hw122_1), ((HB.out.cell (World.block_lt_of_cell? w _ hw122_2)).trans hw122_2), ((HB.out.cell (World.block_lt_of_cell? w _ hw123_0)).trans hw123_0), ((HB.out.cell (World.block_lt_of_cell? w _ hw123_1)).trans hw123_1), ((HB.out.cell (World.block_lt_of_cell? w _ hw123_2)).trans hw123_2)⟩ (fun hHeld => ?_)
                              clear hK K
                              refine norm_ (a' := ?_) ?_ ?_
                              rotate_left
                              · show Act.put _ (some 9) _ = _
                                simp only [Act.put, List.setIfInBounds_toArray, List.set_cons_zero, List.set_cons_succ, i64_w, i32_w]
                                rfl
                              exact norm_ (by simp only [putAll, Act.put, List.setIfInBounds_toArray, List.set_cons_zero, List.set_cons_succ]) (hCont (gb124, gb125) _ ⟨hHeld, (by (with_reducible repeat (first | apply Kd.R_alloc | apply Kd.R_drewN | apply Kd.R_drew)); exact HO_6.out), (by (with_reducible repeat (first | refine blk_drewN ?_ _ | refine blk_drew ?_ | refine blk_alloc ?_ _)); exact BK124.out), (by (with_reducible repeat (first | refine blk_drewN ?_ _ | refine blk_drew ?_ | refine blk_alloc ?_ _)); exact BK125.out), GW124.out, GE124.out, NB125_124.out, NB124_125.out, GW125.out, GE125.out, (by repeat (first | (with_reducible first | exact HB.out | apply below_alloc | apply pw_below_drewN | apply below_drew1 | refine below_set ?_ GE124.out | refine below_set ?_ GE125.out) | exact HB.out))⟩)
                            · skip
                              refine box_step ?hg (N := 9) ?hd (cs := #[.int .i64 0, .int .i64 0, .int .i64 0]) (t := 57) ?hr ?_; (case hd => rfl); (case hg => rfl); (case hr => first | (go_simp; done) | (go_simp; rfl))
                              intro gb125 hg w26 hbox hb
                              have n0_ := Aside0.mk (Kd.R_below (by (with_reducible repeat (first | apply Kd.R_alloc | apply Kd.R_drewN | apply Kd.R_drew)); exact HO_6.out) hb)
                              have n1_ := Aside0.mk (below_step (by repeat (first | (with_reducible first | exact HB.out | apply below_alloc | apply pw_below_drewN | apply below_drew1) | exact HB.out)) hb)
                              have n2_ := Aside0.mk (hbox)
                              have n3_ := Aside0.mk ((by rw [hg]; exact (below_size (by repeat (first | (with_reducible first | exact HB.out | apply below_alloc | apply pw_below_drewN | apply below_drew1) | exact HB.out))) : w.heap.size ≤ gb125))
                              have n4_ := Aside0.mk ((by rw [hg]; exact (below_size (by repeat (first | (with_reducible first | exact HB.out | apply below_alloc | apply pw_below_drewN | apply below_drew1) | exact HB.out))) : w.heap.size ≤ gb125))
                              clear HO_6
                              clear HB
                              have HO_6 := n0_
                              have HB := n1_
                              have BK125 := n2_
                              have GW125 := n3_
                              have GE125 := n4_
                              clear n0_ n1_ n2_ n3_ n4_
                              clear hb hbox hg
                              refine hK.out _ _ ⟨((HB.out.cell (World.block_lt_of_cell? w _ hw122_0)).trans hw122_0), ((HB.out.cell (World.block_lt_of_cell? w _ hw122_1)).trans hw122_1), ((HB.out.cell (World.block_lt_of_cell? w _ hw122_2)).trans hw122_2), ((HB.out.cell (World.block_lt_of_cell? w _ hw123_0)).trans hw123_0), ((HB.out.cell (World.block_lt_of_cell? w _ hw123_1)).trans hw123_1), ((HB.out.cell (World.block_lt_of_cell? w _ hw123_2)).trans hw123_2)⟩ (fun hHeld => ?_)
                              clear hK K
                              refine norm_ (a' := ?_) ?_ ?_
                              rotate_left
                              · show Act.put _ (some 9) _ = _
                                simp only [Act.put, List.setIfInBounds_toArray, List.set_cons_zero, List.set_cons_succ, i64_w, i32_w]
                                rfl
                              refine one_ (i := 9) (N := some 8) #[true, true, true, true, true, true, true, true, true, true, true, false, false] rfl rfl (one_of HT_.out (by kernel_rfl)) (by decide) (fun K hK => ?_)
                              refine box_step ?hg (N := 8) ?hd (cs := #[.int .i64 0, .int .i64 0, .int .i64 0]) (t := 57) ?hr ?_; (case hd => rfl); (case hg => rfl); (case hr => first | (go_simp; done) | (go_simp; rfl))
                              intro gb124 hg w27 hbox hb
                              have n0_ := Aside0.mk (Kd.R_below (by (with_reducible repeat (first | apply Kd.R_alloc | apply Kd.R_drewN | apply Kd.R_drew)); exact HO_6.out) hb)
                              have n1_ := Aside0.mk (blk_below (g := gb125) (o := .cells #[.int .i64 0, .int .i64 0, .int .i64 0] 57 (0, 0)) (by (with_reducible repeat (first | refine blk_drewN ?_ _ | refine blk_drew ?_ | refine blk_alloc ?_ _)); exact BK125.out) hb)
                              have n2_ := Aside0.mk (below_step (by repeat (first | (with_reducible first | exact HB.out | apply below_alloc | apply pw_below_drewN | apply below_drew1 | refine below_set ?_ GE125.out) | exact HB.out)) hb)
                              have n3_ := Aside0.mk (hbox)
                              have n4_ := Aside0.mk ((by rw [hg]; exact (below_size (by repeat (first | (with_reducible first | exact HB.out | apply below_alloc | apply pw_below_drewN | apply below_drew1 | refine below_set ?_ GE125.out) | exact HB.out))) : w.heap.size ≤ gb124))
                              have n5_ := Aside0.mk ((by rw [hg]; exact (below_size (by repeat (first | (with_reducible first | exact HB.out | apply below_alloc | apply pw_below_drewN | apply below_drew1 | refine below_set ?_ GE125.out) | exact HB.out))) : w.heap.size ≤ gb124))
                              have n6_ := Aside0.mk ((by rw [hg]; exact Nat.ne_of_lt (blk_lt (g := gb125) (o := .cells #[.int .i64 0, .int .i64 0, .int .i64 0] 57 (0, 0)) (by (with_reducible repeat (first | refine blk_drewN ?_ _ | refine blk_drew ?_ | refine blk_alloc ?_ _)); exact BK125.out)) : gb125 ≠ gb124))
                              have n7_ := Aside0.mk ((by rw [hg]; exact Nat.ne_of_gt (blk_lt (g := gb125) (o := .cells #[.int .i64 0, .int .i64 0, .int .i64 0] 57 (0, 0)) (by (with_reducible repeat (first | refine blk_drewN ?_ _ | refine blk_drew ?_ | refine blk_alloc ?_ _)); exact BK125.out)) : gb124 ≠ gb125))
                              clear HO_6
                              clear BK125
                              clear HB
                              have HO_6 := n0_
                              have BK125 := n1_
                              have HB := n2_
                              have BK124 := n3_
                              have GW124 := n4_
                              have GE124 := n5_
                              have NB125_124 := n6_
                              have NB124_125 := n7_
                              clear n0_ n1_ n2_ n3_ n4_ n5_ n6_ n7_
                              clear hb hbox hg
                              refine hK.out _ _ ⟨((HB.out.cell (World.block_lt_of_cell? w _ hw122_0)).trans hw122_0), ((HB.out.cell (World.block_lt_of_cell? w _ hw122_1)).trans hw122_1), ((HB.out.cell (World.block_lt_of_cell? w _ hw122_2)).trans hw122_2), ((HB.out.cell (World.block_lt_of_cell? w _ hw123_0)).trans hw123_0), ((HB.out.cell (World.block_lt_of_cell? w _ hw123_1)).trans hw123_1), ((HB.out.cell (World.block_lt_of_cell? w _ hw123_2)).trans hw123_2)⟩ (fun hHeld => ?_)
                              clear hK K
                              refine norm_ (a' := ?_) ?_ ?_
                              rotate_left
                              · show Act.put _ (some 8) _ = _
                                simp only [Act.put, List.setIfInBounds_toArray, List.set_cons_zero, List.set_cons_succ, i64_w, i32_w]
                                rfl
                              exact norm_ (by simp only [putAll, Act.put, List.setIfInBounds_toArray, List.set_cons_zero, List.set_cons_succ]) (hCont (gb124, gb125) _ ⟨hHeld, (by (with_reducible repeat (first | apply Kd.R_alloc | apply Kd.R_drewN | apply Kd.R_drew)); exact HO_6.out), (by (with_reducible repeat (first | refine blk_drewN ?_ _ | refine blk_drew ?_ | refine blk_alloc ?_ _)); exact BK124.out), (by (with_reducible repeat (first | refine blk_drewN ?_ _ | refine blk_drew ?_ | refine blk_alloc ?_ _)); exact BK125.out), GW124.out, GE124.out, NB125_124.out, NB124_125.out, GW125.out, GE125.out, (by repeat (first | (with_reducible first | exact HB.out | apply below_alloc | apply pw_below_drewN | apply below_drew1 | refine below_set ?_ GE125.out | refine below_set ?_ GE124.out) | exact HB.out))⟩)
                          rintro ⟨gb124, gb125⟩ w28 ⟨hS_, h0_, h1_, h2_, h3_, h4_, h5_, h6_, h7_, h8_, h9_⟩
                          have n0_ : Aside0 (Kd.R k23 23 w28 w.heap.size (fun _ => True) u6 x6_2) := ⟨h0_⟩
                          have n1_ : Aside0 (w28.heap[gb124]? = some (.cells #[.int .i64 0, .int .i64 0, .int .i64 0] 57 (0, 0))) := ⟨h1_⟩
                          have n2_ : Aside0 (w28.heap[gb125]? = some (.cells #[.int .i64 0, .int .i64 0, .int .i64 0] 57 (0, 0))) := ⟨h2_⟩
                          have n3_ : Aside0 (w.heap.size ≤ gb124) := ⟨h3_⟩
                          have n4_ : Aside0 (w.heap.size ≤ gb124) := ⟨h4_⟩
                          have n5_ : Aside0 (gb125 ≠ gb124) := ⟨h5_⟩
                          have n6_ : Aside0 (gb124 ≠ gb125) := ⟨h6_⟩
                          have n7_ : Aside0 (w.heap.size ≤ gb125) := ⟨h7_⟩
                          have n8_ : Aside0 (w.heap.size ≤ gb125) := ⟨h8_⟩
                          have n9_ : Aside0 (Below w.heap.size w w28) := ⟨h9_⟩
                          clear HO_6
                          clear HB
                          clear h0_ h1_ h2_ h3_ h4_ h5_ h6_ h7_ h8_ h9_
                          have HO_6 := n0_
                          have BK124 := n1_
                          have BK125 := n2_
                          have GW124 := n3_
                          have GE124 := n4_
                          have NB125_124 := n5_
                          have NB124_125 := n6_
                          have GW125 := n7_
                          have GE125 := n8_
                          have HB := n9_
                          clear n0_ n1_ n2_ n3_ n4_ n5_ n6_ n7_ n8_ n9_
                          have hHeld : w28.cell? (ad122.add ((x7_2).toNat * 3)) = some (.int .i64 ((rd_T57 l0 x7_2).f0)) ∧ w28.cell? ⟨(ad122.add ((x7_2).toNat * 3)).block, (ad122.add ((x7_2).toNat * 3)).off + 1, none⟩ = some (.int .i64 ((rd_T57 l0 x7_2).f1)) ∧ w28.cell? ⟨(ad122.add ((x7_2).toNat * 3)).block, (ad122.add ((x7_2).toNat * 3)).off + 2, none⟩ = some (.int .i64 ((rd_T57 l0 x7_2).f2)) ∧ w28.cell? (ad122.add (((ji8)).toNat * 3)) = some (.int .i64 ((rd_T57 l0 (ji8)).f0)) ∧ w28.cell? ⟨(ad122.add (((ji8)).toNat * 3)).block, (ad122.add (((ji8)).toNat * 3)).off + 1, none⟩ = some (.int .i64 ((rd_T57 l0 (ji8)).f1)) ∧ w28.cell? ⟨(ad122.add (((ji8)).toNat * 3)).block, (ad122.add (((ji8)).toNat * 3)).off + 2, none⟩ = some (.int .i64 ((rd_T57 l0 (ji8)).f2)) := hS_
                          refine norm_ (a' := ?_) ?_ ?_
                          rotate_left
                          · simp only [putAll, Act.put, List.setIfInBounds_toArray, List.set_cons_zero, List.set_cons_succ]
                            rfl
                          refine one_ (i := 11) (N := none) #[true, true, true, true, true, true, true, true, true, true, true, true, false] rfl rfl (one_of HT_.out (by kernel_rfl)) (by decide) (fun K hK => ?_)
                          have hs29 : w28.cell? ⟨gb124, 0, none⟩ = some (.int .i64 0) := (blk_cell BK124.out 0).trans rfl
                          have hfs29 := blk_frozen BK124.out 0
                          have hns29_1 := NB125_124.out
                          have hms29_1 := NB124_125.out
                          have hs30 : w28.cell? ⟨gb124, 1, none⟩ = some (.int .i64 0) := (blk_cell BK124.out 1).trans rfl
                          have hfs30 := blk_frozen BK124.out 1
                          have hns30_1 := NB125_124.out
                          have hms30_1 := NB124_125.out
                          have hs31 : w28.cell? ⟨gb124, 2, none⟩ = some (.int .i64 0) := (blk_cell BK124.out 2).trans rfl
                          have hfs31 := blk_frozen BK124.out 2
                          have hns31_1 := NB125_124.out
                          have hms31_1 := NB124_125.out
                          refine skip_ (w1 := ?_) (by rfl) rfl ?_ ?_
                          rotate_left
                          · go_simp
                            rfl
                          refine hK.out _ _ ⟨((cell_far (p := ⟨gb124, _, none⟩) (by first | exact Nat.ne_of_lt (Nat.lt_of_lt_of_le (by have := World.block_lt_of_cell? _ _ hw122_0; first | rwa [add_block] at this | exact this) GW124.out) | (rw [add_block]; exact Nat.ne_of_lt (Nat.lt_of_lt_of_le (by have := World.block_lt_of_cell? _ _ hw122_0; first | rwa [add_block] at this | exact this) GW124.out)) | (show (Addr.add _ _).block ≠ _; rw [add_block]; exact Nat.ne_of_lt (Nat.lt_of_lt_of_le (by have := World.block_lt_of_cell? _ _ hw122_0; first | rwa [add_block] at this | exact this) GW124.out)) | (dsimp only; exact Nat.ne_of_lt (Nat.lt_of_lt_of_le (by have := World.block_lt_of_cell? _ _ hw122_0; first | rwa [add_block] at this | exact this) GW124.out))) _).trans (((cell_far (p := ⟨gb124, _, none⟩) (by first | exact Nat.ne_of_lt (Nat.lt_of_lt_of_le (by have := World.block_lt_of_cell? _ _ hw122_0; first | rwa [add_block] at this | exact this) GW124.out) | (rw [add_block]; exact Nat.ne_of_lt (Nat.lt_of_lt_of_le (by have := World.block_lt_of_cell? _ _ hw122_0; first | rwa [add_block] at this | exact this) GW124.out)) | (show (Addr.add _ _).block ≠ _; rw [add_block]; exact Nat.ne_of_lt (Nat.lt_of_lt_of_le (by have := World.block_lt_of_cell? _ _ hw122_0; first | rwa [add_block] at this | exact this) GW124.out)) | (dsimp only; exact Nat.ne_of_lt (Nat.lt_of_lt_of_le (by have := World.block_lt_of_cell? _ _ hw122_0; first | rwa [add_block] at this | exact this) GW124.out))) _).trans (((cell_far (p := ⟨gb124, _, none⟩) (by first | exact Nat.ne_of_lt (Nat.lt_of_lt_of_le (by have := World.block_lt_of_cell? _ _ hw122_0; first | rwa [add_block] at this | exact this) GW124.out) | (rw [add_block]; exact Nat.ne_of_lt (Nat.lt_of_lt_of_le (by have := World.block_lt_of_cell? _ _ hw122_0; first | rwa [add_block] at this | exact this) GW124.out)) | (show (Addr.add _ _).block ≠ _; rw [add_block]; exact Nat.ne_of_lt (Nat.lt_of_lt_of_le (by have := World.block_lt_of_cell? _ _ hw122_0; first | rwa [add_block] at this | exact this) GW124.out)) | (dsimp only; exact Nat.ne_of_lt (Nat.lt_of_lt_of_le (by have := World.block_lt_of_cell? _ _ hw122_0; first | rwa [add_block] at this | exact this) GW124.out))) _).trans (hHeld.1)))))), ((cell_far (p := ⟨gb124, _, none⟩) (by first | exact Nat.ne_of_lt (Nat.lt_of_lt_of_le (by have := World.block_lt_of_cell? _ _ hw122_1; first | rwa [add_block] at this | exact this) GW124.out) | (rw [add_block]; exact Nat.ne_of_lt (Nat.lt_of_lt_of_le (by have := World.block_lt_of_cell? _ _ hw122_1; first | rwa [add_block] at this | exact this) GW124.out)) | (show (Addr.add _ _).block ≠ _; rw [add_block]; exact Nat.ne_of_lt (Nat.lt_of_lt_of_le (by have := World.block_lt_of_cell? _ _ hw122_1; first | rwa [add_block] at this | exact this) GW124.out)) | (dsimp only; exact Nat.ne_of_lt (Nat.lt_of_lt_of_le (by have := World.block_lt_of_cell? _ _ hw122_1; first | rwa [add_block] at this | exact this) GW124.out))) _).trans (((cell_far (p := ⟨gb124, _, none⟩) (by first | exact Nat.ne_of_lt (Nat.lt_of_lt_of_le (by have := World.block_lt_of_cell? _ _ hw122_1; first | rwa [add_block] at this | exact this) GW124.out) | (rw [add_block]; exact Nat.ne_of_lt (Nat.lt_of_lt_of_le (by have := World.block_lt_of_cell? _ _ hw122_1; first | rwa [add_block] at this | exact this) GW124.out)) | (show (Addr.add _ _).block ≠ _; rw [add_block]; exact Nat.ne_of_lt (Nat.lt_of_lt_of_le (by have := World.block_lt_of_cell? _ _ hw122_1; first | rwa [add_block] at this | exact this) GW124.out)) | (dsimp only; exact Nat.ne_of_lt (Nat.lt_of_lt_of_le (by have := World.block_lt_of_cell? _ _ hw122_1; first | rwa [add_block] at this | exact this) GW124.out))) _).trans (((cell_far (p := ⟨gb124, _, none⟩) (by first | exact Nat.ne_of_lt (Nat.lt_of_lt_of_le (by have := World.block_lt_of_cell? _ _ hw122_1; first | rwa [add_block] at this | exact this) GW124.out) | (rw [add_block]; exact Nat.ne_of_lt (Nat.lt_of_lt_of_le (by have := World.block_lt_of_cell? _ _ hw122_1; first | rwa [add_block] at this | exact this) GW124.out)) | (show (Addr.add _ _).block ≠ _; rw [add_block]; exact Nat.ne_of_lt (Nat.lt_of_lt_of_le (by have := World.block_lt_of_cell? _ _ hw122_1; first | rwa [add_block] at this | exact this) GW124.out)) | (dsimp only; exact Nat.ne_of_lt (Nat.lt_of_lt_of_le (by have := World.block_lt_of_cell? _ _ hw122_1; first | rwa [add_block] at this | exact this) GW124.out))) _).trans (hHeld.2.1)))))), ((cell_far (p := ⟨gb124, _, none⟩) (by first | exact Nat.ne_of_lt (Nat.lt_of_lt_of_le (by have := World.block_lt_of_cell? _ _ hw122_2; first | rwa [add_block] at this | exact this) GW124.out) | (rw [add_block]; exact Nat.ne_of_lt (Nat.lt_of_lt_of_le (by have := World.block_lt_of_cell? _ _ hw122_2; first | rwa [add_block] at this | exact this) GW124.out)) | (show (Addr.add _ _).block ≠ _; rw [add_block]; exact Nat.ne_of_lt (Nat.lt_of_lt_of_le (by have := World.block_lt_of_cell? _ _ hw122_2; first | rwa [add_block] at this | exact this) GW124.out)) | (dsimp only; exact Nat.ne_of_lt (Nat.lt_of_lt_of_le (by have := World.block_lt_of_cell? _ _ hw122_2; first | rwa [add_block] at this | exact this) GW124.out))) _).trans (((cell_far (p := ⟨gb124, _, none⟩) (by first | exact Nat.ne_of_lt (Nat.lt_of_lt_of_le (by have := World.block_lt_of_cell? _ _ hw122_2; first | rwa [add_block] at this | exact this) GW124.out) | (rw [add_block]; exact Nat.ne_of_lt (Nat.lt_of_lt_of_le (by have := World.block_lt_of_cell? _ _ hw122_2; first | rwa [add_block] at this | exact this) GW124.out)) | (show (Addr.add _ _).block ≠ _; rw [add_block]; exact Nat.ne_of_lt (Nat.lt_of_lt_of_le (by have := World.block_lt_of_cell? _ _ hw122_2; first | rwa [add_block] at this | exact this) GW124.out)) | (dsimp only; exact Nat.ne_of_lt (Nat.lt_of_lt_of_le (by have := World.block_lt_of_cell? _ _ hw122_2; first | rwa [add_block] at this | exact this) GW124.out))) _).trans (((cell_far (p := ⟨gb124, _, none⟩) (by first | exact Nat.ne_of_lt (Nat.lt_of_lt_of_le (by have := World.block_lt_of_cell? _ _ hw122_2; first | rwa [add_block] at this | exact this) GW124.out) | (rw [add_block]; exact Nat.ne_of_lt (Nat.lt_of_lt_of_le (by have := World.block_lt_of_cell? _ _ hw122_2; first | rwa [add_block] at this | exact this) GW124.out)) | (show (Addr.add _ _).block ≠ _; rw [add_block]; exact Nat.ne_of_lt (Nat.lt_of_lt_of_le (by have := World.block_lt_of_cell? _ _ hw122_2; first | rwa [add_block] at this | exact this) GW124.out)) | (dsimp only; exact Nat.ne_of_lt (Nat.lt_of_lt_of_le (by have := World.block_lt_of_cell? _ _ hw122_2; first | rwa [add_block] at this | exact this) GW124.out))) _).trans (hHeld.2.2.1)))))), ((cell_far (p := ⟨gb124, _, none⟩) (by first | exact Nat.ne_of_lt (Nat.lt_of_lt_of_le (by have := World.block_lt_of_cell? _ _ hw123_0; first | rwa [add_block] at this | exact this) GW124.out) | (rw [add_block]; exact Nat.ne_of_lt (Nat.lt_of_lt_of_le (by have := World.block_lt_of_cell? _ _ hw123_0; first | rwa [add_block] at this | exact this) GW124.out)) | (show (Addr.add _ _).block ≠ _; rw [add_block]; exact Nat.ne_of_lt (Nat.lt_of_lt_of_le (by have := World.block_lt_of_cell? _ _ hw123_0; first | rwa [add_block] at this | exact this) GW124.out)) | (dsimp only; exact Nat.ne_of_lt (Nat.lt_of_lt_of_le (by have := World.block_lt_of_cell? _ _ hw123_0; first | rwa [add_block] at this | exact this) GW124.out))) _).trans (((cell_far (p := ⟨gb124, _, none⟩) (by first | exact Nat.ne_of_lt (Nat.lt_of_lt_of_le (by have := World.block_lt_of_cell? _ _ hw123_0; first | rwa [add_block] at this | exact this) GW124.out) | (rw [add_block]; exact Nat.ne_of_lt (Nat.lt_of_lt_of_le (by have := World.block_lt_of_cell? _ _ hw123_0; first | rwa [add_block] at this | exact this) GW124.out)) | (show (Addr.add _ _).block ≠ _; rw [add_block]; exact Nat.ne_of_lt (Nat.lt_of_lt_of_le (by have := World.block_lt_of_cell? _ _ hw123_0; first | rwa [add_block] at this | exact this) GW124.out)) | (dsimp only; exact Nat.ne_of_lt (Nat.lt_of_lt_of_le (by have := World.block_lt_of_cell? _ _ hw123_0; first | rwa [add_block] at this | exact this) GW124.out))) _).trans (((cell_far (p := ⟨gb124, _, none⟩) (by first | exact Nat.ne_of_lt (Nat.lt_of_lt_of_le (by have := World.block_lt_of_cell? _ _ hw123_0; first | rwa [add_block] at this | exact this) GW124.out) | (rw [add_block]; exact Nat.ne_of_lt (Nat.lt_of_lt_of_le (by have := World.block_lt_of_cell? _ _ hw123_0; first | rwa [add_block] at this | exact this) GW124.out)) | (show (Addr.add _ _).block ≠ _; rw [add_block]; exact Nat.ne_of_lt (Nat.lt_of_lt_of_le (by have := World.block_lt_of_cell? _ _ hw123_0; first | rwa [add_block] at this | exact this) GW124.out)) | (dsimp only; exact Nat.ne_of_lt (Nat.lt_of_lt_of_le (by have := World.block_lt_of_cell? _ _ hw123_0; first | rwa [add_block] at this | exact this) GW124.out))) _).trans (hHeld.2.2.2.1)))))), ((cell_far (p := ⟨gb124, _, none⟩) (by first | exact Nat.ne_of_lt (Nat.lt_of_lt_of_le (by have := World.block_lt_of_cell? _ _ hw123_1; first | rwa [add_block] at this | exact this) GW124.out) | (rw [add_block]; exact Nat.ne_of_lt (Nat.lt_of_lt_of_le (by have := World.block_lt_of_cell? _ _ hw123_1; first | rwa [add_block] at this | exact this) GW124.out)) | (show (Addr.add _ _).block ≠ _; rw [add_block]; exact Nat.ne_of_lt (Nat.lt_of_lt_of_le (by have := World.block_lt_of_cell? _ _ hw123_1; first | rwa [add_block] at this | exact this) GW124.out)) | (dsimp only; exact Nat.ne_of_lt (Nat.lt_of_lt_of_le (by have := World.block_lt_of_cell? _ _ hw123_1; first | rwa [add_block] at this | exact this) GW124.out))) _).trans (((cell_far (p := ⟨gb124, _, none⟩) (by first | exact Nat.ne_of_lt (Nat.lt_of_lt_of_le (by have := World.block_lt_of_cell? _ _ hw123_1; first | rwa [add_block] at this | exact this) GW124.out) | (rw [add_block]; exact Nat.ne_of_lt (Nat.lt_of_lt_of_le (by have := World.block_lt_of_cell? _ _ hw123_1; first | rwa [add_block] at this | exact this) GW124.out)) | (show (Addr.add _ _).block ≠ _; rw [add_block]; exact Nat.ne_of_lt (Nat.lt_of_lt_of_le (by have := World.block_lt_of_cell? _ _ hw123_1; first | rwa [add_block] at this | exact this) GW124.out)) | (dsimp only; exact Nat.ne_of_lt (Nat.lt_of_lt_of_le (by have := World.block_lt_of_cell? _ _ hw123_1; first | rwa [add_block] at this | exact this) GW124.out))) _).trans (((cell_far (p := ⟨gb124, _, none⟩) (by first | exact Nat.ne_of_lt (Nat.lt_of_lt_of_le (by have := World.block_lt_of_cell? _ _ hw123_1; first | rwa [add_block] at this | exact this) GW124.out) | (rw [add_block]; exact Nat.ne_of_lt (Nat.lt_of_lt_of_le (by have := World.block_lt_of_cell? _ _ hw123_1; first | rwa [add_block] at this | exact this) GW124.out)) | (show (Addr.add _ _).block ≠ _; rw [add_block]; exact Nat.ne_of_lt (Nat.lt_of_lt_of_le (by have := World.block_lt_of_cell? _ _ hw123_1; first | rwa [add_block] at this | exact this) GW124.out)) | (dsimp only; exact Nat.ne_of_lt (Nat.lt_of_lt_of_le (by have := World.block_lt_of_cell? _ _ hw123_1; first | rwa [add_block] at this | exact this) GW124.out))) _).trans (hHeld.2.2.2.2.1)))))), ((cell_far (p := ⟨gb124, _, none⟩) (by first | exact Nat.ne_of_lt (Nat.lt_of_lt_of_le (by have := World.block_lt_of_cell? _ _ hw123_2; first | rwa [add_block] at this | exact this) GW124.out) | (rw [add_block]; exact Nat.ne_of_lt (Nat.lt_of_lt_of_le (by have := World.block_lt_of_cell? _ _ hw123_2; first | rwa [add_block] at this | exact this) GW124.out)) | (show (Addr.add _ _).block ≠ _; rw [add_block]; exact Nat.ne_of_lt (Nat.lt_of_lt_of_le (by have := World.block_lt_of_cell? _ _ hw123_2; first | rwa [add_block] at this | exact this) GW124.out)) | (dsimp only; exact Nat.ne_of_lt (Nat.lt_of_lt_of_le (by have := World.block_lt_of_cell? _ _ hw123_2; first | rwa [add_block] at this | exact this) GW124.out))) _).trans (((cell_far (p := ⟨gb124, _, none⟩) (by first | exact Nat.ne_of_lt (Nat.lt_of_lt_of_le (by have := World.block_lt_of_cell? _ _ hw123_2; first | rwa [add_block] at this | exact this) GW124.out) | (rw [add_block]; exact Nat.ne_of_lt (Nat.lt_of_lt_of_le (by have := World.block_lt_of_cell? _ _ hw123_2; first | rwa [add_block] at this | exact this) GW124.out)) | (show (Addr.add _ _).block ≠ _; rw [add_block]; exact Nat.ne_of_lt (Nat.lt_of_lt_of_le (by have := World.block_lt_of_cell? _ _ hw123_2; first | rwa [add_block] at this | exact this) GW124.out)) | (dsimp only; exact Nat.ne_of_lt (Nat.lt_of_lt_of_le (by have := World.block_lt_of_cell? _ _ hw123_2; first | rwa [add_block] at this | exact this) GW124.out))) _).trans (((cell_far (p := ⟨gb124, _, none⟩) (by first | exact Nat.ne_of_lt (Nat.lt_of_lt_of_le (by have := World.block_lt_of_cell? _ _ hw123_2; first | rwa [add_block] at this | exact this) GW124.out) | (rw [add_block]; exact Nat.ne_of_lt (Nat.lt_of_lt_of_le (by have := World.block_lt_of_cell? _ _ hw123_2; first | rwa [add_block] at this | exact this) GW124.out)) | (show (Addr.add _ _).block ≠ _; rw [add_block]; exact Nat.ne_of_lt (Nat.lt_of_lt_of_le (by have := World.block_lt_of_cell? _ _ hw123_2; first | rwa [add_block] at this | exact this) GW124.out)) | (dsimp only; exact Nat.ne_of_lt (Nat.lt_of_lt_of_le (by have := World.block_lt_of_cell? _ _ hw123_2; first | rwa [add_block] at this | exact this) GW124.out))) _).trans (hHeld.2.2.2.2.2))))))⟩ (fun hHeld => ?_)
                          clear hK K
                          refine one_ (i := 12) (N := none) #[true, true, true, true, true, true, true, true, true, true, true, true, true] rfl rfl (one_of HT_.out (by kernel_rfl)) (by decide) (fun K hK => ?_)
                          have hs32 : w28.cell? ⟨gb125, 0, none⟩ = some (.int .i64 0) := (blk_cell BK125.out 0).trans rfl
                          have hfs32 := blk_frozen BK125.out 0
                          have hns32_0 := NB124_125.out
                          have hms32_0 := NB125_124.out
                          have hs33 : w28.cell? ⟨gb125, 1, none⟩ = some (.int .i64 0) := (blk_cell BK125.out 1).trans rfl
                          have hfs33 := blk_frozen BK125.out 1
                          have hns33_0 := NB124_125.out
                          have hms33_0 := NB125_124.out
                          have hs34 : w28.cell? ⟨gb125, 2, none⟩ = some (.int .i64 0) := (blk_cell BK125.out 2).trans rfl
                          have hfs34 := blk_frozen BK125.out 2
                          have hns34_0 := NB124_125.out
                          have hms34_0 := NB125_124.out
                          refine skip_ (w1 := ?_) (by rfl) rfl ?_ ?_
                          rotate_left
                          · go_simp
                            rfl
                          refine hK.out _ _ ⟨((cell_far (p := ⟨gb125, _, none⟩) (by first | exact Nat.ne_of_lt (Nat.lt_of_lt_of_le (by have := World.block_lt_of_cell? _ _ hw122_0; first | rwa [add_block] at this | exact this) GW125.out) | (rw [add_block]; exact Nat.ne_of_lt (Nat.lt_of_lt_of_le (by have := World.block_lt_of_cell? _ _ hw122_0; first | rwa [add_block] at this | exact this) GW125.out)) | (show (Addr.add _ _).block ≠ _; rw [add_block]; exact Nat.ne_of_lt (Nat.lt_of_lt_of_le (by have := World.block_lt_of_cell? _ _ hw122_0; first | rwa [add_block] at this | exact this) GW125.out)) | (dsimp only; exact Nat.ne_of_lt (Nat.lt_of_lt_of_le (by have := World.block_lt_of_cell? _ _ hw122_0; first | rwa [add_block] at this | exact this) GW125.out))) _).trans (((cell_far (p := ⟨gb125, _, none⟩) (by first | exact Nat.ne_of_lt (Nat.lt_of_lt_of_le (by have := World.block_lt_of_cell? _ _ hw122_0; first | rwa [add_block] at this | exact this) GW125.out) | (rw [add_block]; exact Nat.ne_of_lt (Nat.lt_of_lt_of_le (by have := World.block_lt_of_cell? _ _ hw122_0; first | rwa [add_block] at this | exact this) GW125.out)) | (show (Addr.add _ _).block ≠ _; rw [add_block]; exact Nat.ne_of_lt (Nat.lt_of_lt_of_le (by have := World.block_lt_of_cell? _ _ hw122_0; first | rwa [add_block] at this | exact this) GW125.out)) | (dsimp only; exact Nat.ne_of_lt (Nat.lt_of_lt_of_le (by have := World.block_lt_of_cell? _ _ hw122_0; first | rwa [add_block] at this | exact this) GW125.out))) _).trans (((cell_far (p := ⟨gb125, _, none⟩) (by first | exact Nat.ne_of_lt (Nat.lt_of_lt_of_le (by have := World.block_lt_of_cell? _ _ hw122_0; first | rwa [add_block] at this | exact this) GW125.out) | (rw [add_block]; exact Nat.ne_of_lt (Nat.lt_of_lt_of_le (by have := World.block_lt_of_cell? _ _ hw122_0; first | rwa [add_block] at this | exact this) GW125.out)) | (show (Addr.add _ _).block ≠ _; rw [add_block]; exact Nat.ne_of_lt (Nat.lt_of_lt_of_le (by have := World.block_lt_of_cell? _ _ hw122_0; first | rwa [add_block] at this | exact this) GW125.out)) | (dsimp only; exact Nat.ne_of_lt (Nat.lt_of_lt_of_le (by have := World.block_lt_of_cell? _ _ hw122_0; first | rwa [add_block] at this | exact this) GW125.out))) _).trans (hHeld.1)))))), ((cell_far (p := ⟨gb125, _, none⟩) (by first | exact Nat.ne_of_lt (Nat.lt_of_lt_of_le (by have := World.block_lt_of_cell? _ _ hw122_1; first | rwa [add_block] at this | exact this) GW125.out) | (rw [add_block]; exact Nat.ne_of_lt (Nat.lt_of_lt_of_le (by have := World.block_lt_of_cell? _ _ hw122_1; first | rwa [add_block] at this | exact this) GW125.out)) | (show (Addr.add _ _).block ≠ _; rw [add_block]; exact Nat.ne_of_lt (Nat.lt_of_lt_of_le (by have := World.block_lt_of_cell? _ _ hw122_1; first | rwa [add_block] at this | exact this) GW125.out)) | (dsimp only; exact Nat.ne_of_lt (Nat.lt_of_lt_of_le (by have := World.block_lt_of_cell? _ _ hw122_1; first | rwa [add_block] at this | exact this) GW125.out))) _).trans (((cell_far (p := ⟨gb125, _, none⟩) (by first | exact Nat.ne_of_lt (Nat.lt_of_lt_of_le (by have := World.block_lt_of_cell? _ _ hw122_1; first | rwa [add_block] at this | exact this) GW125.out) | (rw [add_block]; exact Nat.ne_of_lt (Nat.lt_of_lt_of_le (by have := World.block_lt_of_cell? _ _ hw122_1; first | rwa [add_block] at this | exact this) GW125.out)) | (show (Addr.add _ _).block ≠ _; rw [add_block]; exact Nat.ne_of_lt (Nat.lt_of_lt_of_le (by have := World.block_lt_of_cell? _ _ hw122_1; first | rwa [add_block] at this | exact this) GW125.out)) | (dsimp only; exact Nat.ne_of_lt (Nat.lt_of_lt_of_le (by have := World.block_lt_of_cell? _ _ hw122_1; first | rwa [add_block] at this | exact this) GW125.out))) _).trans (((cell_far (p := ⟨gb125, _, none⟩) (by first | exact Nat.ne_of_lt (Nat.lt_of_lt_of_le (by have := World.block_lt_of_cell? _ _ hw122_1; first | rwa [add_block] at this | exact this) GW125.out) | (rw [add_block]; exact Nat.ne_of_lt (Nat.lt_of_lt_of_le (by have := World.block_lt_of_cell? _ _ hw122_1; first | rwa [add_block] at this | exact this) GW125.out)) | (show (Addr.add _ _).block ≠ _; rw [add_block]; exact Nat.ne_of_lt (Nat.lt_of_lt_of_le (by have := World.block_lt_of_cell? _ _ hw122_1; first | rwa [add_block] at this | exact this) GW125.out)) | (dsimp only; exact Nat.ne_of_lt (Nat.lt_of_lt_of_le (by have := World.block_lt_of_cell? _ _ hw122_1; first | rwa [add_block] at this | exact this) GW125.out))) _).trans (hHeld.2.1)))))), ((cell_far (p := ⟨gb125, _, none⟩) (by first | exact Nat.ne_of_lt (Nat.lt_of_lt_of_le (by have := World.block_lt_of_cell? _ _ hw122_2; first | rwa [add_block] at this | exact this) GW125.out) | (rw [add_block]; exact Nat.ne_of_lt (Nat.lt_of_lt_of_le (by have := World.block_lt_of_cell? _ _ hw122_2; first | rwa [add_block] at this | exact this) GW125.out)) | (show (Addr.add _ _).block ≠ _; rw [add_block]; exact Nat.ne_of_lt (Nat.lt_of_lt_of_le (by have := World.block_lt_of_cell? _ _ hw122_2; first | rwa [add_block] at this | exact this) GW125.out)) | (dsimp only; exact Nat.ne_of_lt (Nat.lt_of_lt_of_le (by have := World.block_lt_of_cell? _ _ hw122_2; first | rwa [add_block] at this | exact this) GW125.out))) _).trans (((cell_far (p := ⟨gb125, _, none⟩) (by first | exact Nat.ne_of_lt (Nat.lt_of_lt_of_le (by have := World.block_lt_of_cell? _ _ hw122_2; first | rwa [add_block] at this | exact this) GW125.out) | (rw [add_block]; exact Nat.ne_of_lt (Nat.lt_of_lt_of_le (by have := World.block_lt_of_cell? _ _ hw122_2; first | rwa [add_block] at this | exact this) GW125.out)) | (show (Addr.add _ _).block ≠ _; rw [add_block]; exact Nat.ne_of_lt (Nat.lt_of_lt_of_le (by have := World.block_lt_of_cell? _ _ hw122_2; first | rwa [add_block] at this | exact this) GW125.out)) | (dsimp only; exact Nat.ne_of_lt (Nat.lt_of_lt_of_le (by have := World.block_lt_of_cell? _ _ hw122_2; first | rwa [add_block] at this | exact this) GW125.out))) _).trans (((cell_far (p := ⟨gb125, _, none⟩) (by first | exact Nat.ne_of_lt (Nat.lt_of_lt_of_le (by have := World.block_lt_of_cell? _ _ hw122_2; first | rwa [add_block] at this | exact this) GW125.out) | (rw [add_block]; exact Nat.ne_of_lt (Nat.lt_of_lt_of_le (by have := World.block_lt_of_cell? _ _ hw122_2; first | rwa [add_block] at this | exact this) GW125.out)) | (show (Addr.add _ _).block ≠ _; rw [add_block]; exact Nat.ne_of_lt (Nat.lt_of_lt_of_le (by have := World.block_lt_of_cell? _ _ hw122_2; first | rwa [add_block] at this | exact this) GW125.out)) | (dsimp only; exact Nat.ne_of_lt (Nat.lt_of_lt_of_le (by have := World.block_lt_of_cell? _ _ hw122_2; first | rwa [add_block] at this | exact this) GW125.out))) _).trans (hHeld.2.2.1)))))), ((cell_far (p := ⟨gb125, _, none⟩) (by first | exact Nat.ne_of_lt (Nat.lt_of_lt_of_le (by have := World.block_lt_of_cell? _ _ hw123_0; first | rwa [add_block] at this | exact this) GW125.out) | (rw [add_block]; exact Nat.ne_of_lt (Nat.lt_of_lt_of_le (by have := World.block_lt_of_cell? _ _ hw123_0; first | rwa [add_block] at this | exact this) GW125.out)) | (show (Addr.add _ _).block ≠ _; rw [add_block]; exact Nat.ne_of_lt (Nat.lt_of_lt_of_le (by have := World.block_lt_of_cell? _ _ hw123_0; first | rwa [add_block] at this | exact this) GW125.out)) | (dsimp only; exact Nat.ne_of_lt (Nat.lt_of_lt_of_le (by have := World.block_lt_of_cell? _ _ hw123_0; first | rwa [add_block] at this | exact this) GW125.out))) _).trans (((cell_far (p := ⟨gb125, _, none⟩) (by first | exact Nat.ne_of_lt (Nat.lt_of_lt_of_le (by have := World.block_lt_of_cell? _ _ hw123_0; first | rwa [add_block] at this | exact this) GW125.out) | (rw [add_block]; exact Nat.ne_of_lt (Nat.lt_of_lt_of_le (by have := World.block_lt_of_cell? _ _ hw123_0; first | rwa [add_block] at this | exact this) GW125.out)) | (show (Addr.add _ _).block ≠ _; rw [add_block]; exact Nat.ne_of_lt (Nat.lt_of_lt_of_le (by have := World.block_lt_of_cell? _ _ hw123_0; first | rwa [add_block] at this | exact this) GW125.out)) | (dsimp only; exact Nat.ne_of_lt (Nat.lt_of_lt_of_le (by have := World.block_lt_of_cell? _ _ hw123_0; first | rwa [add_block] at this | exact this) GW125.out))) _).trans (((cell_far (p := ⟨gb125, _, none⟩) (by first | exact Nat.ne_of_lt (Nat.lt_of_lt_of_le (by have := World.block_lt_of_cell? _ _ hw123_0; first | rwa [add_block] at this | exact this) GW125.out) | (rw [add_block]; exact Nat.ne_of_lt (Nat.lt_of_lt_of_le (by have := World.block_lt_of_cell? _ _ hw123_0; first | rwa [add_block] at this | exact this) GW125.out)) | (show (Addr.add _ _).block ≠ _; rw [add_block]; exact Nat.ne_of_lt (Nat.lt_of_lt_of_le (by have := World.block_lt_of_cell? _ _ hw123_0; first | rwa [add_block] at this | exact this) GW125.out)) | (dsimp only; exact Nat.ne_of_lt (Nat.lt_of_lt_of_le (by have := World.block_lt_of_cell? _ _ hw123_0; first | rwa [add_block] at this | exact this) GW125.out))) _).trans (hHeld.2.2.2.1)))))), ((cell_far (p := ⟨gb125, _, none⟩) (by first | exact Nat.ne_of_lt (Nat.lt_of_lt_of_le (by have := World.block_lt_of_cell? _ _ hw123_1; first | rwa [add_block] at this | exact this) GW125.out) | (rw [add_block]; exact Nat.ne_of_lt (Nat.lt_of_lt_of_le (by have := World.block_lt_of_cell? _ _ hw123_1; first | rwa [add_block] at this | exact this) GW125.out)) | (show (Addr.add _ _).block ≠ _; rw [add_block]; exact Nat.ne_of_lt (Nat.lt_of_lt_of_le (by have := World.block_lt_of_cell? _ _ hw123_1; first | rwa [add_block] at this | exact this) GW125.out)) | (dsimp only; exact Nat.ne_of_lt (Nat.lt_of_lt_of_le (by have := World.block_lt_of_cell? _ _ hw123_1; first | rwa [add_block] at this | exact this) GW125.out))) _).trans (((cell_far (p := ⟨gb125, _, none⟩) (by first | exact Nat.ne_of_lt (Nat.lt_of_lt_of_le (by have := World.block_lt_of_cell? _ _ hw123_1; first | rwa [add_block] at this | exact this) GW125.out) | (rw [add_block]; exact Nat.ne_of_lt (Nat.lt_of_lt_of_le (by have := World.block_lt_of_cell? _ _ hw123_1; first | rwa [add_block] at this | exact this) GW125.out)) | (show (Addr.add _ _).block ≠ _; rw [add_block]; exact Nat.ne_of_lt (Nat.lt_of_lt_of_le (by have := World.block_lt_of_cell? _ _ hw123_1; first | rwa [add_block] at this | exact this) GW125.out)) | (dsimp only; exact Nat.ne_of_lt (Nat.lt_of_lt_of_le (by have := World.block_lt_of_cell? _ _ hw123_1; first | rwa [add_block] at this | exact this) GW125.out))) _).trans (((cell_far (p := ⟨gb125, _, none⟩) (by first | exact Nat.ne_of_lt (Nat.lt_of_lt_of_le (by have := World.block_lt_of_cell? _ _ hw123_1; first | rwa [add_block] at this | exact this) GW125.out) | (rw [add_block]; exact Nat.ne_of_lt (Nat.lt_of_lt_of_le (by have := World.block_lt_of_cell? _ _ hw123_1; first | rwa [add_block] at this | exact this) GW125.out)) | (show (Addr.add _ _).block ≠ _; rw [add_block]; exact Nat.ne_of_lt (Nat.lt_of_lt_of_le (by have := World.block_lt_of_cell? _ _ hw123_1; first | rwa [add_block] at this | exact this) GW125.out)) | (dsimp only; exact Nat.ne_of_lt (Nat.lt_of_lt_of_le (by have := World.block_lt_of_cell? _ _ hw123_1; first | rwa [add_block] at this | exact this) GW125.out))) _).trans (hHeld.2.2.2.2.1)))))), ((cell_far (p := ⟨gb125, _, none⟩) (by first | exact Nat.ne_of_lt (Nat.lt_of_lt_of_le (by have := World.block_lt_of_cell? _ _ hw123_2; first | rwa [add_block] at this | exact this) GW125.out) | (rw [add_block]; exact Nat.ne_of_lt (Nat.lt_of_lt_of_le (by have := World.block_lt_of_cell? _ _ hw123_2; first | rwa [add_block] at this | exact this) GW125.out)) | (show (Addr.add _ _).block ≠ _; rw [add_block]; exact Nat.ne_of_lt (Nat.lt_of_lt_of_le (by have := World.block_lt_of_cell? _ _ hw123_2; first | rwa [add_block] at this | exact this) GW125.out)) | (dsimp only; exact Nat.ne_of_lt (Nat.lt_of_lt_of_le (by have := World.block_lt_of_cell? _ _ hw123_2; first | rwa [add_block] at this | exact this) GW125.out))) _).trans (((cell_far (p := ⟨gb125, _, none⟩) (by first | exact Nat.ne_of_lt (Nat.lt_of_lt_of_le (by have := World.block_lt_of_cell? _ _ hw123_2; first | rwa [add_block] at this | exact this) GW125.out) | (rw [add_block]; exact Nat.ne_of_lt (Nat.lt_of_lt_of_le (by have := World.block_lt_of_cell? _ _ hw123_2; first | rwa [add_block] at this | exact this) GW125.out)) | (show (Addr.add _ _).block ≠ _; rw [add_block]; exact Nat.ne_of_lt (Nat.lt_of_lt_of_le (by have := World.block_lt_of_cell? _ _ hw123_2; first | rwa [add_block] at this | exact this) GW125.out)) | (dsimp only; exact Nat.ne_of_lt (Nat.lt_of_lt_of_le (by have := World.block_lt_of_cell? _ _ hw123_2; first | rwa [add_block] at this | exact this) GW125.out))) _).trans (((cell_far (p := ⟨gb125, _, none⟩) (by first | exact Nat.ne_of_lt (Nat.lt_of_lt_of_le (by have := World.block_lt_of_cell? _ _ hw123_2; first | rwa [add_block] at this | exact this) GW125.out) | (rw [add_block]; exact Nat.ne_of_lt (Nat.lt_of_lt_of_le (by have := World.block_lt_of_cell? _ _ hw123_2; first | rwa [add_block] at this | exact this) GW125.out)) | (show (Addr.add _ _).block ≠ _; rw [add_block]; exact Nat.ne_of_lt (Nat.lt_of_lt_of_le (by have := World.block_lt_of_cell? _ _ hw123_2; first | rwa [add_block] at this | exact this) GW125.out)) | (dsimp only; exact Nat.ne_of_lt (Nat.lt_of_lt_of_le (by have := World.block_lt_of_cell? _ _ hw123_2; first | rwa [add_block] at this | exact this) GW125.out))) _).trans (hHeld.2.2.2.2.2))))))⟩ (fun hHeld => ?_)
                          clear hK K
                          refine done_ (done_of HT_.out (by kernel_rfl)) ?_
                          have p126 : 0 ≤ (x7_2 : Int) := of_decide_eq_true (by first | (with_reducible assumption) | assumption)
                          have q126 : x7_2 < (l1.length : Int) := of_decide_eq_true (by first | (with_reducible assumption) | assumption)
                          obtain ⟨ad126, e126, hx126_0⟩ := Kd.at_bool HR1.out x7_2 p126 q126
                          (try rw [← Nbq12.out] at hx126_0)
                          cases e126
                          have hn126_0 : ad126.block ≠ gb124 := Nat.ne_of_lt (Nat.lt_of_lt_of_le (by have := World.block_lt_of_cell? _ _ hx126_0; first | rwa [add_block] at this | exact this) GW124.out)
                          have hn126_1 : ad126.block ≠ gb124 := Nat.ne_of_lt (Nat.lt_of_lt_of_le (by have := World.block_lt_of_cell? _ _ hx126_0; first | rwa [add_block] at this | exact this) GW124.out)
                          have hn126_2 : ad126.block ≠ gb124 := Nat.ne_of_lt (Nat.lt_of_lt_of_le (by have := World.block_lt_of_cell? _ _ hx126_0; first | rwa [add_block] at this | exact this) GW124.out)
                          have hn126_3 : ad126.block ≠ gb125 := Nat.ne_of_lt (Nat.lt_of_lt_of_le (by have := World.block_lt_of_cell? _ _ hx126_0; first | rwa [add_block] at this | exact this) GW125.out)
                          have hn126_4 : ad126.block ≠ gb125 := Nat.ne_of_lt (Nat.lt_of_lt_of_le (by have := World.block_lt_of_cell? _ _ hx126_0; first | rwa [add_block] at this | exact this) GW125.out)
                          have hn126_5 : ad126.block ≠ gb125 := Nat.ne_of_lt (Nat.lt_of_lt_of_le (by have := World.block_lt_of_cell? _ _ hx126_0; first | rwa [add_block] at this | exact this) GW125.out)
                          replace hx126_0 := (HB.out.cell (World.block_lt_of_cell? w _ hx126_0)).trans hx126_0
                          replace hx126_0 := (cell_far (p := ⟨gb124, 0, none⟩) (by first | (rw [add_block]; exact hn126_0) | (show (Addr.add _ _).block ≠ _; rw [add_block]; exact hn126_0) | exact hn126_0) (.int .i64 ((rd_T57 l0 x7_2).f0))).trans hx126_0
                          replace hx126_0 := (cell_far (p := ⟨gb124, 1, none⟩) (by first | (rw [add_block]; exact hn126_1) | (show (Addr.add _ _).block ≠ _; rw [add_block]; exact hn126_1) | exact hn126_1) (.int .i64 ((rd_T57 l0 x7_2).f1))).trans hx126_0
                          replace hx126_0 := (cell_far (p := ⟨gb124, 2, none⟩) (by first | (rw [add_block]; exact hn126_2) | (show (Addr.add _ _).block ≠ _; rw [add_block]; exact hn126_2) | exact hn126_2) (.int .i64 ((rd_T57 l0 x7_2).f2))).trans hx126_0
                          replace hx126_0 := (cell_far (p := ⟨gb125, 0, none⟩) (by first | (rw [add_block]; exact hn126_3) | (show (Addr.add _ _).block ≠ _; rw [add_block]; exact hn126_3) | exact hn126_3) (.int .i64 ((rd_T57 l0 (ji8)).f0))).trans hx126_0
                          replace hx126_0 := (cell_far (p := ⟨gb125, 1, none⟩) (by first | (rw [add_block]; exact hn126_4) | (show (Addr.add _ _).block ≠ _; rw [add_block]; exact hn126_4) | exact hn126_4) (.int .i64 ((rd_T57 l0 (ji8)).f1))).trans hx126_0
                          replace hx126_0 := (cell_far (p := ⟨gb125, 2, none⟩) (by first | (rw [add_block]; exact hn126_5) | (show (Addr.add _ _).block ≠ _; rw [add_block]; exact hn126_5) | exact hn126_5) (.int .i64 ((rd_T57 l0 (ji8)).f2))).trans hx126_0
                          clear hn126_0
                          clear hn126_1
                          clear hn126_2
                          clear hn126_3
                          clear hn126_4
                          clear hn126_5
                          replace p126 := eq_true p126
                          replace q126 := eq_true q126
                          have hnb35 := NB125_124.out
                          have hnc35 := NB124_125.out
                          have hcz36_0 : w28.cell? ⟨gb125, 0, none⟩ = some (.int .i64 0) := (blk_cell BK125.out 0).trans rfl
                          have hcz36_1 : w28.cell? ⟨gb125, 1, none⟩ = some (.int .i64 0) := (blk_cell BK125.out 1).trans rfl
                          have hcz36_2 : w28.cell? ⟨gb125, 2, none⟩ = some (.int .i64 0) := (blk_cell BK125.out 2).trans rfl
                          have hfz36_0 := blk_frozen BK125.out 0
                          have hfz36_1 := blk_frozen BK125.out 1
                          have hfz36_2 := blk_frozen BK125.out 2
                          have hcz37_0 : w28.cell? ⟨gb124, 0, none⟩ = some (.int .i64 0) := (blk_cell BK124.out 0).trans rfl
                          have hcz37_1 : w28.cell? ⟨gb124, 1, none⟩ = some (.int .i64 0) := (blk_cell BK124.out 1).trans rfl
                          have hcz37_2 : w28.cell? ⟨gb124, 2, none⟩ = some (.int .i64 0) := (blk_cell BK124.out 2).trans rfl
                          have hfz37_0 := blk_frozen BK124.out 0
                          have hfz37_1 := blk_frozen BK124.out 1
                          have hfz37_2 := blk_frozen BK124.out 2
                          try go_wp2
                          go_ret2
                          exact ⟨_, by first | rfl | (simp [errW_none, errW_some] <;> rfl) | (simp only [← hji8]; first | rfl | (simp [errW_none, errW_some] <;> rfl)) | (simp [*, errW_none, errW_some] <;> rfl), by first | exact Kd.R_nil _ _ _ _ _ | exact Kd.N_nil _ _ _ _ _ | exact Kd.V_nil _ _ _ _ _ | exact Kd.Q_nil _ _ _ _ _ | exact Kd.S_nil _ _ _ _ _, by repeat (first | (with_reducible first | exact HB.out | apply below_alloc | apply pw_below_drewN | apply below_drew1 | refine below_set ?_ GE124.out | refine below_set ?_ GE125.out) | exact HB.out)⟩
                        · rw [if_neg c24] at H
                          have c24b0 : (!(((rd_T57 l0 (ji8)).f0) == ((rd_T57 l0 x7_2).f0)) || (!(((rd_T57 l0 (ji8)).f2) == 0))) = false := by simpa using c24
                          clear c24
                          by_cases c38 : (ji8) < (l1.length : Int)
                          · rw [if_pos c38] at H
                            have c38b0 : decide ((ji8) < (l1.length : Int)) = true := decide_eq_true c38
                            clear c38
                            by_cases c39 : x6_2.length < 3518437208883
                            · rw [if_pos c39] at H
                              have LMc39 := Aside0.mk c39
                              clear c39
                              obtain ⟨y128, hy128⟩ : ∃ y_ : List (S23), y_ = (x6_2 ++ [(⟨(rd_T57 l0 x7_2).f0, (rd_T57 l0 x7_2).f2, (rd_T57 l0 x7_2).f1, (rd_T57 l0 (ji8)).f1, rdOf false l1 (ji8)⟩ : S23)]) := ⟨_, rfl⟩
                              replace H : (chg_Changes.l0 k2 l0 l1 y128 (wrap64 (x7_2 + 2))) = some (r1, r2) := by first | (rw [hy128]; with_reducible exact H) | (have H2_ := (Option.bind_some _ _).symm.trans H; rw [hy128]; with_reducible exact H2_) | (have H2_ := (Option.bind_some _ _).symm.trans H; with_reducible exact H2_) | with_reducible exact H | (rw [hy128]; exact H) | exact H
                              have Ny128 := Aside0.mk hy128
                              clear hy128
                              have H' := Aside0.mk H
                              clear H
                              try go_wp2
                              have n0_ := Aside0.mk (Kd.R_drew HO_6.out)
                              have n1_ := Aside0.mk (below_drew1 HB.out)
                              clear HO_6
                              clear HB
                              have HO_6 := n0_
                              have HB := n1_
                              clear n0_ n1_
                              have p122 : 0 ≤ (x7_2 : Int) := of_decide_eq_true (by first | (with_reducible assumption) | assumption)
                              have q122 : x7_2 < (l0.length : Int) := of_decide_eq_true (by first | (with_reducible assumption) | assumption)
                              obtain ⟨ad122, e122, hx122_0, hx122_1, hx122_2⟩ := at_T57 HR0.out x7_2 p122 q122
                              have hw122_2 := hx122_2
                              have hw122_1 := hx122_1
                              have hw122_0 := hx122_0
                              cases e122
                              replace hx122_0 := (HB.out.cell (World.block_lt_of_cell? w _ hx122_0)).trans hx122_0
                              replace hx122_1 := (HB.out.cell (World.block_lt_of_cell? w _ hx122_1)).trans hx122_1
                              replace hx122_2 := (HB.out.cell (World.block_lt_of_cell? w _ hx122_2)).trans hx122_2
                              replace p122 := eq_true p122
                              replace q122 := eq_true q122
                              have p123 : 0 ≤ ((ji8) : Int) := of_decide_eq_true (by first | (with_reducible assumption) | assumption)
                              have q123 : (ji8) < (l0.length : Int) := of_decide_eq_true (by first | (with_reducible assumption) | assumption)
                              obtain ⟨ad123, e123, hx123_0, hx123_1, hx123_2⟩ := at_T57 HR0.out (ji8) p123 q123
                              have hw123_2 := hx123_2
                              have hw123_1 := hx123_1
                              have hw123_0 := hx123_0
                              obtain rfl : ad122 = ad123 := (by injection e123)
                              replace hx123_0 := (HB.out.cell (World.block_lt_of_cell? w _ hx123_0)).trans hx123_0
                              replace hx123_1 := (HB.out.cell (World.block_lt_of_cell? w _ hx123_1)).trans hx123_1
                              replace hx123_2 := (HB.out.cell (World.block_lt_of_cell? w _ hx123_2)).trans hx123_2
                              replace p123 := eq_true p123
                              replace q123 := eq_true q123
                              refine start_ (n := 13) (S := fun w' => w'.cell? (ad122.add ((x7_2).toNat * 3)) = some (.int .i64 ((rd_T57 l0 x7_2).f0)) ∧ w'.cell? ⟨(ad122.add ((x7_2).toNat * 3)).block, (ad122.add ((x7_2).toNat * 3)).off + 1, none⟩ = some (.int .i64 ((rd_T57 l0 x7_2).f1)) ∧ w'.cell? ⟨(ad122.add ((x7_2).toNat * 3)).block, (ad122.add ((x7_2).toNat * 3)).off + 2, none⟩ = some (.int .i64 ((rd_T57 l0 x7_2).f2)) ∧ w'.cell? (ad122.add (((ji8)).toNat * 3)) = some (.int .i64 ((rd_T57 l0 (ji8)).f0)) ∧ w'.cell? ⟨(ad122.add (((ji8)).toNat * 3)).block, (ad122.add (((ji8)).toNat * 3)).off + 1, none⟩ = some (.int .i64 ((rd_T57 l0 (ji8)).f1)) ∧ w'.cell? ⟨(ad122.add (((ji8)).toNat * 3)).block, (ad122.add (((ji8)).toNat * 3)).off + 2, none⟩ = some (.int .i64 ((rd_T57 l0 (ji8)).f2))) (ds := []) #[false, false, false, false, false, false, false, false, false, false, false, false, false] (by kernel_rfl) rfl rfl ⟨((HB.out.cell (World.block_lt_of_cell? w _ hw122_0)).trans hw122_0), ((HB.out.cell (World.block_lt_of_cell? w _ hw122_1)).trans hw122_1), ((HB.out.cell (World.block_lt_of_cell? w _ hw122_2)).trans hw122_2), ((HB.out.cell (World.block_lt_of_cell? w _ hw123_0)).trans hw123_0), ((HB.out.cell (World.block_lt_of_cell? w _ hw123_1)).trans hw123_1), ((HB.out.cell (World.block_lt_of_cell? w _ hw123_2)).trans hw123_2)⟩ (fun hHeld => ?_); refine with_tabW chg_Changes.tab7 chg_Changes.bits7 (fun HT_ HW_ => ?_)
                              generalize wr.drew = w40 at HO_6 HB hx122_0 hx122_1 hx122_2 hx123_0 hx123_1 hx123_2 hHeld ⊢
                              refine pure_ (i := 0) (N := some 27) (v := ?_) (a' := ?_) #[true, false, false, false, false, false, false, false, false, false, false, false, false] rfl rfl (any_of HT_.out (by kernel_rfl)) (fun _ _ _ h => h) (Or.inl ⟨by rfl, ?_⟩) ?_ ?_
                              rotate_left
                              · intro w'
                                go_simp
                                with_reducible rfl
                              rotate_left
                              · simp only [Act.put, List.setIfInBounds_toArray, List.set_cons_zero, List.set_cons_succ, i64_w, i32_w]
                                rfl
                              refine pure_ (i := 1) (N := some 28) (v := ?_) (a' := ?_) #[true, true, false, false, false, false, false, false, false, false, false, false, false] rfl rfl (any_of HT_.out (by kernel_rfl)) (fun _ _ _ h => h) (Or.inl ⟨by rfl, ?_⟩) ?_ ?_
                              rotate_left
                              · intro w'
                                go_simp
                                with_reducible rfl
                              rotate_left
                              · simp only [Act.put, List.setIfInBounds_toArray, List.set_cons_zero, List.set_cons_succ, i64_w, i32_w]
                                rfl
                              refine pure_ (i := 2) (N := some 29) (v := ?_) (a' := ?_) #[true, true, true, false, false, false, false, false, false, false, false, false, false] rfl rfl (any_of HT_.out (by kernel_rfl)) (fun _ _ _ h => h) (Or.inl ⟨by rfl, ?_⟩) ?_ ?_
                              rotate_left
                              · intro w'
                                go_simp
                                with_reducible rfl
                              rotate_left
                              · simp only [Act.put, List.setIfInBounds_toArray, List.set_cons_zero, List.set_cons_succ, i64_w, i32_w]
                                rfl
                              refine pure_ (i := 4) (N := some 31) (v := ?_) (a' := ?_) #[true, true, true, false, true, false, false, false, false, false, false, false, false] rfl rfl (any_of HT_.out (by kernel_rfl)) (fun _ _ _ h => h) (Or.inl ⟨by rfl, ?_⟩) ?_ ?_
                              rotate_left
                              · intro w'
                                go_simp
                                with_reducible rfl
                              rotate_left
                              · simp only [Act.put, List.setIfInBounds_toArray, List.set_cons_zero, List.set_cons_succ, i64_w, i32_w]
                                rfl
                              refine pure_ (i := 5) (N := some 32) (v := ?_) (a' := ?_) #[true, true, true, false, true, true, false, false, false, false, false, false, false] rfl rfl (any_of HT_.out (by kernel_rfl)) (fun _ _ _ h => h) (Or.inl ⟨by rfl, ?_⟩) ?_ ?_
                              rotate_left
                              · intro w'
                                go_simp
                                with_reducible rfl
                              rotate_left
                              · simp only [Act.put, List.setIfInBounds_toArray, List.set_cons_zero, List.set_cons_succ, i64_w, i32_w]
                                rfl
                              refine pure_ (i := 6) (N := some 33) (v := ?_) (a' := ?_) #[true, true, true, false, true, true, true, false, false, false, false, false, false] rfl rfl (any_of HT_.out (by kernel_rfl)) (fun _ _ _ h => h) (Or.inl ⟨by rfl, ?_⟩) ?_ ?_
                              rotate_left
                              · intro w'
                                go_simp
                                with_reducible rfl
                              rotate_left
                              · simp only [Act.put, List.setIfInBounds_toArray, List.set_cons_zero, List.set_cons_succ, i64_w, i32_w]
                                rfl
                              refine pure_ (i := 7) (N := some 34) (v := ?_) (a' := ?_) #[true, true, true, false, true, true, true, true, false, false, false, false, false] rfl rfl (any_of HT_.out (by kernel_rfl)) (fun _ _ _ h => h) (Or.inl ⟨by rfl, ?_⟩) ?_ ?_
                              rotate_left
                              · intro w'
                                go_simp
                                with_reducible rfl
                              rotate_left
                              · simp only [Act.put, List.setIfInBounds_toArray, List.set_cons_zero, List.set_cons_succ, i64_w, i32_w]
                                rfl
                              refine take_ (i := 3) (N := some 30) (v := ?_) (a' := ?_) #[true, true, true, true, true, true, true, true, false, false, false, false, false] rfl rfl (take_ofW HT_.out HW_.out (by kernel_rfl)) (fun _ _ _ h => h) (Or.inl ⟨by rfl, ?_⟩) hHeld ?_ ?_
                              rotate_left
                              · rintro w' ⟨s0, s1, s2, s3, s4, s5⟩
                                go_simp
                                with_reducible rfl
                              rotate_left
                              · simp only [Act.put, List.setIfInBounds_toArray, List.set_cons_zero, List.set_cons_succ, i64_w, i32_w]
                                rfl
                              refine take_ (i := 8) (N := some 35) (v := ?_) (a' := ?_) #[true, true, true, true, true, true, true, true, true, false, false, false, false] rfl rfl (take_ofW HT_.out HW_.out (by kernel_rfl)) (fun _ _ _ h => h) (Or.inl ⟨by rfl, ?_⟩) hHeld ?_ ?_
                              rotate_left
                              · rintro w' ⟨s0, s1, s2, s3, s4, s5⟩
                                go_simp
                                with_reducible rfl
                              rotate_left
                              · simp only [Act.put, List.setIfInBounds_toArray, List.set_cons_zero, List.set_cons_succ, i64_w, i32_w]
                                rfl
                              refine join_ (σ := Nat × Nat) 2 #[true, true, true, true, true, true, true, true, true, true, true, false, false] (fun s_ => [(8, .pointer (some ⟨s_.1, 0, none⟩)), (9, .pointer (some ⟨s_.2, 0, none⟩))]) (fun s_ w' => (w'.cell? (ad122.add ((x7_2).toNat * 3)) = some (.int .i64 ((rd_T57 l0 x7_2).f0)) ∧ w'.cell? ⟨(ad122.add ((x7_2).toNat * 3)).block, (ad122.add ((x7_2).toNat * 3)).off + 1, none⟩ = some (.int .i64 ((rd_T57 l0 x7_2).f1)) ∧ w'.cell? ⟨(ad122.add ((x7_2).toNat * 3)).block, (ad122.add ((x7_2).toNat * 3)).off + 2, none⟩ = some (.int .i64 ((rd_T57 l0 x7_2).f2)) ∧ w'.cell? (ad122.add (((ji8)).toNat * 3)) = some (.int .i64 ((rd_T57 l0 (ji8)).f0)) ∧ w'.cell? ⟨(ad122.add (((ji8)).toNat * 3)).block, (ad122.add (((ji8)).toNat * 3)).off + 1, none⟩ = some (.int .i64 ((rd_T57 l0 (ji8)).f1)) ∧ w'.cell? ⟨(ad122.add (((ji8)).toNat * 3)).block, (ad122.add (((ji8)).toNat * 3)).off + 2, none⟩ = some (.int .i64 ((rd_T57 l0 (ji8)).f2))) ∧ (Kd.R k23 23 w' w.heap.size (fun _ => True) u6 x6_2) ∧ (w'.heap[s_.1]? = some (.cells #[.int .i64 0, .int .i64 0, .int .i64 0] 57 (0, 0))) ∧ (w'.heap[s_.2]? = some (.cells #[.int .i64 0, .int .i64 0, .int .i64 0] 57 (0, 0))) ∧ (w.heap.size ≤ s_.1) ∧ (w.heap.size ≤ s_.1) ∧ (s_.2 ≠ s_.1) ∧ (s_.1 ≠ s_.2) ∧ (w.heap.size ≤ s_.2) ∧ (w.heap.size ≤ s_.2) ∧ (Below w.heap.size w w')) ?_ ?_
                              rotate_left
                              · intro hCont
                                refine two_ (i := 9) (j := 10) (Ni := some 8) (Nj := some 9) #[true, true, true, true, true, true, true, true, true, true, false, false, false] #[true, true, true, true, true, true, true, true, true, false, true, false, false] rfl rfl rfl rfl (two_of HT_.out (by kernel_rfl)) (by decide) (by decide) (fun K hK => ?_) (fun K hK => ?_)
                                · skip
                                  refine box_step ?hg (N := 8) ?hd (cs := #[.int .i64 0, .int .i64 0, .int .i64 0]) (t := 57) ?hr ?_; (case hd => rfl); (case hg => rfl); (case hr => first | (go_simp; done) | (go_simp; rfl))
                                  intro gb124 hg w41 hbox hb
                                  have n0_ := Aside0.mk (Kd.R_below (by (with_reducible repeat (first | apply Kd.R_alloc | apply Kd.R_drewN | apply Kd.R_drew)); exact HO_6.out) hb)
                                  have n1_ := Aside0.mk (below_step (by repeat (first | (with_reducible first | exact HB.out | apply below_alloc | apply pw_below_drewN | apply below_drew1) | exact HB.out)) hb)
                                  have n2_ := Aside0.mk (hbox)
                                  have n3_ := Aside0.mk ((by rw [hg]; exact (below_size (by repeat (first | (with_reducible first | exact HB.out | apply below_alloc | apply pw_below_drewN | apply below_drew1) | exact HB.out))) : w.heap.size ≤ gb124))
                                  have n4_ := Aside0.mk ((by rw [hg]; exact (below_size (by repeat (first | (with_reducible first | exact HB.out | apply below_alloc | apply pw_below_drewN | apply below_drew1) | exact HB.out))) : w.heap.size ≤ gb124))
                                  clear HO_6
                                  clear HB
                                  have HO_6 := n0_
                                  have HB := n1_
                                  have BK124 := n2_
                                  have GW124 := n3_
                                  have GE124 := n4_
                                  clear n0_ n1_ n2_ n3_ n4_
                                  clear hb hbox hg
                                  refine hK.out _ _ ⟨((HB.out.cell (World.block_lt_of_cell? w _ hw122_0)).trans hw122_0), ((HB.out.cell (World.block_lt_of_cell? w _ hw122_1)).trans hw122_1), ((HB.out.cell (World.block_lt_of_cell? w _ hw122_2)).trans hw122_2), ((HB.out.cell (World.block_lt_of_cell? w _ hw123_0)).trans hw123_0), ((HB.out.cell (World.block_lt_of_cell? w _ hw123_1)).trans hw123_1), ((HB.out.cell (World.block_lt_of_cell? w _ hw123_2)).trans hw123_2)⟩ (fun hHeld => ?_)
                                  clear hK K
                                  refine norm_ (a' := ?_) ?_ ?_
                                  rotate_left
                                  · show Act.put _ (some 8) _ = _
                                    simp only [Act.put, List.setIfInBounds_toArray, List.set_cons_zero, List.set_cons_succ, i64_w, i32_w]
                                    rfl
                                  refine one_ (i := 10) (N := some 9) #[true, true, true, true, true, true, true, true, true, true, true, false, false] rfl rfl (one_of HT_.out (by kernel_rfl)) (by decide) (fun K hK => ?_)
                                  refine box_step ?hg (N := 9) ?hd (cs := #[.int .i64 0, .int .i64 0, .int .i64 0]) (t := 57) ?hr ?_; (case hd => rfl); (case hg => rfl); (case hr => first | (go_simp; done) | (go_simp; rfl))
                                  intro gb125 hg w42 hbox hb
                                  have n0_ := Aside0.mk (Kd.R_below (by (with_reducible repeat (first | apply Kd.R_alloc | apply Kd.R_drewN | apply Kd.R_drew)); exact HO_6.out) hb)
                                  have n1_ := Aside0.mk (blk_below (g := gb124) (o := .cells #[.int .i64 0, .int .i64 0, .int .i64 0] 57 (0, 0)) (by (with_reducible repeat (first | refine blk_drewN ?_ _ | refine blk_drew ?_ | refine blk_alloc ?_ _)); exact BK124.out) hb)
                                  have n2_ := Aside0.mk (below_step (by repeat (first | (with_reducible first | exact HB.out | apply below_alloc | apply pw_below_drewN | apply below_drew1 | refine below_set ?_ GE124.out) | exact HB.out)) hb)
                                  have n3_ := Aside0.mk (hbox)
                                  have n4_ := Aside0.mk ((by rw [hg]; exact (below_size (by repeat (first | (with_reducible first | exact HB.out | apply below_alloc | apply pw_below_drewN | apply below_drew1 | refine below_set ?_ GE124.out) | exact HB.out))) : w.heap.size ≤ gb125))
                                  have n5_ := Aside0.mk ((by rw [hg]; exact (below_size (by repeat (first | (with_reducible first | exact HB.out | apply below_alloc | apply pw_below_drewN | apply below_drew1 | refine below_set ?_ GE124.out) | exact HB.out))) : w.heap.size ≤ gb125))
                                  have n6_ := Aside0.mk ((by rw [hg]; exact Nat.ne_of_lt (blk_lt (g := gb124) (o := .cells #[.int .i64 0, .int .i64 0, .int .i64 0] 57 (0, 0)) (by (with_reducible repeat (first | refine blk_drewN ?_ _ | refine blk_drew ?_ | refine blk_alloc ?_ _)); exact BK124.out)) : gb124 ≠ gb125))
                                  have n7_ := Aside0.mk ((by rw [hg]; exact Nat.ne_of_gt (blk_lt (g := gb124) (o := .cells #[.int .i64 0, .int .i64 0, .int .i64 0] 57 (0, 0)) (by (with_reducible repeat (first | refine blk_drewN ?_ _ | refine blk_drew ?_ | refine blk_alloc ?_ _)); exact BK124.out)) : gb125 ≠ gb124))
                                  clear HO_6
                                  clear BK124
                                  clear HB
                                  have HO_6 := n0_
                                  have BK124 := n1_
                                  have HB := n2_
                                  have BK125 := n3_
                                  have GW125 := n4_
                                  have GE125 := n5_
                                  have NB124_125 := n6_
                                  have NB125_124 := n7_
                                  clear n0_ n1_ n2_ n3_ n4_ n5_ n6_ n7_
                                  clear hb hbox hg
                                  refine hK.out _ _ ⟨((HB.out.cell (World.block_lt_of_cell? w _ hw122_0)).trans hw122_0), ((HB.out.cell (World.block_lt_of_cell? w _ hw122_1)).trans hw122_1), ((HB.out.cell (World.block_lt_of_cell? w _ hw122_2)).trans hw122_2), ((HB.out.cell (World.block_lt_of_cell? w _ hw123_0)).trans hw123_0), ((HB.out.cell (World.block_lt_of_cell? w _ hw123_1)).trans hw123_1), ((HB.out.cell (World.block_lt_of_cell? w _ hw123_2)).trans hw123_2)⟩ (fun hHeld => ?_)
                                  clear hK K
                                  refine norm_ (a' := ?_) ?_ ?_
                                  rotate_left
                                  · show Act.put _ (some 9) _ = _
                                    simp only [Act.put, List.setIfInBounds_toArray, List.set_cons_zero, List.set_cons_succ, i64_w, i32_w]
                                    rfl
                                  exact norm_ (by simp only [putAll, Act.put, List.setIfInBounds_toArray, List.set_cons_zero, List.set_cons_succ]) (hCont (gb124, gb125) _ ⟨hHeld, (by (with_reducible repeat (first | apply Kd.R_alloc | apply Kd.R_drewN | apply Kd.R_drew)); exact HO_6.out), (by (with_reducible repeat (first | refine blk_drewN ?_ _ | refine blk_drew ?_ | refine blk_alloc ?_ _)); exact BK124.out), (by (with_reducible repeat (first | refine blk_drewN ?_ _ | refine blk_drew ?_ | refine blk_alloc ?_ _)); exact BK125.out), GW124.out, GE124.out, NB125_124.out, NB124_125.out, GW125.out, GE125.out, (by repeat (first | (with_reducible first | exact HB.out | apply below_alloc | apply pw_below_drewN | apply below_drew1 | refine below_set ?_ GE124.out | refine below_set ?_ GE125.out) | exact HB.out))⟩)
                                · skip
                                  refine box_step ?hg (N := 9) ?hd (cs := #[.int .i64 0, .int .i64 0, .int .i64 0]) (t := 57) ?hr ?_; (case hd => rfl); (case hg => rfl); (case hr => first | (go_simp; done) | (go_simp; rfl))
                                  intro gb125 hg w41 hbox hb
                                  have n0_ := Aside0.mk (Kd.R_below (by (with_reducible repeat (first | apply Kd.R_alloc | apply Kd.R_drewN | apply Kd.R_drew)); exact HO_6.out) hb)
                                  have n1_ := Aside0.mk (below_step (by repeat (first | (with_reducible first | exact HB.out | apply below_alloc | apply pw_below_drewN | apply below_drew1) | exact HB.out)) hb)
                                  have n2_ := Aside0.mk (hbox)
                                  have n3_ := Aside0.mk ((by rw [hg]; exact (below_size (by repeat (first | (with_reducible first | exact HB.out | apply below_alloc | apply pw_below_drewN | apply below_drew1) | exact HB.out))) : w.heap.size ≤ gb125))
                                  have n4_ := Aside0.mk ((by rw [hg]; exact (below_size (by repeat (first | (with_reducible first | exact HB.out | apply below_alloc | apply pw_below_drewN | apply below_drew1) | exact HB.out))) : w.heap.size ≤ gb125))
                                  clear HO_6
                                  clear HB
                                  have HO_6 := n0_
                                  have HB := n1_
                                  have BK125 := n2_
                                  have GW125 := n3_
                                  have GE125 := n4_
                                  clear n0_ n1_ n2_ n3_ n4_
                                  clear hb hbox hg
                                  refine hK.out _ _ ⟨((HB.out.cell (World.block_lt_of_cell? w _ hw122_0)).trans hw122_0), ((HB.out.cell (World.block_lt_of_cell? w _ hw122_1)).trans hw122_1), ((HB.out.cell (World.block_lt_of_cell? w _ hw122_2)).trans hw122_2), ((HB.out.cell (World.block_lt_of_cell? w _ hw123_0)).trans hw123_0), ((HB.out.cell (World.block_lt_of_cell? w _ hw123_1)).trans hw123_1), ((HB.out.cell (World.block_lt_of_cell? w _ hw123_2)).trans hw123_2)⟩ (fun hHeld => ?_)
                                  clear hK K
                                  refine norm_ (a' := ?_) ?_ ?_
                                  rotate_left
                                  · show Act.put _ (some 9) _ = _
                                    simp only [Act.put, List.setIfInBounds_toArray, List.set_cons_zero, List.set_cons_succ, i64_w, i32_w]
                                    rfl
                                  refine one_ (i := 9) (N := some 8) #[true, true, true, true, true, true, true, true, true, true, true, false, false] rfl rfl (one_of HT_.out (by kernel_rfl)) (by decide) (fun K hK => ?_)
                                  refine box_step ?hg (N := 8) ?hd (cs := #[.int .i64 0, .int .i64 0, .int .i64 0]) (t := 57) ?hr ?_; (case hd => rfl); (case hg => rfl); (case hr => first | (go_simp; done) | (go_simp; rfl))
                                  intro gb124 hg w42 hbox hb
                                  have n0_ := Aside0.mk (Kd.R_below (by (with_reducible repeat (first | apply Kd.R_alloc | apply Kd.R_drewN | apply Kd.R_drew)); exact HO_6.out) hb)
                                  have n1_ := Aside0.mk (blk_below (g := gb125) (o := .cells #[.int .i64 0, .int .i64 0, .int .i64 0] 57 (0, 0)) (by (with_reducible repeat (first | refine blk_drewN ?_ _ | refine blk_drew ?_ | refine blk_alloc ?_ _)); exact BK125.out) hb)
                                  have n2_ := Aside0.mk (below_step (by repeat (first | (with_reducible first | exact HB.out | apply below_alloc | apply pw_below_drewN | apply below_drew1 | refine below_set ?_ GE125.out) | exact HB.out)) hb)
                                  have n3_ := Aside0.mk (hbox)
                                  have n4_ := Aside0.mk ((by rw [hg]; exact (below_size (by repeat (first | (with_reducible first | exact HB.out | apply below_alloc | apply pw_below_drewN | apply below_drew1 | refine below_set ?_ GE125.out) | exact HB.out))) : w.heap.size ≤ gb124))
                                  have n5_ := Aside0.mk ((by rw [hg]; exact (below_size (by repeat (first | (with_reducible first | exact HB.out | apply below_alloc | apply pw_below_drewN | apply below_drew1 | refine below_set ?_ GE125.out) | exact HB.out))) : w.heap.size ≤ gb124))
                                  have n6_ := Aside0.mk ((by rw [hg]; exact Nat.ne_of_lt (blk_lt (g := gb125) (o := .cells #[.int .i64 0, .int .i64 0, .int .i64 0] 57 (0, 0)) (by (with_reducible repeat (first | refine blk_drewN ?_ _ | refine blk_drew ?_ | refine blk_alloc ?_ _)); exact BK125.out)) : gb125 ≠ gb124))
                                  have n7_ := Aside0.mk ((by rw [hg]; exact Nat.ne_of_gt (blk_lt (g := gb125) (o := .cells #[.int .i64 0, .int .i64 0, .int .i64 0] 57 (0, 0)) (by (with_reducible repeat (first | refine blk_drewN ?_ _ | refine blk_drew ?_ | refine blk_alloc ?_ _)); exact BK125.out)) : gb124 ≠ gb125))
                                  clear HO_6
                                  clear BK125
                                  clear HB
                                  have HO_6 := n0_
                                  have BK125 := n1_
                                  have HB := n2_
                                  have BK124 := n3_
                                  have GW124 := n4_
                                  have GE124 := n5_
                                  have NB125_124 := n6_
                                  have NB124_125 := n7_
                                  clear n0_ n1_ n2_ n3_ n4_ n5_ n6_ n7_
                                  clear hb hbox hg
                                  refine hK.out _ _ ⟨((HB.out.cell (World.block_lt_of_cell? w _ hw122_0)).trans hw122_0), ((HB.out.cell (World.block_lt_of_cell? w _ hw122_1)).trans hw122_1), ((HB.out.cell (World.block_lt_of_cell? w _ hw122_2)).trans hw122_2), ((HB.out.cell (World.block_lt_of_cell? w _ hw123_0)).trans hw123_0), ((HB.out.cell (World.block_lt_of_cell? w _ hw123_1)).trans hw123_1), ((HB.out.cell (World.block_lt_of_cell? w _ hw123_2)).trans hw123_2)⟩ (fun hHeld => ?_)
                                  clear hK K
                                  refine norm_ (a' := ?_) ?_ ?_
                                  rotate_left
                                  · show Act.put _ (some 8) _ = _
                                    simp only [Act.put, List.setIfInBounds_toArray, List.set_cons_zero, List.set_cons_succ, i64_w, i32_w]
                                    rfl
                                  exact norm_ (by simp only [putAll, Act.put, List.setIfInBounds_toArray, List.set_cons_zero, List.set_cons_succ]) (hCont (gb124, gb125) _ ⟨hHeld, (by (with_reducible repeat (first | apply Kd.R_alloc | apply Kd.R_drewN | apply Kd.R_drew)); exact HO_6.out), (by (with_reducible repeat (first | refine blk_drewN ?_ _ | refine blk_drew ?_ | refine blk_alloc ?_ _)); exact BK124.out), (by (with_reducible repeat (first | refine blk_drewN ?_ _ | refine blk_drew ?_ | refine blk_alloc ?_ _)); exact BK125.out), GW124.out, GE124.out, NB125_124.out, NB124_125.out, GW125.out, GE125.out, (by repeat (first | (with_reducible first | exact HB.out | apply below_alloc | apply pw_below_drewN | apply below_drew1 | refine below_set ?_ GE125.out | refine below_set ?_ GE124.out) | exact HB.out))⟩)
                              rintro ⟨gb124, gb125⟩ w43 ⟨hS_, h0_, h1_, h2_, h3_, h4_, h5_, h6_, h7_, h8_, h9_⟩
                              have n0_ : Aside0 (Kd.R k23 23 w43 w.heap.size (fun _ => True) u6 x6_2) := ⟨h0_⟩
                              have n1_ : Aside0 (w43.heap[gb124]? = some (.cells #[.int .i64 0, .int .i64 0, .int .i64 0] 57 (0, 0))) := ⟨h1_⟩
                              have n2_ : Aside0 (w43.heap[gb125]? = some (.cells #[.int .i64 0, .int .i64 0, .int .i64 0] 57 (0, 0))) := ⟨h2_⟩
                              have n3_ : Aside0 (w.heap.size ≤ gb124) := ⟨h3_⟩
                              have n4_ : Aside0 (w.heap.size ≤ gb124) := ⟨h4_⟩
                              have n5_ : Aside0 (gb125 ≠ gb124) := ⟨h5_⟩
                              have n6_ : Aside0 (gb124 ≠ gb125) := ⟨h6_⟩
                              have n7_ : Aside0 (w.heap.size ≤ gb125) := ⟨h7_⟩
                              have n8_ : Aside0 (w.heap.size ≤ gb125) := ⟨h8_⟩
                              have n9_ : Aside0 (Below w.heap.size w w43) := ⟨h9_⟩
                              clear HO_6
                              clear HB
                              clear h0_ h1_ h2_ h3_ h4_ h5_ h6_ h7_ h8_ h9_
                              have HO_6 := n0_
                              have BK124 := n1_
                              have BK125 := n2_
                              have GW124 := n3_
                              have GE124 := n4_
                              have NB125_124 := n5_
                              have NB124_125 := n6_
                              have GW125 := n7_
                              have GE125 := n8_
                              have HB := n9_
                              clear n0_ n1_ n2_ n3_ n4_ n5_ n6_ n7_ n8_ n9_
                              have hHeld : w43.cell? (ad122.add ((x7_2).toNat * 3)) = some (.int .i64 ((rd_T57 l0 x7_2).f0)) ∧ w43.cell? ⟨(ad122.add ((x7_2).toNat * 3)).block, (ad122.add ((x7_2).toNat * 3)).off + 1, none⟩ = some (.int .i64 ((rd_T57 l0 x7_2).f1)) ∧ w43.cell? ⟨(ad122.add ((x7_2).toNat * 3)).block, (ad122.add ((x7_2).toNat * 3)).off + 2, none⟩ = some (.int .i64 ((rd_T57 l0 x7_2).f2)) ∧ w43.cell? (ad122.add (((ji8)).toNat * 3)) = some (.int .i64 ((rd_T57 l0 (ji8)).f0)) ∧ w43.cell? ⟨(ad122.add (((ji8)).toNat * 3)).block, (ad122.add (((ji8)).toNat * 3)).off + 1, none⟩ = some (.int .i64 ((rd_T57 l0 (ji8)).f1)) ∧ w43.cell? ⟨(ad122.add (((ji8)).toNat * 3)).block, (ad122.add (((ji8)).toNat * 3)).off + 2, none⟩ = some (.int .i64 ((rd_T57 l0 (ji8)).f2)) := hS_
                              refine norm_ (a' := ?_) ?_ ?_
                              rotate_left
                              · simp only [putAll, Act.put, List.setIfInBounds_toArray, List.set_cons_zero, List.set_cons_succ]
                                rfl
                              refine one_ (i := 11) (N := none) #[true, true, true, true, true, true, true, true, true, true, true, true, false] rfl rfl (one_of HT_.out (by kernel_rfl)) (by decide) (fun K hK => ?_)
                              have hs44 : w43.cell? ⟨gb124, 0, none⟩ = some (.int .i64 0) := (blk_cell BK124.out 0).trans rfl
                              have hfs44 := blk_frozen BK124.out 0
                              have hns44_1 := NB125_124.out
                              have hms44_1 := NB124_125.out
                              have hs45 : w43.cell? ⟨gb124, 1, none⟩ = some (.int .i64 0) := (blk_cell BK124.out 1).trans rfl
                              have hfs45 := blk_frozen BK124.out 1
                              have hns45_1 := NB125_124.out
                              have hms45_1 := NB124_125.out
                              have hs46 : w43.cell? ⟨gb124, 2, none⟩ = some (.int .i64 0) := (blk_cell BK124.out 2).trans rfl
                              have hfs46 := blk_frozen BK124.out 2
                              have hns46_1 := NB125_124.out
                              have hms46_1 := NB124_125.out
                              refine skip_ (w1 := ?_) (by rfl) rfl ?_ ?_
                              rotate_left
                              · go_simp
                                rfl
                              refine hK.out _ _ ⟨((cell_far (p := ⟨gb124, _, none⟩) (by first | exact Nat.ne_of_lt (Nat.lt_of_lt_of_le (by have := World.block_lt_of_cell? _ _ hw122_0; first | rwa [add_block] at this | exact this) GW124.out) | (rw [add_block]; exact Nat.ne_of_lt (Nat.lt_of_lt_of_le (by have := World.block_lt_of_cell? _ _ hw122_0; first | rwa [add_block] at this | exact this) GW124.out)) | (show (Addr.add _ _).block ≠ _; rw [add_block]; exact Nat.ne_of_lt (Nat.lt_of_lt_of_le (by have := World.block_lt_of_cell? _ _ hw122_0; first | rwa [add_block] at this | exact this) GW124.out)) | (dsimp only; exact Nat.ne_of_lt (Nat.lt_of_lt_of_le (by have := World.block_lt_of_cell? _ _ hw122_0; first | rwa [add_block] at this | exact this) GW124.out))) _).trans (((cell_far (p := ⟨gb124, _, none⟩) (by first | exact Nat.ne_of_lt (Nat.lt_of_lt_of_le (by have := World.block_lt_of_cell? _ _ hw122_0; first | rwa [add_block] at this | exact this) GW124.out) | (rw [add_block]; exact Nat.ne_of_lt (Nat.lt_of_lt_of_le (by have := World.block_lt_of_cell? _ _ hw122_0; first | rwa [add_block] at this | exact this) GW124.out)) | (show (Addr.add _ _).block ≠ _; rw [add_block]; exact Nat.ne_of_lt (Nat.lt_of_lt_of_le (by have := World.block_lt_of_cell? _ _ hw122_0; first | rwa [add_block] at this | exact this) GW124.out)) | (dsimp only; exact Nat.ne_of_lt (Nat.lt_of_lt_of_le (by have := World.block_lt_of_cell? _ _ hw122_0; first | rwa [add_block] at this | exact this) GW124.out))) _).trans (((cell_far (p := ⟨gb124, _, none⟩) (by first | exact Nat.ne_of_lt (Nat.lt_of_lt_of_le (by have := World.block_lt_of_cell? _ _ hw122_0; first | rwa [add_block] at this | exact this) GW124.out) | (rw [add_block]; exact Nat.ne_of_lt (Nat.lt_of_lt_of_le (by have := World.block_lt_of_cell? _ _ hw122_0; first | rwa [add_block] at this | exact this) GW124.out)) | (show (Addr.add _ _).block ≠ _; rw [add_block]; exact Nat.ne_of_lt (Nat.lt_of_lt_of_le (by have := World.block_lt_of_cell? _ _ hw122_0; first | rwa [add_block] at this | exact this) GW124.out)) | (dsimp only; exact Nat.ne_of_lt (Nat.lt_of_lt_of_le (by have := World.block_lt_of_cell? _ _ hw122_0; first | rwa [add_block] at this | exact this) GW124.out))) _).trans (hHeld.1)))))), ((cell_far (p := ⟨gb124, _, none⟩) (by first | exact Nat.ne_of_lt (Nat.lt_of_lt_of_le (by have := World.block_lt_of_cell? _ _ hw122_1; first | rwa [add_block] at this | exact this) GW124.out) | (rw [add_block]; exact Nat.ne_of_lt (Nat.lt_of_lt_of_le (by have := World.block_lt_of_cell? _ _ hw122_1; first | rwa [add_block] at this | exact this) GW124.out)) | (show (Addr.add _ _).block ≠ _; rw [add_block]; exact Nat.ne_of_lt (Nat.lt_of_lt_of_le (by have := World.block_lt_of_cell? _ _ hw122_1; first | rwa [add_block] at this | exact this) GW124.out)) | (dsimp only; exact Nat.ne_of_lt (Nat.lt_of_lt_of_le (by have := World.block_lt_of_cell? _ _ hw122_1; first | rwa [add_block] at this | exact this) GW124.out))) _).trans (((cell_far (p := ⟨gb124, _, none⟩) (by first | exact Nat.ne_of_lt (Nat.lt_of_lt_of_le (by have := World.block_lt_of_cell? _ _ hw122_1; first | rwa [add_block] at this | exact this) GW124.out) | (rw [add_block]; exact Nat.ne_of_lt (Nat.lt_of_lt_of_le (by have := World.block_lt_of_cell? _ _ hw122_1; first | rwa [add_block] at this | exact this) GW124.out)) | (show (Addr.add _ _).block ≠ _; rw [add_block]; exact Nat.ne_of_lt (Nat.lt_of_lt_of_le (by have := World.block_lt_of_cell? _ _ hw122_1; first | rwa [add_block] at this | exact this) GW124.out)) | (dsimp only; exact Nat.ne_of_lt (Nat.lt_of_lt_of_le (by have := World.block_lt_of_cell? _ _ hw122_1; first | rwa [add_block] at this | exact this) GW124.out))) _).trans (((cell_far (p := ⟨gb124, _, none⟩) (by first | exact Nat.ne_of_lt (Nat.lt_of_lt_of_le (by have := World.block_lt_of_cell? _ _ hw122_1; first | rwa [add_block] at this | exact this) GW124.out) | (rw [add_block]; exact Nat.ne_of_lt (Nat.lt_of_lt_of_le (by have := World.block_lt_of_cell? _ _ hw122_1; first | rwa [add_block] at this | exact this) GW124.out)) | (show (Addr.add _ _).block ≠ _; rw [add_block]; exact Nat.ne_of_lt (Nat.lt_of_lt_of_le (by have := World.block_lt_of_cell? _ _ hw122_1; first | rwa [add_block] at this | exact this) GW124.out)) | (dsimp only; exact Nat.ne_of_lt (Nat.lt_of_lt_of_le (by have := World.block_lt_of_cell? _ _ hw122_1; first | rwa [add_block] at this | exact this) GW124.out))) _).trans (hHeld.2.1)))))), ((cell_far (p := ⟨gb124, _, none⟩) (by first | exact Nat.ne_of_lt (Nat.lt_of_lt_of_le (by have := World.block_lt_of_cell? _ _ hw122_2; first | rwa [add_block] at this | exact this) GW124.out) | (rw [add_block]; exact Nat.ne_of_lt (Nat.lt_of_lt_of_le (by have := World.block_lt_of_cell? _ _ hw122_2; first | rwa [add_block] at this | exact this) GW124.out)) | (show (Addr.add _ _).block ≠ _; rw [add_block]; exact Nat.ne_of_lt (Nat.lt_of_lt_of_le (by have := World.block_lt_of_cell? _ _ hw122_2; first | rwa [add_block] at this | exact this) GW124.out)) | (dsimp only; exact Nat.ne_of_lt (Nat.lt_of_lt_of_le (by have := World.block_lt_of_cell? _ _ hw122_2; first | rwa [add_block] at this | exact this) GW124.out))) _).trans (((cell_far (p := ⟨gb124, _, none⟩) (by first | exact Nat.ne_of_lt (Nat.lt_of_lt_of_le (by have := World.block_lt_of_cell? _ _ hw122_2; first | rwa [add_block] at this | exact this) GW124.out) | (rw [add_block]; exact Nat.ne_of_lt (Nat.lt_of_lt_of_le (by have := World.block_lt_of_cell? _ _ hw122_2; first | rwa [add_block] at this | exact this) GW124.out)) | (show (Addr.add _ _).block ≠ _; rw [add_block]; exact Nat.ne_of_lt (Nat.lt_of_lt_of_le (by have := World.block_lt_of_cell? _ _ hw122_2; first | rwa [add_block] at this | exact this) GW124.out)) | (dsimp only; exact Nat.ne_of_lt (Nat.lt_of_lt_of_le (by have := World.block_lt_of_cell? _ _ hw122_2; first | rwa [add_block] at this | exact this) GW124.out))) _).trans (((cell_far (p := ⟨gb124, _, none⟩) (by first | exact Nat.ne_of_lt (Nat.lt_of_lt_of_le (by have := World.block_lt_of_cell? _ _ hw122_2; first | rwa [add_block] at this | exact this) GW124.out) | (rw [add_block]; exact Nat.ne_of_lt (Nat.lt_of_lt_of_le (by have := World.block_lt_of_cell? _ _ hw122_2; first | rwa [add_block] at this | exact this) GW124.out)) | (show (Addr.add _ _).block ≠ _; rw [add_block]; exact Nat.ne_of_lt (Nat.lt_of_lt_of_le (by have := World.block_lt_of_cell? _ _ hw122_2; first | rwa [add_block] at this | exact this) GW124.out)) | (dsimp only; exact Nat.ne_of_lt (Nat.lt_of_lt_of_le (by have := World.block_lt_of_cell? _ _ hw122_2; first | rwa [add_block] at this | exact this) GW124.out))) _).trans (hHeld.2.2.1)))))), ((cell_far (p := ⟨gb124, _, none⟩) (by first | exact Nat.ne_of_lt (Nat.lt_of_lt_of_le (by have := World.block_lt_of_cell? _ _ hw123_0; first | rwa [add_block] at this | exact this) GW124.out) | (rw [add_block]; exact Nat.ne_of_lt (Nat.lt_of_lt_of_le (by have := World.block_lt_of_cell? _ _ hw123_0; first | rwa [add_block] at this | exact this) GW124.out)) | (show (Addr.add _ _).block ≠ _; rw [add_block]; exact Nat.ne_of_lt (Nat.lt_of_lt_of_le (by have := World.block_lt_of_cell? _ _ hw123_0; first | rwa [add_block] at this | exact this) GW124.out)) | (dsimp only; exact Nat.ne_of_lt (Nat.lt_of_lt_of_le (by have := World.block_lt_of_cell? _ _ hw123_0; first | rwa [add_block] at this | exact this) GW124.out))) _).trans (((cell_far (p := ⟨gb124, _, none⟩) (by first | exact Nat.ne_of_lt (Nat.lt_of_lt_of_le (by have := World.block_lt_of_cell? _ _ hw123_0; first | rwa [add_block] at this | exact this) GW124.out) | (rw [add_block]; exact Nat.ne_of_lt (Nat.lt_of_lt_of_le (by have := World.block_lt_of_cell? _ _ hw123_0; first | rwa [add_block] at this | exact this) GW124.out)) | (show (Addr.add _ _).block ≠ _; rw [add_block]; exact Nat.ne_of_lt (Nat.lt_of_lt_of_le (by have := World.block_lt_of_cell? _ _ hw123_0; first | rwa [add_block] at this | exact this) GW124.out)) | (dsimp only; exact Nat.ne_of_lt (Nat.lt_of_lt_of_le (by have := World.block_lt_of_cell? _ _ hw123_0; first | rwa [add_block] at this | exact this) GW124.out))) _).trans (((cell_far (p := ⟨gb124, _, none⟩) (by first | exact Nat.ne_of_lt (Nat.lt_of_lt_of_le (by have := World.block_lt_of_cell? _ _ hw123_0; first | rwa [add_block] at this | exact this) GW124.out) | (rw [add_block]; exact Nat.ne_of_lt (Nat.lt_of_lt_of_le (by have := World.block_lt_of_cell? _ _ hw123_0; first | rwa [add_block] at this | exact this) GW124.out)) | (show (Addr.add _ _).block ≠ _; rw [add_block]; exact Nat.ne_of_lt (Nat.lt_of_lt_of_le (by have := World.block_lt_of_cell? _ _ hw123_0; first | rwa [add_block] at this | exact this) GW124.out)) | (dsimp only; exact Nat.ne_of_lt (Nat.lt_of_lt_of_le (by have := World.block_lt_of_cell? _ _ hw123_0; first | rwa [add_block] at this | exact this) GW124.out))) _).trans (hHeld.2.2.2.1)))))), ((cell_far (p := ⟨gb124, _, none⟩) (by first | exact Nat.ne_of_lt (Nat.lt_of_lt_of_le (by have := World.block_lt_of_cell? _ _ hw123_1; first | rwa [add_block] at this | exact this) GW124.out) | (rw [add_block]; exact Nat.ne_of_lt (Nat.lt_of_lt_of_le (by have := World.block_lt_of_cell? _ _ hw123_1; first | rwa [add_block] at this | exact this) GW124.out)) | (show (Addr.add _ _).block ≠ _; rw [add_block]; exact Nat.ne_of_lt (Nat.lt_of_lt_of_le (by have := World.block_lt_of_cell? _ _ hw123_1; first | rwa [add_block] at this | exact this) GW124.out)) | (dsimp only; exact Nat.ne_of_lt (Nat.lt_of_lt_of_le (by have := World.block_lt_of_cell? _ _ hw123_1; first | rwa [add_block] at this | exact this) GW124.out))) _).trans (((cell_far (p := ⟨gb124, _, none⟩) (by first | exact Nat.ne_of_lt (Nat.lt_of_lt_of_le (by have := World.block_lt_of_cell? _ _ hw123_1; first | rwa [add_block] at this | exact this) GW124.out) | (rw [add_block]; exact Nat.ne_of_lt (Nat.lt_of_lt_of_le (by have := World.block_lt_of_cell? _ _ hw123_1; first | rwa [add_block] at this | exact this) GW124.out)) | (show (Addr.add _ _).block ≠ _; rw [add_block]; exact Nat.ne_of_lt (Nat.lt_of_lt_of_le (by have := World.block_lt_of_cell? _ _ hw123_1; first | rwa [add_block] at this | exact this) GW124.out)) | (dsimp only; exact Nat.ne_of_lt (Nat.lt_of_lt_of_le (by have := World.block_lt_of_cell? _ _ hw123_1; first | rwa [add_block] at this | exact this) GW124.out))) _).trans (((cell_far (p := ⟨gb124, _, none⟩) (by first | exact Nat.ne_of_lt (Nat.lt_of_lt_of_le (by have := World.block_lt_of_cell? _ _ hw123_1; first | rwa [add_block] at this | exact this) GW124.out) | (rw [add_block]; exact Nat.ne_of_lt (Nat.lt_of_lt_of_le (by have := World.block_lt_of_cell? _ _ hw123_1; first | rwa [add_block] at this | exact this) GW124.out)) | (show (Addr.add _ _).block ≠ _; rw [add_block]; exact Nat.ne_of_lt (Nat.lt_of_lt_of_le (by have := World.block_lt_of_cell? _ _ hw123_1; first | rwa [add_block] at this | exact this) GW124.out)) | (dsimp only; exact Nat.ne_of_lt (Nat.lt_of_lt_of_le (by have := World.block_lt_of_cell? _ _ hw123_1; first | rwa [add_block] at this | exact this) GW124.out))) _).trans (hHeld.2.2.2.2.1)))))), ((cell_far (p := ⟨gb124, _, none⟩) (by first | exact Nat.ne_of_lt (Nat.lt_of_lt_of_le (by have := World.block_lt_of_cell? _ _ hw123_2; first | rwa [add_block] at this | exact this) GW124.out) | (rw [add_block]; exact Nat.ne_of_lt (Nat.lt_of_lt_of_le (by have := World.block_lt_of_cell? _ _ hw123_2; first | rwa [add_block] at this | exact this) GW124.out)) | (show (Addr.add _ _).block ≠ _; rw [add_block]; exact Nat.ne_of_lt (Nat.lt_of_lt_of_le (by have := World.block_lt_of_cell? _ _ hw123_2; first | rwa [add_block] at this | exact this) GW124.out)) | (dsimp only; exact Nat.ne_of_lt (Nat.lt_of_lt_of_le (by have := World.block_lt_of_cell? _ _ hw123_2; first | rwa [add_block] at this | exact this) GW124.out))) _).trans (((cell_far (p := ⟨gb124, _, none⟩) (by first | exact Nat.ne_of_lt (Nat.lt_of_lt_of_le (by have := World.block_lt_of_cell? _ _ hw123_2; first | rwa [add_block] at this | exact this) GW124.out) | (rw [add_block]; exact Nat.ne_of_lt (Nat.lt_of_lt_of_le (by have := World.block_lt_of_cell? _ _ hw123_2; first | rwa [add_block] at this | exact this) GW124.out)) | (show (Addr.add _ _).block ≠ _; rw [add_block]; exact Nat.ne_of_lt (Nat.lt_of_lt_of_le (by have := World.block_lt_of_cell? _ _ hw123_2; first | rwa [add_block] at this | exact this) GW124.out)) | (dsimp only; exact Nat.ne_of_lt (Nat.lt_of_lt_of_le (by have := World.block_lt_of_cell? _ _ hw123_2; first | rwa [add_block] at this | exact this) GW124.out))) _).trans (((cell_far (p := ⟨gb124, _, none⟩) (by first | exact Nat.ne_of_lt (Nat.lt_of_lt_of_le (by have := World.block_lt_of_cell? _ _ hw123_2; first | rwa [add_block] at this | exact this) GW124.out) | (rw [add_block]; exact Nat.ne_of_lt (Nat.lt_of_lt_of_le (by have := World.block_lt_of_cell? _ _ hw123_2; first | rwa [add_block] at this | exact this) GW124.out)) | (show (Addr.add _ _).block ≠ _; rw [add_block]; exact Nat.ne_of_lt (Nat.lt_of_lt_of_le (by have := World.block_lt_of_cell? _ _ hw123_2; first | rwa [add_block] at this | exact this) GW124.out)) | (dsimp only; exact Nat.ne_of_lt (Nat.lt_of_lt_of_le (by have := World.block_lt_of_cell? _ _ hw123_2; first | rwa [add_block] at this | exact this) GW124.out))) _).trans (hHeld.2.2.2.2.2))))))⟩ (fun hHeld => ?_)
                              clear hK K
                              refine one_ (i := 12) (N := none) #[true, true, true, true, true, true, true, true, true, true, true, true, true] rfl rfl (one_of HT_.out (by kernel_rfl)) (by decide) (fun K hK => ?_)
                              have hs47 : w43.cell? ⟨gb125, 0, none⟩ = some (.int .i64 0) := (blk_cell BK125.out 0).trans rfl
                              have hfs47 := blk_frozen BK125.out 0
                              have hns47_0 := NB124_125.out
                              have hms47_0 := NB125_124.out
                              have hs48 : w43.cell? ⟨gb125, 1, none⟩ = some (.int .i64 0) := (blk_cell BK125.out 1).trans rfl
                              have hfs48 := blk_frozen BK125.out 1
                              have hns48_0 := NB124_125.out
                              have hms48_0 := NB125_124.out
                              have hs49 : w43.cell? ⟨gb125, 2, none⟩ = some (.int .i64 0) := (blk_cell BK125.out 2).trans rfl
                              have hfs49 := blk_frozen BK125.out 2
                              have hns49_0 := NB124_125.out
                              have hms49_0 := NB125_124.out
                              refine skip_ (w1 := ?_) (by rfl) rfl ?_ ?_
                              rotate_left
                              · go_simp
                                rfl
                              refine hK.out _ _ ⟨((cell_far (p := ⟨gb125, _, none⟩) (by first | exact Nat.ne_of_lt (Nat.lt_of_lt_of_le (by have := World.block_lt_of_cell? _ _ hw122_0; first | rwa [add_block] at this | exact this) GW125.out) | (rw [add_block]; exact Nat.ne_of_lt (Nat.lt_of_lt_of_le (by have := World.block_lt_of_cell? _ _ hw122_0; first | rwa [add_block] at this | exact this) GW125.out)) | (show (Addr.add _ _).block ≠ _; rw [add_block]; exact Nat.ne_of_lt (Nat.lt_of_lt_of_le (by have := World.block_lt_of_cell? _ _ hw122_0; first | rwa [add_block] at this | exact this) GW125.out)) | (dsimp only; exact Nat.ne_of_lt (Nat.lt_of_lt_of_le (by have := World.block_lt_of_cell? _ _ hw122_0; first | rwa [add_block] at this | exact this) GW125.out))) _).trans (((cell_far (p := ⟨gb125, _, none⟩) (by first | exact Nat.ne_of_lt (Nat.lt_of_lt_of_le (by have := World.block_lt_of_cell? _ _ hw122_0; first | rwa [add_block] at this | exact this) GW125.out) | (rw [add_block]; exact Nat.ne_of_lt (Nat.lt_of_lt_of_le (by have := World.block_lt_of_cell? _ _ hw122_0; first | rwa [add_block] at this | exact this) GW125.out)) | (show (Addr.add _ _).block ≠ _; rw [add_block]; exact Nat.ne_of_lt (Nat.lt_of_lt_of_le (by have := World.block_lt_of_cell? _ _ hw122_0; first | rwa [add_block] at this | exact this) GW125.out)) | (dsimp only; exact Nat.ne_of_lt (Nat.lt_of_lt_of_le (by have := World.block_lt_of_cell? _ _ hw122_0; first | rwa [add_block] at this | exact this) GW125.out))) _).trans (((cell_far (p := ⟨gb125, _, none⟩) (by first | exact Nat.ne_of_lt (Nat.lt_of_lt_of_le (by have := World.block_lt_of_cell? _ _ hw122_0; first | rwa [add_block] at this | exact this) GW125.out) | (rw [add_block]; exact Nat.ne_of_lt (Nat.lt_of_lt_of_le (by have := World.block_lt_of_cell? _ _ hw122_0; first | rwa [add_block] at this | exact this) GW125.out)) | (show (Addr.add _ _).block ≠ _; rw [add_block]; exact Nat.ne_of_lt (Nat.lt_of_lt_of_le (by have := World.block_lt_of_cell? _ _ hw122_0; first | rwa [add_block] at this | exact this) GW125.out)) | (dsimp only; exact Nat.ne_of_lt (Nat.lt_of_lt_of_le (by have := World.block_lt_of_cell? _ _ hw122_0; first | rwa [add_block] at this | exact this) GW125.out))) _).trans (hHeld.1)))))), ((cell_far (p := ⟨gb125, _, none⟩) (by first | exact Nat.ne_of_lt (Nat.lt_of_lt_of_le (by have := World.block_lt_of_cell? _ _ hw122_1; first | rwa [add_block] at this | exact this) GW125.out) | (rw [add_block]; exact Nat.ne_of_lt (Nat.lt_of_lt_of_le (by have := World.block_lt_of_cell? _ _ hw122_1; first | rwa [add_block] at this | exact this) GW125.out)) | (show (Addr.add _ _).block ≠ _; rw [add_block]; exact Nat.ne_of_lt (Nat.lt_of_lt_of_le (by have := World.block_lt_of_cell? _ _ hw122_1; first | rwa [add_block] at this | exact this) GW125.out)) | (dsimp only; exact Nat.ne_of_lt (Nat.lt_of_lt_of_le (by have := World.block_lt_of_cell? _ _ hw122_1; first | rwa [add_block] at this | exact this) GW125.out))) _).trans (((cell_far (p := ⟨gb125, _, none⟩) (by first | exact Nat.ne_of_lt (Nat.lt_of_lt_of_le (by have := World.block_lt_of_cell? _ _ hw122_1; first | rwa [add_block] at this | exact this) GW125.out) | (rw [add_block]; exact Nat.ne_of_lt (Nat.lt_of_lt_of_le (by have := World.block_lt_of_cell? _ _ hw122_1; first | rwa [add_block] at this | exact this) GW125.out)) | (show (Addr.add _ _).block ≠ _; rw [add_block]; exact Nat.ne_of_lt (Nat.lt_of_lt_of_le (by have := World.block_lt_of_cell? _ _ hw122_1; first | rwa [add_block] at this | exact this) GW125.out)) | (dsimp only; exact Nat.ne_of_lt (Nat.lt_of_lt_of_le (by have := World.block_lt_of_cell? _ _ hw122_1; first | rwa [add_block] at this | exact this) GW125.out))) _).trans (((cell_far (p := ⟨gb125, _, none⟩) (by first | exact Nat.ne_of_lt (Nat.lt_of_lt_of_le (by have := World.block_lt_of_cell? _ _ hw122_1; first | rwa [add_block] at this | exact this) GW125.out) | (rw [add_block]; exact Nat.ne_of_lt (Nat.lt_of_lt_of_le (by have := World.block_lt_of_cell? _ _ hw122_1; first | rwa [add_block] at this | exact this) GW125.out)) | (show (Addr.add _ _).block ≠ _; rw [add_block]; exact Nat.ne_of_lt (Nat.lt_of_lt_of_le (by have := World.block_lt_of_cell? _ _ hw122_1; first | rwa [add_block] at this | exact this) GW125.out)) | (dsimp only; exact Nat.ne_of_lt (Nat.lt_of_lt_of_le (by have := World.block_lt_of_cell? _ _ hw122_1; first | rwa [add_block] at this | exact this) GW125.out))) _).trans (hHeld.2.1)))))), ((cell_far (p := ⟨gb125, _, none⟩) (by first | exact Nat.ne_of_lt (Nat.lt_of_lt_of_le (by have := World.block_lt_of_cell? _ _ hw122_2; first | rwa [add_block] at this | exact this) GW125.out) | (rw [add_block]; exact Nat.ne_of_lt (Nat.lt_of_lt_of_le (by have := World.block_lt_of_cell? _ _ hw122_2; first | rwa [add_block] at this | exact this) GW125.out)) | (show (Addr.add _ _).block ≠ _; rw [add_block]; exact Nat.ne_of_lt (Nat.lt_of_lt_of_le (by have := World.block_lt_of_cell? _ _ hw122_2; first | rwa [add_block] at this | exact this) GW125.out)) | (dsimp only; exact Nat.ne_of_lt (Nat.lt_of_lt_of_le (by have := World.block_lt_of_cell? _ _ hw122_2; first | rwa [add_block] at this | exact this) GW125.out))) _).trans (((cell_far (p := ⟨gb125, _, none⟩) (by first | exact Nat.ne_of_lt (Nat.lt_of_lt_of_le (by have := World.block_lt_of_cell? _ _ hw122_2; first | rwa [add_block] at this | exact this) GW125.out) | (rw [add_block]; exact Nat.ne_of_lt (Nat.lt_of_lt_of_le (by have := World.block_lt_of_cell? _ _ hw122_2; first | rwa [add_block] at this | exact this) GW125.out)) | (show (Addr.add _ _).block ≠ _; rw [add_block]; exact Nat.ne_of_lt (Nat.lt_of_lt_of_le (by have := World.block_lt_of_cell? _ _ hw122_2; first | rwa [add_block] at this | exact this) GW125.out)) | (dsimp only; exact Nat.ne_of_lt (Nat.lt_of_lt_of_le (by have := World.block_lt_of_cell? _ _ hw122_2; first | rwa [add_block] at this | exact this) GW125.out))) _).trans (((cell_far (p := ⟨gb125, _, none⟩) (by first | exact Nat.ne_of_lt (Nat.lt_of_lt_of_le (by have := World.block_lt_of_cell? _ _ hw122_2; first | rwa [add_block] at this | exact this) GW125.out) | (rw [add_block]; exact Nat.ne_of_lt (Nat.lt_of_lt_of_le (by have := World.block_lt_of_cell? _ _ hw122_2; first | rwa [add_block] at this | exact this) GW125.out)) | (show (Addr.add _ _).block ≠ _; rw [add_block]; exact Nat.ne_of_lt (Nat.lt_of_lt_of_le (by have := World.block_lt_of_cell? _ _ hw122_2; first | rwa [add_block] at this | exact this) GW125.out)) | (dsimp only; exact Nat.ne_of_lt (Nat.lt_of_lt_of_le (by have := World.block_lt_of_cell? _ _ hw122_2; first | rwa [add_block] at this | exact this) GW125.out))) _).trans (hHeld.2.2.1)))))), ((cell_far (p := ⟨gb125, _, none⟩) (by first | exact Nat.ne_of_lt (Nat.lt_of_lt_of_le (by have := World.block_lt_of_cell? _ _ hw123_0; first | rwa [add_block] at this | exact this) GW125.out) | (rw [add_block]; exact Nat.ne_of_lt (Nat.lt_of_lt_of_le (by have := World.block_lt_of_cell? _ _ hw123_0; first | rwa [add_block] at this | exact this) GW125.out)) | (show (Addr.add _ _).block ≠ _; rw [add_block]; exact Nat.ne_of_lt (Nat.lt_of_lt_of_le (by have := World.block_lt_of_cell? _ _ hw123_0; first | rwa [add_block] at this | exact this) GW125.out)) | (dsimp only; exact Nat.ne_of_lt (Nat.lt_of_lt_of_le (by have := World.block_lt_of_cell? _ _ hw123_0; first | rwa [add_block] at this | exact this) GW125.out))) _).trans (((cell_far (p := ⟨gb125, _, none⟩) (by first | exact Nat.ne_of_lt (Nat.lt_of_lt_of_le (by have := World.block_lt_of_cell? _ _ hw123_0; first | rwa [add_block] at this | exact this) GW125.out) | (rw [add_block]; exact Nat.ne_of_lt (Nat.lt_of_lt_of_le (by have := World.block_lt_of_cell? _ _ hw123_0; first | rwa [add_block] at this | exact this) GW125.out)) | (show (Addr.add _ _).block ≠ _; rw [add_block]; exact Nat.ne_of_lt (Nat.lt_of_lt_of_le (by have := World.block_lt_of_cell? _ _ hw123_0; first | rwa [add_block] at this | exact this) GW125.out)) | (dsimp only; exact Nat.ne_of_lt (Nat.lt_of_lt_of_le (by have := World.block_lt_of_cell? _ _ hw123_0; first | rwa [add_block] at this | exact this) GW125.out))) _).trans (((cell_far (p := ⟨gb125, _, none⟩) (by first | exact Nat.ne_of_lt (Nat.lt_of_lt_of_le (by have := World.block_lt_of_cell? _ _ hw123_0; first | rwa [add_block] at this | exact this) GW125.out) | (rw [add_block]; exact Nat.ne_of_lt (Nat.lt_of_lt_of_le (by have := World.block_lt_of_cell? _ _ hw123_0; first | rwa [add_block] at this | exact this) GW125.out)) | (show (Addr.add _ _).block ≠ _; rw [add_block]; exact Nat.ne_of_lt (Nat.lt_of_lt_of_le (by have := World.block_lt_of_cell? _ _ hw123_0; first | rwa [add_block] at this | exact this) GW125.out)) | (dsimp only; exact Nat.ne_of_lt (Nat.lt_of_lt_of_le (by have := World.block_lt_of_cell? _ _ hw123_0; first | rwa [add_block] at this | exact this) GW125.out))) _).trans (hHeld.2.2.2.1)))))), ((cell_far (p := ⟨gb125, _, none⟩) (by first | exact Nat.ne_of_lt (Nat.lt_of_lt_of_le (by have := World.block_lt_of_cell? _ _ hw123_1; first | rwa [add_block] at this | exact this) GW125.out) | (rw [add_block]; exact Nat.ne_of_lt (Nat.lt_of_lt_of_le (by have := World.block_lt_of_cell? _ _ hw123_1; first | rwa [add_block] at this | exact this) GW125.out)) | (show (Addr.add _ _).block ≠ _; rw [add_block]; exact Nat.ne_of_lt (Nat.lt_of_lt_of_le (by have := World.block_lt_of_cell? _ _ hw123_1; first | rwa [add_block] at this | exact this) GW125.out)) | (dsimp only; exact Nat.ne_of_lt (Nat.lt_of_lt_of_le (by have := World.block_lt_of_cell? _ _ hw123_1; first | rwa [add_block] at this | exact this) GW125.out))) _).trans (((cell_far (p := ⟨gb125, _, none⟩) (by first | exact Nat.ne_of_lt (Nat.lt_of_lt_of_le (by have := World.block_lt_of_cell? _ _ hw123_1; first | rwa [add_block] at this | exact this) GW125.out) | (rw [add_block]; exact Nat.ne_of_lt (Nat.lt_of_lt_of_le (by have := World.block_lt_of_cell? _ _ hw123_1; first | rwa [add_block] at this | exact this) GW125.out)) | (show (Addr.add _ _).block ≠ _; rw [add_block]; exact Nat.ne_of_lt (Nat.lt_of_lt_of_le (by have := World.block_lt_of_cell? _ _ hw123_1; first | rwa [add_block] at this | exact this) GW125.out)) | (dsimp only; exact Nat.ne_of_lt (Nat.lt_of_lt_of_le (by have := World.block_lt_of_cell? _ _ hw123_1; first | rwa [add_block] at this | exact this) GW125.out))) _).trans (((cell_far (p := ⟨gb125, _, none⟩) (by first | exact Nat.ne_of_lt (Nat.lt_of_lt_of_le (by have := World.block_lt_of_cell? _ _ hw123_1; first | rwa [add_block] at this | exact this) GW125.out) | (rw [add_block]; exact Nat.ne_of_lt (Nat.lt_of_lt_of_le (by have := World.block_lt_of_cell? _ _ hw123_1; first | rwa [add_block] at this | exact this) GW125.out)) | (show (Addr.add _ _).block ≠ _; rw [add_block]; exact Nat.ne_of_lt (Nat.lt_of_lt_of_le (by have := World.block_lt_of_cell? _ _ hw123_1; first | rwa [add_block] at this | exact this) GW125.out)) | (dsimp only; exact Nat.ne_of_lt (Nat.lt_of_lt_of_le (by have := World.block_lt_of_cell? _ _ hw123_1; first | rwa [add_block] at this | exact this) GW125.out))) _).trans (hHeld.2.2.2.2.1)))))), ((cell_far (p := ⟨gb125, _, none⟩) (by first | exact Nat.ne_of_lt (Nat.lt_of_lt_of_le (by have := World.block_lt_of_cell? _ _ hw123_2; first | rwa [add_block] at this | exact this) GW125.out) | (rw [add_block]; exact Nat.ne_of_lt (Nat.lt_of_lt_of_le (by have := World.block_lt_of_cell? _ _ hw123_2; first | rwa [add_block] at this | exact this) GW125.out)) | (show (Addr.add _ _).block ≠ _; rw [add_block]; exact Nat.ne_of_lt (Nat.lt_of_lt_of_le (by have := World.block_lt_of_cell? _ _ hw123_2; first | rwa [add_block] at this | exact this) GW125.out)) | (dsimp only; exact Nat.ne_of_lt (Nat.lt_of_lt_of_le (by have := World.block_lt_of_cell? _ _ hw123_2; first | rwa [add_block] at this | exact this) GW125.out))) _).trans (((cell_far (p := ⟨gb125, _, none⟩) (by first | exact Nat.ne_of_lt (Nat.lt_of_lt_of_le (by have := World.block_lt_of_cell? _ _ hw123_2; first | rwa [add_block] at this | exact this) GW125.out) | (rw [add_block]; exact Nat.ne_of_lt (Nat.lt_of_lt_of_le (by have := World.block_lt_of_cell? _ _ hw123_2; first | rwa [add_block] at this | exact this) GW125.out)) | (show (Addr.add _ _).block ≠ _; rw [add_block]; exact Nat.ne_of_lt (Nat.lt_of_lt_of_le (by have := World.block_lt_of_cell? _ _ hw123_2; first | rwa [add_block] at this | exact this) GW125.out)) | (dsimp only; exact Nat.ne_of_lt (Nat.lt_of_lt_of_le (by have := World.block_lt_of_cell? _ _ hw123_2; first | rwa [add_block] at this | exact this) GW125.out))) _).trans (((cell_far (p := ⟨gb125, _, none⟩) (by first | exact Nat.ne_of_lt (Nat.lt_of_lt_of_le (by have := World.block_lt_of_cell? _ _ hw123_2; first | rwa [add_block] at this | exact this) GW125.out) | (rw [add_block]; exact Nat.ne_of_lt (Nat.lt_of_lt_of_le (by have := World.block_lt_of_cell? _ _ hw123_2; first | rwa [add_block] at this | exact this) GW125.out)) | (show (Addr.add _ _).block ≠ _; rw [add_block]; exact Nat.ne_of_lt (Nat.lt_of_lt_of_le (by have := World.block_lt_of_cell? _ _ hw123_2; first | rwa [add_block] at this | exact this) GW125.out)) | (dsimp only; exact Nat.ne_of_lt (Nat.lt_of_lt_of_le (by have := World.block_lt_of_cell? _ _ hw123_2; first | rwa [add_block] at this | exact this) GW125.out))) _).trans (hHeld.2.2.2.2.2))))))⟩ (fun hHeld => ?_)
                              clear hK K
                              refine done_ (done_of HT_.out (by kernel_rfl)) ?_
                              have p126 : 0 ≤ (x7_2 : Int) := of_decide_eq_true (by first | (with_reducible assumption) | assumption)
                              have q126 : x7_2 < (l1.length : Int) := of_decide_eq_true (by first | (with_reducible assumption) | assumption)
                              obtain ⟨ad126, e126, hx126_0⟩ := Kd.at_bool HR1.out x7_2 p126 q126
                              (try rw [← Nbq12.out] at hx126_0)
                              cases e126
                              have hn126_0 : ad126.block ≠ gb124 := Nat.ne_of_lt (Nat.lt_of_lt_of_le (by have := World.block_lt_of_cell? _ _ hx126_0; first | rwa [add_block] at this | exact this) GW124.out)
                              have hn126_1 : ad126.block ≠ gb124 := Nat.ne_of_lt (Nat.lt_of_lt_of_le (by have := World.block_lt_of_cell? _ _ hx126_0; first | rwa [add_block] at this | exact this) GW124.out)
                              have hn126_2 : ad126.block ≠ gb124 := Nat.ne_of_lt (Nat.lt_of_lt_of_le (by have := World.block_lt_of_cell? _ _ hx126_0; first | rwa [add_block] at this | exact this) GW124.out)
                              have hn126_3 : ad126.block ≠ gb125 := Nat.ne_of_lt (Nat.lt_of_lt_of_le (by have := World.block_lt_of_cell? _ _ hx126_0; first | rwa [add_block] at this | exact this) GW125.out)
                              have hn126_4 : ad126.block ≠ gb125 := Nat.ne_of_lt (Nat.lt_of_lt_of_le (by have := World.block_lt_of_cell? _ _ hx126_0; first | rwa [add_block] at this | exact this) GW125.out)
                              have hn126_5 : ad126.block ≠ gb125 := Nat.ne_of_lt (Nat.lt_of_lt_of_le (by have := World.block_lt_of_cell? _ _ hx126_0; first | rwa [add_block] at this | exact this) GW125.out)
                              replace hx126_0 := (HB.out.cell (World.block_lt_of_cell? w _ hx126_0)).trans hx126_0
                              replace hx126_0 := (cell_far (p := ⟨gb124, 0, none⟩) (by first | (rw [add_block]; exact hn126_0) | (show (Addr.add _ _).block ≠ _; rw [add_block]; exact hn126_0) | exact hn126_0) (.int .i64 ((rd_T57 l0 x7_2).f0))).trans hx126_0
                              replace hx126_0 := (cell_far (p := ⟨gb124, 1, none⟩) (by first | (rw [add_block]; exact hn126_1) | (show (Addr.add _ _).block ≠ _; rw [add_block]; exact hn126_1) | exact hn126_1) (.int .i64 ((rd_T57 l0 x7_2).f1))).trans hx126_0
                              replace hx126_0 := (cell_far (p := ⟨gb124, 2, none⟩) (by first | (rw [add_block]; exact hn126_2) | (show (Addr.add _ _).block ≠ _; rw [add_block]; exact hn126_2) | exact hn126_2) (.int .i64 ((rd_T57 l0 x7_2).f2))).trans hx126_0
                              replace hx126_0 := (cell_far (p := ⟨gb125, 0, none⟩) (by first | (rw [add_block]; exact hn126_3) | (show (Addr.add _ _).block ≠ _; rw [add_block]; exact hn126_3) | exact hn126_3) (.int .i64 ((rd_T57 l0 (ji8)).f0))).trans hx126_0
                              replace hx126_0 := (cell_far (p := ⟨gb125, 1, none⟩) (by first | (rw [add_block]; exact hn126_4) | (show (Addr.add _ _).block ≠ _; rw [add_block]; exact hn126_4) | exact hn126_4) (.int .i64 ((rd_T57 l0 (ji8)).f1))).trans hx126_0
                              replace hx126_0 := (cell_far (p := ⟨gb125, 2, none⟩) (by first | (rw [add_block]; exact hn126_5) | (show (Addr.add _ _).block ≠ _; rw [add_block]; exact hn126_5) | exact hn126_5) (.int .i64 ((rd_T57 l0 (ji8)).f2))).trans hx126_0
                              clear hn126_0
                              clear hn126_1
                              clear hn126_2
                              clear hn126_3
                              clear hn126_4
                              clear hn126_5
                              replace p126 := eq_true p126
                              replace q126 := eq_true q126
                              have hnb50 := NB125_124.out
                              have hnc50 := NB124_125.out
                              have hcz51_0 : w43.cell? ⟨gb125, 0, none⟩ = some (.int .i64 0) := (blk_cell BK125.out 0).trans rfl
                              have hcz51_1 : w43.cell? ⟨gb125, 1, none⟩ = some (.int .i64 0) := (blk_cell BK125.out 1).trans rfl
                              have hcz51_2 : w43.cell? ⟨gb125, 2, none⟩ = some (.int .i64 0) := (blk_cell BK125.out 2).trans rfl
                              have hfz51_0 := blk_frozen BK125.out 0
                              have hfz51_1 := blk_frozen BK125.out 1
                              have hfz51_2 := blk_frozen BK125.out 2
                              have hcz52_0 : w43.cell? ⟨gb124, 0, none⟩ = some (.int .i64 0) := (blk_cell BK124.out 0).trans rfl
                              have hcz52_1 : w43.cell? ⟨gb124, 1, none⟩ = some (.int .i64 0) := (blk_cell BK124.out 1).trans rfl
                              have hcz52_2 : w43.cell? ⟨gb124, 2, none⟩ = some (.int .i64 0) := (blk_cell BK124.out 2).trans rfl
                              have hfz52_0 := blk_frozen BK124.out 0
                              have hfz52_1 := blk_frozen BK124.out 1
                              have hfz52_2 := blk_frozen BK124.out 2
                              try go_wp2
                              have n0_ : Aside0 (Kd.R k23 23 ((((((w43.setCell ⟨gb124, 0, none⟩ (.int .i64 ((rd_T57 l0 x7_2).f0))).setCell ⟨gb124, 1, none⟩ (.int .i64 ((rd_T57 l0 x7_2).f1))).setCell ⟨gb124, 2, none⟩ (.int .i64 ((rd_T57 l0 x7_2).f2))).setCell ⟨gb125, 0, none⟩ (.int .i64 ((rd_T57 l0 (ji8)).f0))).setCell ⟨gb125, 1, none⟩ (.int .i64 ((rd_T57 l0 (ji8)).f1))).setCell ⟨gb125, 2, none⟩ (.int .i64 ((rd_T57 l0 (ji8)).f2))) w.heap.size (fun _ => True) u6 x6_2) := ⟨by (with_reducible repeat (first | apply Kd.R_alloc | apply Kd.R_drewN | apply Kd.R_drew)); exact Kd.R_mono (Kd.R_far (p := ⟨gb125, 2, none⟩) (Kd.R_far (p := ⟨gb125, 1, none⟩) (Kd.R_far (p := ⟨gb125, 0, none⟩) (Kd.R_far (p := ⟨gb124, 2, none⟩) (Kd.R_far (p := ⟨gb124, 1, none⟩) (Kd.R_far (p := ⟨gb124, 0, none⟩) (Kd.R_types (Kd.R_types HO_6.out BK124.out (by decide)) BK125.out (by decide)) (fun _ hk => hk.1.2) (.int .i64 ((rd_T57 l0 x7_2).f0))) (fun _ hk => hk.1.2) (.int .i64 ((rd_T57 l0 x7_2).f1))) (fun _ hk => hk.1.2) (.int .i64 ((rd_T57 l0 x7_2).f2))) (fun _ hk => hk.2) (.int .i64 ((rd_T57 l0 (ji8)).f0))) (fun _ hk => hk.2) (.int .i64 ((rd_T57 l0 (ji8)).f1))) (fun _ hk => hk.2) (.int .i64 ((rd_T57 l0 (ji8)).f2))) (fun _ hk => trivial)⟩
                              have n1_ : Aside0 (((((((w43.setCell ⟨gb124, 0, none⟩ (.int .i64 ((rd_T57 l0 x7_2).f0))).setCell ⟨gb124, 1, none⟩ (.int .i64 ((rd_T57 l0 x7_2).f1))).setCell ⟨gb124, 2, none⟩ (.int .i64 ((rd_T57 l0 x7_2).f2))).setCell ⟨gb125, 0, none⟩ (.int .i64 ((rd_T57 l0 (ji8)).f0))).setCell ⟨gb125, 1, none⟩ (.int .i64 ((rd_T57 l0 (ji8)).f1))).setCell ⟨gb125, 2, none⟩ (.int .i64 ((rd_T57 l0 (ji8)).f2))).heap[gb124]? = some (.cells #[.int .i64 ((rd_T57 l0 x7_2).f0), .int .i64 ((rd_T57 l0 x7_2).f1), .int .i64 ((rd_T57 l0 x7_2).f2)] 57 (0, 0))) := ⟨by (with_reducible repeat (first | refine blk_drewN ?_ _ | refine blk_drew ?_ | refine blk_alloc ?_ _)); refine blk_far ?_ NB124_125.out _; (with_reducible repeat (first | refine blk_drewN ?_ _ | refine blk_drew ?_ | refine blk_alloc ?_ _)); refine blk_far ?_ NB124_125.out _; (with_reducible repeat (first | refine blk_drewN ?_ _ | refine blk_drew ?_ | refine blk_alloc ?_ _)); refine blk_far ?_ NB124_125.out _; (with_reducible repeat (first | refine blk_drewN ?_ _ | refine blk_drew ?_ | refine blk_alloc ?_ _)); refine blk_put (cs := #[.int .i64 ((rd_T57 l0 x7_2).f0), .int .i64 ((rd_T57 l0 x7_2).f1), .int .i64 0]) ?_ 2 _ rfl; (with_reducible repeat (first | refine blk_drewN ?_ _ | refine blk_drew ?_ | refine blk_alloc ?_ _)); refine blk_put (cs := #[.int .i64 ((rd_T57 l0 x7_2).f0), .int .i64 0, .int .i64 0]) ?_ 1 _ rfl; (with_reducible repeat (first | refine blk_drewN ?_ _ | refine blk_drew ?_ | refine blk_alloc ?_ _)); refine blk_put (cs := #[.int .i64 0, .int .i64 0, .int .i64 0]) ?_ 0 _ rfl; (with_reducible repeat (first | refine blk_drewN ?_ _ | refine blk_drew ?_ | refine blk_alloc ?_ _)); exact BK124.out⟩
                              have n2_ : Aside0 (((((((w43.setCell ⟨gb124, 0, none⟩ (.int .i64 ((rd_T57 l0 x7_2).f0))).setCell ⟨gb124, 1, none⟩ (.int .i64 ((rd_T57 l0 x7_2).f1))).setCell ⟨gb124, 2, none⟩ (.int .i64 ((rd_T57 l0 x7_2).f2))).setCell ⟨gb125, 0, none⟩ (.int .i64 ((rd_T57 l0 (ji8)).f0))).setCell ⟨gb125, 1, none⟩ (.int .i64 ((rd_T57 l0 (ji8)).f1))).setCell ⟨gb125, 2, none⟩ (.int .i64 ((rd_T57 l0 (ji8)).f2))).heap[gb125]? = some (.cells #[.int .i64 ((rd_T57 l0 (ji8)).f0), .int .i64 ((rd_T57 l0 (ji8)).f1), .int .i64 ((rd_T57 l0 (ji8)).f2)] 57 (0, 0))) := ⟨by (with_reducible repeat (first | refine blk_drewN ?_ _ | refine blk_drew ?_ | refine blk_alloc ?_ _)); refine blk_put (cs := #[.int .i64 ((rd_T57 l0 (ji8)).f0), .int .i64 ((rd_T57 l0 (ji8)).f1), .int .i64 0]) ?_ 2 _ rfl; (with_reducible repeat (first | refine blk_drewN ?_ _ | refine blk_drew ?_ | refine blk_alloc ?_ _)); refine blk_put (cs := #[.int .i64 ((rd_T57 l0 (ji8)).f0), .int .i64 0, .int .i64 0]) ?_ 1 _ rfl; (with_reducible repeat (first | refine blk_drewN ?_ _ | refine blk_drew ?_ | refine blk_alloc ?_ _)); refine blk_put (cs := #[.int .i64 0, .int .i64 0, .int .i64 0]) ?_ 0 _ rfl; (with_reducible repeat (first | refine blk_drewN ?_ _ | refine blk_drew ?_ | refine blk_alloc ?_ _)); refine blk_far ?_ NB125_124.out _; (with_reducible repeat (first | refine blk_drewN ?_ _ | refine blk_drew ?_ | refine blk_alloc ?_ _)); refine blk_far ?_ NB125_124.out _; (with_reducible repeat (first | refine blk_drewN ?_ _ | refine blk_drew ?_ | refine blk_alloc ?_ _)); refine blk_far ?_ NB125_124.out _; (with_reducible repeat (first | refine blk_drewN ?_ _ | refine blk_drew ?_ | refine blk_alloc ?_ _)); exact BK125.out⟩
                              have n3_ : Aside0 (Below w.heap.size w ((((((w43.setCell ⟨gb124, 0, none⟩ (.int .i64 ((rd_T57 l0 x7_2).f0))).setCell ⟨gb124, 1, none⟩ (.int .i64 ((rd_T57 l0 x7_2).f1))).setCell ⟨gb124, 2, none⟩ (.int .i64 ((rd_T57 l0 x7_2).f2))).setCell ⟨gb125, 0, none⟩ (.int .i64 ((rd_T57 l0 (ji8)).f0))).setCell ⟨gb125, 1, none⟩ (.int .i64 ((rd_T57 l0 (ji8)).f1))).setCell ⟨gb125, 2, none⟩ (.int .i64 ((rd_T57 l0 (ji8)).f2)))) := ⟨by repeat (first | (with_reducible first | exact HB.out | apply below_alloc | apply pw_below_drewN | apply below_drew1 | refine below_set ?_ GE124.out | refine below_set ?_ GE125.out) | exact HB.out)⟩
                              (try clear HO_6)
                              (try clear BK124)
                              (try clear BK125)
                              (try clear HB)
                              generalize ((((((w43.setCell ⟨gb124, 0, none⟩ (.int .i64 ((rd_T57 l0 x7_2).f0))).setCell ⟨gb124, 1, none⟩ (.int .i64 ((rd_T57 l0 x7_2).f1))).setCell ⟨gb124, 2, none⟩ (.int .i64 ((rd_T57 l0 x7_2).f2))).setCell ⟨gb125, 0, none⟩ (.int .i64 ((rd_T57 l0 (ji8)).f0))).setCell ⟨gb125, 1, none⟩ (.int .i64 ((rd_T57 l0 (ji8)).f1))).setCell ⟨gb125, 2, none⟩ (.int .i64 ((rd_T57 l0 (ji8)).f2))) = w53 at n0_ n1_ n2_ n3_ ⊢
                              have HO_6 := n0_
                              have BK124 := n1_
                              have BK125 := n2_
                              have HB := n3_
                              clear n0_ n1_ n2_ n3_
                              have n0_ := Aside0.mk (Kd.R_drew HO_6.out)
                              have n1_ := Aside0.mk (blk_drew BK124.out)
                              have n2_ := Aside0.mk (blk_drew BK125.out)
                              have n3_ := Aside0.mk (below_drew1 HB.out)
                              clear HO_6
                              clear BK124
                              clear BK125
                              clear HB
                              have HO_6 := n0_
                              have BK124 := n1_
                              have BK125 := n2_
                              have HB := n3_
                              clear n0_ n1_ n2_ n3_
                              have p127 : 0 ≤ ((ji8) : Int) := of_decide_eq_true (by first | (with_reducible assumption) | assumption)
                              have q127 : (ji8) < (l1.length : Int) := of_decide_eq_true (by first | (with_reducible assumption) | assumption)
                              obtain ⟨ad127, e127, hx127_0⟩ := Kd.at_bool HR1.out (ji8) p127 q127
                              have hw127_0 := hx127_0
                              (try rw [← Nbq12.out] at hx127_0)
                              obtain rfl : ad126 = ad127 := (by injection e127)
                              replace hx127_0 := (HB.out.cell (World.block_lt_of_cell? w _ hx127_0)).trans hx127_0
                              replace p127 := eq_true p127
                              replace q127 := eq_true q127
                              refine start_ (n := 18) (S := fun w' => w'.cell? ⟨gb124, 0, none⟩ = some (.int .i64 ((rd_T57 l0 x7_2).f0)) ∧ w'.cell? ⟨gb124, 1, none⟩ = some (.int .i64 ((rd_T57 l0 x7_2).f1)) ∧ w'.cell? ⟨gb124, 2, none⟩ = some (.int .i64 ((rd_T57 l0 x7_2).f2)) ∧ w'.cell? ⟨gb125, 0, none⟩ = some (.int .i64 ((rd_T57 l0 (ji8)).f0)) ∧ w'.cell? ⟨gb125, 1, none⟩ = some (.int .i64 ((rd_T57 l0 (ji8)).f1)) ∧ w'.cell? ⟨gb125, 2, none⟩ = some (.int .i64 ((rd_T57 l0 (ji8)).f2)) ∧ w'.cell? (ad126.add ((ji8)).toNat) = some (.bool (rdOf false l1 (ji8)))) (ds := []) #[false, false, false, false, false, false, false, false, false, false, false, false, false, false, false, false, false, false] (by kernel_rfl) rfl rfl ⟨(blk_cell BK124.out 0).trans rfl, (blk_cell BK124.out 1).trans rfl, (blk_cell BK124.out 2).trans rfl, (blk_cell BK125.out 0).trans rfl, (blk_cell BK125.out 1).trans rfl, (blk_cell BK125.out 2).trans rfl, ((HB.out.cell (World.block_lt_of_cell? w _ hw127_0)).trans hw127_0)⟩ (fun hHeld => ?_); refine with_tabW chg_Changes.tab10 chg_Changes.bits10 (fun HT_ HW_ => ?_)
                              generalize w53.drew = w54 at HO_6 BK124 BK125 HB hx127_0 hHeld ⊢
                              refine pure_ (i := 0) (N := some 49) (v := ?_) (a' := ?_) #[true, false, false, false, false, false, false, false, false, false, false, false, false, false, false, false, false, false] rfl rfl (any_of HT_.out (by kernel_rfl)) (fun _ _ _ h => h) (Or.inl ⟨by rfl, ?_⟩) ?_ ?_
                              rotate_left
                              · intro w'
                                go_simp
                                with_reducible rfl
                              rotate_left
                              · simp only [Act.put, List.setIfInBounds_toArray, List.set_cons_zero, List.set_cons_succ, i64_w, i32_w]
                                rfl
                              refine pure_ (i := 1) (N := some 50) (v := ?_) (a' := ?_) #[true, true, false, false, false, false, false, false, false, false, false, false, false, false, false, false, false, false] rfl rfl (any_of HT_.out (by kernel_rfl)) (fun _ _ _ h => h) (Or.inl ⟨by rfl, ?_⟩) ?_ ?_
                              rotate_left
                              · intro w'
                                go_simp
                                with_reducible rfl
                              rotate_left
                              · simp only [Act.put, List.setIfInBounds_toArray, List.set_cons_zero, List.set_cons_succ, i64_w, i32_w]
                                rfl
                              refine pure_ (i := 3) (N := some 52) (v := ?_) (a' := ?_) #[true, true, false, true, false, false, false, false, false, false, false, false, false, false, false, false, false, false] rfl rfl (any_of HT_.out (by kernel_rfl)) (fun _ _ _ h => h) (Or.inl ⟨by rfl, ?_⟩) ?_ ?_
                              rotate_left
                              · intro w'
                                go_simp
                                with_reducible rfl
                              rotate_left
                              · simp only [Act.put, List.setIfInBounds_toArray, List.set_cons_zero, List.set_cons_succ, i64_w, i32_w]
                                rfl
                              refine pure_ (i := 5) (N := some 54) (v := ?_) (a' := ?_) #[true, true, false, true, false, true, false, false, false, false, false, false, false, false, false, false, false, false] rfl rfl (any_of HT_.out (by kernel_rfl)) (fun _ _ _ h => h) (Or.inl ⟨by rfl, ?_⟩) ?_ ?_
                              rotate_left
                              · intro w'
                                go_simp
                                with_reducible rfl
                              rotate_left
                              · simp only [Act.put, List.setIfInBounds_toArray, List.set_cons_zero, List.set_cons_succ, i64_w, i32_w]
                                rfl
                              refine pure_ (i := 7) (N := some 56) (v := ?_) (a' := ?_) #[true, true, false, true, false, true, false, true, false, false, false, false, false, false, false, false, false, false] rfl rfl (any_of HT_.out (by kernel_rfl)) (fun _ _ _ h => h) (Or.inl ⟨by rfl, ?_⟩) ?_ ?_
                              rotate_left
                              · intro w'
                                go_simp
                                with_reducible rfl
                              rotate_left
                              · simp only [Act.put, List.setIfInBounds_toArray, List.set_cons_zero, List.set_cons_succ, i64_w, i32_w]
                                rfl
                              refine pure_ (i := 9) (N := some 58) (v := ?_) (a' := ?_) #[true, true, false, true, false, true, false, true, false, true, false, false, false, false, false, false, false, false] rfl rfl (any_of HT_.out (by kernel_rfl)) (fun _ _ _ h => h) (Or.inl ⟨by rfl, ?_⟩) ?_ ?_
                              rotate_left
                              · intro w'
                                go_simp
                                with_reducible rfl
                              rotate_left
                              · simp only [Act.put, List.setIfInBounds_toArray, List.set_cons_zero, List.set_cons_succ, i64_w, i32_w]
                                rfl
                              refine pure_ (i := 10) (N := some 59) (v := ?_) (a' := ?_) #[true, true, false, true, false, true, false, true, false, true, true, false, false, false, false, false, false, false] rfl rfl (any_of HT_.out (by kernel_rfl)) (fun _ _ _ h => h) (Or.inl ⟨by rfl, ?_⟩) ?_ ?_
                              rotate_left
                              · intro w'
                                go_simp
                                with_reducible rfl
                              rotate_left
                              · simp only [Act.put, List.setIfInBounds_toArray, List.set_cons_zero, List.set_cons_succ, i64_w, i32_w]
                                rfl
                              refine pure_ (i := 11) (N := some 60) (v := ?_) (a' := ?_) #[true, true, false, true, false, true, false, true, false, true, true, true, false, false, false, false, false, false] rfl rfl (any_of HT_.out (by kernel_rfl)) (fun _ _ _ h => h) (Or.inl ⟨by rfl, ?_⟩) ?_ ?_
                              rotate_left
                              · intro w'
                                go_simp
                                with_reducible rfl
                              rotate_left
                              · simp only [Act.put, List.setIfInBounds_toArray, List.set_cons_zero, List.set_cons_succ, i64_w, i32_w]
                                rfl
                              refine pure_ (i := 12) (N := some 61) (v := ?_) (a' := ?_) #[true, true, false, true, false, true, false, true, false, true, true, true, true, false, false, false, false, false] rfl rfl (any_of HT_.out (by kernel_rfl)) (fun _ _ _ h => h) (Or.inl ⟨by rfl, ?_⟩) ?_ ?_
                              rotate_left
                              · intro w'
                                go_simp
                                with_reducible rfl
                              rotate_left
                              · simp only [Act.put, List.setIfInBounds_toArray, List.set_cons_zero, List.set_cons_succ, i64_w, i32_w]
                                rfl
                              refine take_ (i := 2) (N := some 51) (v := ?_) (a' := ?_) #[true, true, true, true, false, true, false, true, false, true, true, true, true, false, false, false, false, false] rfl rfl (take_ofW HT_.out HW_.out (by kernel_rfl)) (fun _ _ _ h => h) (Or.inl ⟨by rfl, ?_⟩) hHeld ?_ ?_
                              rotate_left
                              · rintro w' ⟨s0, s1, s2, s3, s4, s5, s6⟩
                                go_simp
                                with_reducible rfl
                              rotate_left
                              · simp only [Act.put, List.setIfInBounds_toArray, List.set_cons_zero, List.set_cons_succ, i64_w, i32_w]
                                rfl
                              refine take_ (i := 4) (N := some 53) (v := ?_) (a' := ?_) #[true, true, true, true, true, true, false, true, false, true, true, true, true, false, false, false, false, false] rfl rfl (take_ofW HT_.out HW_.out (by kernel_rfl)) (fun _ _ _ h => h) (Or.inl ⟨by rfl, ?_⟩) hHeld ?_ ?_
                              rotate_left
                              · rintro w' ⟨s0, s1, s2, s3, s4, s5, s6⟩
                                go_simp
                                with_reducible rfl
                              rotate_left
                              · simp only [Act.put, List.setIfInBounds_toArray, List.set_cons_zero, List.set_cons_succ, i64_w, i32_w]
                                rfl
                              refine take_ (i := 6) (N := some 55) (v := ?_) (a' := ?_) #[true, true, true, true, true, true, true, true, false, true, true, true, true, false, false, false, false, false] rfl rfl (take_ofW HT_.out HW_.out (by kernel_rfl)) (fun _ _ _ h => h) (Or.inl ⟨by rfl, ?_⟩) hHeld ?_ ?_
                              rotate_left
                              · rintro w' ⟨s0, s1, s2, s3, s4, s5, s6⟩
                                go_simp
                                with_reducible rfl
                              rotate_left
                              · simp only [Act.put, List.setIfInBounds_toArray, List.set_cons_zero, List.set_cons_succ, i64_w, i32_w]
                                rfl
                              refine take_ (i := 8) (N := some 57) (v := ?_) (a' := ?_) #[true, true, true, true, true, true, true, true, true, true, true, true, true, false, false, false, false, false] rfl rfl (take_ofW HT_.out HW_.out (by kernel_rfl)) (fun _ _ _ h => h) (Or.inl ⟨by rfl, ?_⟩) hHeld ?_ ?_
                              rotate_left
                              · rintro w' ⟨s0, s1, s2, s3, s4, s5, s6⟩
                                go_simp
                                with_reducible rfl
                              rotate_left
                              · simp only [Act.put, List.setIfInBounds_toArray, List.set_cons_zero, List.set_cons_succ, i64_w, i32_w]
                                rfl
                              refine take_ (i := 13) (N := some 62) (v := ?_) (a' := ?_) #[true, true, true, true, true, true, true, true, true, true, true, true, true, true, false, false, false, false] rfl rfl (take_ofW HT_.out HW_.out (by kernel_rfl)) (fun _ _ _ h => h) (Or.inl ⟨by rfl, ?_⟩) hHeld ?_ ?_
                              rotate_left
                              · rintro w' ⟨s0, s1, s2, s3, s4, s5, s6⟩
                                go_simp
                                with_reducible rfl
                              rotate_left
                              · simp only [Act.put, List.setIfInBounds_toArray, List.set_cons_zero, List.set_cons_succ, i64_w, i32_w]
                                rfl
                              refine pure_ (i := 14) (N := some 63) (v := ?_) (a' := ?_) #[true, true, true, true, true, true, true, true, true, true, true, true, true, true, true, false, false, false] rfl rfl (any_of HT_.out (by kernel_rfl)) (fun _ _ _ h => h) (Or.inl ⟨by rfl, ?_⟩) ?_ ?_
                              rotate_left
                              · intro w'
                                go_simp
                                with_reducible rfl
                              rotate_left
                              · simp only [Act.put, List.setIfInBounds_toArray, List.set_cons_zero, List.set_cons_succ, i64_w, i32_w]
                                rfl
                              refine one_ (i := 15) (N := some 64) #[true, true, true, true, true, true, true, true, true, true, true, true, true, true, true, true, false, false] rfl rfl (one_of HT_.out (by kernel_rfl)) (by decide) (fun K hK => ?_)
                              refine value_ (w1 := ?_) (v := ?_) (by rfl) rfl ?_ ?_
                              rotate_left 2
                              · go_simp
                                constructor
                                · rfl
                                · rfl
                              refine hK.out _ _ ⟨(blk_cell (blk_alloc BK124.out _) 0).trans rfl, (blk_cell (blk_alloc BK124.out _) 1).trans rfl, (blk_cell (blk_alloc BK124.out _) 2).trans rfl, (blk_cell (blk_alloc BK125.out _) 0).trans rfl, (blk_cell (blk_alloc BK125.out _) 1).trans rfl, (blk_cell (blk_alloc BK125.out _) 2).trans rfl, (World.cell?_alloc_lt _ _ _ (World.block_lt_of_cell? _ _ (((HB.out.cell (World.block_lt_of_cell? w _ hw127_0)).trans hw127_0)))).trans (((HB.out.cell (World.block_lt_of_cell? w _ hw127_0)).trans hw127_0))⟩ (fun hHeld => ?_)
                              clear hK K
                              refine norm_ (a' := ?_) ?_ ?_
                              rotate_left
                              · show Act.put _ (some 64) _ = _
                                simp only [Act.put, List.setIfInBounds_toArray, List.set_cons_zero, List.set_cons_succ, i64_w, i32_w]
                                rfl
                              refine one_ (i := 16) (N := some 65) #[true, true, true, true, true, true, true, true, true, true, true, true, true, true, true, true, true, false] rfl rfl (one_of HT_.out (by kernel_rfl)) (by decide) (fun K hK => ?_)
                              refine Kd.R_append_step k23 (w0 := w) w.heap.size (by rfl) (.tmp 49) (.tmp 64) 29 23 (.agg #[(.int .i64 0), (.int .i64 0), (.int .i64 0), (.int .i64 0), (.bool false)]) 40 rfl Try.underlying29 info23 rfl (by decide) (by omega) u6 x6_2 (⟨(rd_T57 l0 x7_2).f0, (rd_T57 l0 x7_2).f2, (rd_T57 l0 x7_2).f1, (rd_T57 l0 (ji8)).f1, rdOf false l1 (ji8)⟩ : S23) [.int .i64 ((rd_T57 l0 x7_2).f0), .int .i64 ((rd_T57 l0 x7_2).f2), .int .i64 ((rd_T57 l0 x7_2).f1), .int .i64 ((rd_T57 l0 (ji8)).f1), .bool (rdOf false l1 (ji8))] (fun _ => True) (fun _ => False) rfl rfl ?aP (fun _ hk => hk.elim) ?aF ?aO ?aB ?aS ?aL ?_
                              (case aP => exact k23_mkM _ _ _ (⟨(rd_T57 l0 x7_2).f0, (rd_T57 l0 x7_2).f2, (rd_T57 l0 x7_2).f1, (rd_T57 l0 (ji8)).f1, rdOf false l1 (ji8)⟩ : S23))
                              (case aB => exact (by repeat (first | (with_reducible first | exact HB.out | apply below_alloc | apply pw_below_drewN | apply below_drew1 | refine below_set ?_ GE124.out | refine below_set ?_ GE125.out) | exact HB.out)))
                              (case aF => exact (fun _ _ => trivial))
                              (case aO => exact (by (with_reducible repeat (first | apply Kd.R_alloc | apply Kd.R_drewN | apply Kd.R_drew)); exact HO_6.out))
                              (case aS => exact (below_size (by repeat (first | (with_reducible first | exact HB.out | apply below_alloc | apply pw_below_drewN | apply below_drew1 | refine below_set ?_ GE124.out | refine below_set ?_ GE125.out) | exact HB.out))))
                              (case aL => have := LMc39.out; omega)
                              intro v129 w55 ho hb hg hat
                              rw [← Ny128.out] at ho
                              have n0_ := Aside0.mk (blk_grown (g := gb124) (o := .cells #[.int .i64 ((rd_T57 l0 x7_2).f0), .int .i64 ((rd_T57 l0 x7_2).f1), .int .i64 ((rd_T57 l0 x7_2).f2)] 57 (0, 0)) (by (with_reducible repeat (first | refine blk_drewN ?_ _ | refine blk_drew ?_ | refine blk_alloc ?_ _)); exact BK124.out) hg (Kd.R_ne HO_6.out BK124.out (by decide)))
                              have n1_ := Aside0.mk (blk_grown (g := gb125) (o := .cells #[.int .i64 ((rd_T57 l0 (ji8)).f0), .int .i64 ((rd_T57 l0 (ji8)).f1), .int .i64 ((rd_T57 l0 (ji8)).f2)] 57 (0, 0)) (by (with_reducible repeat (first | refine blk_drewN ?_ _ | refine blk_drew ?_ | refine blk_alloc ?_ _)); exact BK125.out) hg (Kd.R_ne HO_6.out BK125.out (by decide)))
                              have n2_ := Aside0.mk (hb)
                              have n3_ := Aside0.mk (ho)
                              clear BK124
                              clear BK125
                              clear HB
                              clear HO_6
                              have BK124 := n0_
                              have BK125 := n1_
                              have HB := n2_
                              have HO130 := n3_
                              clear n0_ n1_ n2_ n3_
                              clear ho hb hg hat
                              refine hK.out _ _ ⟨(blk_cell BK124.out 0).trans rfl, (blk_cell BK124.out 1).trans rfl, (blk_cell BK124.out 2).trans rfl, (blk_cell BK125.out 0).trans rfl, (blk_cell BK125.out 1).trans rfl, (blk_cell BK125.out 2).trans rfl, ((HB.out.cell (World.block_lt_of_cell? w _ hw127_0)).trans hw127_0)⟩ (fun hHeld => ?_)
                              clear hK K
                              refine norm_ (a' := ?_) ?_ ?_
                              rotate_left
                              · show Act.put _ (some 65) _ = _
                                simp only [Act.put, List.setIfInBounds_toArray, List.set_cons_zero, List.set_cons_succ, i64_w, i32_w]
                                rfl
                              refine pure_ (i := 17) (N := some 6) (v := ?_) (a' := ?_) #[true, true, true, true, true, true, true, true, true, true, true, true, true, true, true, true, true, true] rfl rfl (any_of HT_.out (by kernel_rfl)) (fun _ _ _ h => h) (Or.inl ⟨by rfl, ?_⟩) ?_ ?_
                              rotate_left
                              · intro w'
                                go_simp
                                with_reducible rfl
                              rotate_left
                              · simp only [Act.put, List.setIfInBounds_toArray, List.set_cons_zero, List.set_cons_succ, i64_w, i32_w]
                                rfl
                              refine done_ (done_of HT_.out (by kernel_rfl)) ?_
                              try go_wp2
                              go_roundg k2
                              case measure => have := HJ2.out; have := HK2.out; omega
                              case rel => exact ⟨(y128), (wrap64 (x7_2 + 2)), (by first | rfl | (simp; done) | (simp [*]; done)), H', ⟨by have := HJ2.out; have := HK2.out; omega⟩, ⟨by (with_reducible repeat (first | apply Kd.R_alloc | apply Kd.R_drewN | apply Kd.R_drew)); exact HO130.out⟩, ⟨by repeat (first | (with_reducible first | exact HB.out | apply below_alloc | apply pw_below_drewN | apply below_drew1 | refine below_set ?_ GE124.out | refine below_set ?_ GE125.out) | exact HB.out)⟩⟩
                            · rw [if_neg c39] at H
                              exact absurd H (by simp)
                          · rw [if_neg c38] at H
                            exact absurd H (by simp)
                    · rw [if_neg c11] at H
                      exact absurd H (by simp)
                  · rw [if_neg c10] at H
                    exact absurd H (by simp)
                · rw [if_neg c9] at H
                  exact absurd H (by simp)
              · rw [if_neg c7] at H
                exact absurd H (by simp)
            · rw [if_neg c6] at H
              have c6b0 : decide (x7_2 < (l0.length : Int)) = false := decide_eq_false c6
              clear c6
              simp only [Option.some.injEq, Prod.mk.injEq] at H
              obtain ⟨rfl, rfl⟩ := H
              go_wp2
              go_ret2
              exact ⟨_, by first | rfl | (simp [errW_none, errW_some] <;> rfl) | (simp [*, errW_none, errW_some] <;> rfl), by (with_reducible repeat (first | apply Kd.R_alloc | apply Kd.R_drewN | apply Kd.R_drew)); exact HO_6.out, by repeat (first | (with_reducible first | exact HB.out | apply below_alloc | apply pw_below_drewN | apply below_drew1) | exact HB.out)⟩

end Go.Proofs.Ytjngkndiokfibaa.PChgBack

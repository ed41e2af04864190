-- Written by a turned copy of the print, with contracts that this session proved by hand.
import Derived.Test.YtfccepkpbnalmaaPChgEmptiesx0
import Derived.Test.YtfccepkpbnalmaaPChgEmptiesx1
import Derived.Test.YtfccepkpbnalmaaPChgEmptiesx2
namespace Go.Proofs.Ytfccepkpbnalmaa.PChgEmpties
open Go.RowKit Go.Proofs.YtfccepkpbnalmaaW.PrintWords Go.Proofs.YtfccepkpbnalmaaW.PrintLast Go.Proofs.YtfccepkpbnalmaaW.PrintMore
attribute [local go_sem] max2_int min2_int max_two min_two max_three min_three max_four min_four   -- for this text's walks alone
set_option linter.unusedVariables false
set_option linter.unusedSimpArgs false

attribute [local go_sem high] eqA30 eqA60
/-! ### chg_Records: function 25 -/
def chg_Records.f (a0_0 : Int) (a0_1 : Int) (a0_2 : Int) (a0_3 : Int) (a0_4 : Bool) : Option ((List (S60)) × List Bool) := some ((([(⟨a0_0, a0_2, a0_1⟩ : S60), (⟨a0_0, a0_3, 0⟩ : S60)] : List (S60))), (([false, a0_4] : List Bool)))
def chg_Records.T1 : Bool × List (List Nat × List Nat) := (true, [([], []), ([0], [0]), ([], []), ([2], [2]), ([], []), ([4], [4]), ([1, 3, 5], [1, 3, 5]), ([], []), ([7], [7]), ([], []), ([9], [9]), ([8, 10], [8, 10]), ([6, 11], [6, 11]), ([], []), ([13], [13]), ([14], [14]), ([12, 0, 1, 2, 3, 4, 5, 6, 7, 8, 9, 10, 11, 12], [12]), ([15, 16, 0, 1, 2, 3, 4, 5, 6, 7, 8, 9, 10, 11, 12, 13, 14, 15, 16], [15])])
def chg_Records.B1 : List Nat := [0, 1, 0, 4, 0, 16, 63, 0, 128, 0, 512, 1920, 4095, 0, 8192, 24576, 8191, 131071]
theorem chg_Records.tab1 : rtab .any (opsOf Try.f25 1) = chg_Records.T1 := by kernel_rfl
theorem chg_Records.bits1 : waitsOk chg_Records.T1.2 chg_Records.B1 = true := by kernel_rfl
set_option maxHeartbeats 8000000 in
set_option maxRecDepth 100000 in
theorem chg_Records.calls (a0_0 : Int) (a0_1 : Int) (a0_2 : Int) (a0_3 : Int) (a0_4 : Bool) (r1 : List (S60)) (r2 : List Bool) (w : World) (h : chg_Records.f a0_0 a0_1 a0_2 a0_3 a0_4 = some (r1, r2)) :
    Calls Try.prog 25 #[.agg #[.int .i64 a0_0, .int .i64 a0_1, .int .i64 a0_2, .int .i64 a0_3, .bool a0_4]] w fun e w' => ∃ v0_ v1_ : Value, e = .returned (.tuple #[v0_, v1_]) ∧ Kd.R k60 60 w' w.heap.size (fun _ => True) v0_ r1 ∧ Kd.R Kd.bool 4 w' w.heap.size (fun _ => True) v1_ r2 ∧ Below w.heap.size w w' := by
  have hu30 := Try.underlying30
  have hu60 := Try.underlying60
  have HB := Aside0.mk (Below.refl w.heap.size w)
  have H : (some ((([(⟨a0_0, a0_2, a0_1⟩ : S60), (⟨a0_0, a0_3, 0⟩ : S60)] : List (S60))), (([false, a0_4] : List Bool)))) = some (r1, r2) := h
  clear h
  obtain ⟨y102, hy102⟩ : ∃ y_ : List (S60), y_ = (([(⟨a0_0, a0_2, a0_1⟩ : S60), (⟨a0_0, a0_3, 0⟩ : S60)] : List (S60))) := ⟨_, rfl⟩
  replace H : (some (y102, (([false, a0_4] : List Bool)))) = some (r1, r2) := by first | (rw [hy102]; with_reducible exact H) | (have H2_ := (Option.bind_some _ _).symm.trans H; rw [hy102]; with_reducible exact H2_) | (have H2_ := (Option.bind_some _ _).symm.trans H; with_reducible exact H2_) | with_reducible exact H | (rw [hy102]; exact H) | exact H
  have Ny102 := Aside0.mk hy102
  clear hy102
  obtain ⟨y105, hy105⟩ : ∃ y_ : List Bool, y_ = (([false, a0_4] : List Bool)) := ⟨_, rfl⟩
  replace H : (some (y102, y105)) = some (r1, r2) := by first | (rw [hy105]; with_reducible exact H) | (have H2_ := (Option.bind_some _ _).symm.trans H; rw [hy105]; with_reducible exact H2_) | (have H2_ := (Option.bind_some _ _).symm.trans H; with_reducible exact H2_) | with_reducible exact H | (rw [hy105]; exact H) | exact H
  have Ny105 := Aside0.mk hy105
  clear hy105
  simp only [Option.some.injEq, Prod.mk.injEq] at H
  obtain ⟨rfl, rfl⟩ := H
  go_enter Try.func25, Try.ntmps25
  try go_wp2_with (first | ((with_reducible refine gate_dst (N := 1) rfl ?_); refine box_event ?hg (N := 1) ?hd (cs := #[.int .i64 a0_0, .int .i64 a0_1, .int .i64 a0_2, .int .i64 a0_3, .bool a0_4]) (t := 30) ?hr ?_; (case hd => rfl); (case hg => rfl); (case hr => first | (go_simp; done) | (go_simp; rfl)); intro gb101 hg w2 hbox hb; have n0_ := Aside0.mk (below_step (by repeat (first | (with_reducible first | exact HB.out | apply below_alloc | apply pw_below_drewN | apply below_drew1) | exact HB.out)) hb); have n1_ := Aside0.mk (hbox); have n2_ := Aside0.mk ((by rw [hg]; exact (below_size (by repeat (first | (with_reducible first | exact HB.out | apply below_alloc | apply pw_below_drewN | apply below_drew1) | exact HB.out))) : w.heap.size ≤ gb101)); have n3_ := Aside0.mk ((by rw [hg]; exact (below_size (by repeat (first | (with_reducible first | exact HB.out | apply below_alloc | apply pw_below_drewN | apply below_drew1) | exact HB.out))) : w.heap.size ≤ gb101)); clear HB; have HB := n0_; have BK101 := n1_; have GW101 := n2_; have GE101 := n3_; clear n0_ n1_ n2_ n3_; clear hb hbox hg))
  have n0_ := Aside0.mk (blk_drew BK101.out)
  have n1_ := Aside0.mk (below_drew1 HB.out)
  clear BK101
  clear HB
  have BK101 := n0_
  have HB := n1_
  clear n0_ n1_
  refine start_ (n := 18) (S := fun w' => True) (ds := []) #[false, false, false, false, false, false, false, false, false, false, false, false, false, false, false, false, false, false] (by kernel_rfl) rfl rfl trivial (fun hHeld => ?_); refine with_tabW chg_Records.tab1 chg_Records.bits1 (fun HT_ HW_ => ?_)
  generalize w2.drew = w3 at BK101 HB hHeld ⊢
  refine pure_ (i := 0) (N := some 4) (v := ?_) (a' := ?_) #[true, false, false, false, false, false, false, false, false, false, false, false, false, false, false, false, false, false] rfl rfl (any_of HT_.out (by kernel_rfl)) (fun _ _ _ h => h) (Or.inl ⟨by rfl, ?_⟩) ?_ ?_
  rotate_left
  · intro w'
    go_simp
    with_reducible rfl
  rotate_left
  · simp only [Act.put, List.setIfInBounds_toArray, List.set_cons_zero, List.set_cons_succ, i64_w, i32_w]
    rfl
  refine pure_ (i := 2) (N := some 6) (v := ?_) (a' := ?_) #[true, false, true, false, false, false, false, false, false, false, false, false, false, false, false, false, false, false] rfl rfl (any_of HT_.out (by kernel_rfl)) (fun _ _ _ h => h) (Or.inl ⟨by rfl, ?_⟩) ?_ ?_
  rotate_left
  · intro w'
    go_simp
    with_reducible rfl
  rotate_left
  · simp only [Act.put, List.setIfInBounds_toArray, List.set_cons_zero, List.set_cons_succ, i64_w, i32_w]
    rfl
  refine pure_ (i := 4) (N := some 8) (v := ?_) (a' := ?_) #[true, false, true, false, true, false, false, false, false, false, false, false, false, false, false, false, false, false] rfl rfl (any_of HT_.out (by kernel_rfl)) (fun _ _ _ h => h) (Or.inl ⟨by rfl, ?_⟩) ?_ ?_
  rotate_left
  · intro w'
    go_simp
    with_reducible rfl
  rotate_left
  · simp only [Act.put, List.setIfInBounds_toArray, List.set_cons_zero, List.set_cons_succ, i64_w, i32_w]
    rfl
  refine pure_ (i := 7) (N := some 11) (v := ?_) (a' := ?_) #[true, false, true, false, true, false, false, true, false, false, false, false, false, false, false, false, false, false] rfl rfl (any_of HT_.out (by kernel_rfl)) (fun _ _ _ h => h) (Or.inl ⟨by rfl, ?_⟩) ?_ ?_
  rotate_left
  · intro w'
    go_simp
    with_reducible rfl
  rotate_left
  · simp only [Act.put, List.setIfInBounds_toArray, List.set_cons_zero, List.set_cons_succ, i64_w, i32_w]
    rfl
  refine pure_ (i := 9) (N := some 13) (v := ?_) (a' := ?_) #[true, false, true, false, true, false, false, true, false, true, false, false, false, false, false, false, false, false] rfl rfl (any_of HT_.out (by kernel_rfl)) (fun _ _ _ h => h) (Or.inl ⟨by rfl, ?_⟩) ?_ ?_
  rotate_left
  · intro w'
    go_simp
    with_reducible rfl
  rotate_left
  · simp only [Act.put, List.setIfInBounds_toArray, List.set_cons_zero, List.set_cons_succ, i64_w, i32_w]
    rfl
  refine pure_ (i := 13) (N := some 17) (v := ?_) (a' := ?_) #[true, false, true, false, true, false, false, true, false, true, false, false, false, true, false, false, false, false] rfl rfl (any_of HT_.out (by kernel_rfl)) (fun _ _ _ h => h) (Or.inl ⟨by rfl, ?_⟩) ?_ ?_
  rotate_left
  · intro w'
    go_simp
    with_reducible rfl
  rotate_left
  · simp only [Act.put, List.setIfInBounds_toArray, List.set_cons_zero, List.set_cons_succ, i64_w, i32_w]
    rfl
  refine inv_at [1, 3, 5, 6, 8, 10, 11, 12, 14, 15, 16, 17] (fun a0_ b a w' => ∃ (v103 : Value) (v106 : Value) (m16_ : Value) (m17_ : Value), a = putSel a0_ b [(1, 5, .int .i64 a0_0), (3, 7, .int .i64 a0_2), (5, 9, .int .i64 a0_1), (6, 10, .agg #[.int .i64 a0_0, .int .i64 a0_2, .int .i64 a0_1]), (8, 12, .int .i64 a0_0), (10, 14, .int .i64 a0_3), (11, 15, .agg #[.int .i64 a0_0, .int .i64 a0_3, .int .i64 0]), (12, 16, v103), (14, 18, .bool a0_4), (15, 19, v106), (16, 2, m16_), (17, 3, m17_)] ∧ (w'.heap[gb101]? = some (.cells #[.int .i64 a0_0, .int .i64 a0_1, .int .i64 a0_2, .int .i64 a0_3, .bool a0_4] 30 (0, 0))) ∧ (Below w.heap.size w w') ∧ (b 12 = true → Kd.R k60 60 w' w.heap.size (fun _ => True) v103 y102) ∧ (b 15 = true → Kd.R Kd.bool 4 w' w.heap.size (fun _ => True) v106 y105) ∧ (b 16 = true → (m16_ : Value) = v103) ∧ (b 17 = true → (m17_ : Value) = v106)) HT_.out HW_.out (by kernel_rfl) (by kernel_rfl) ?_ ?_ ?_
  · exact ⟨.bool false, .bool false, .bool false, .bool false, by simp only [putSel, Bool.false_eq_true, if_false], BK101.out, HB.out, fun h_ => absurd h_ (by decide), fun h_ => absurd h_ (by decide), fun h_ => absurd h_ (by decide), fun h_ => absurd h_ (by decide)⟩
  · skip
    clear BK101 HB
    refine steps_cons ?_ ?_
    · rintro b a w' ⟨v103, v106, m16_, m17_, ha, Q_BK101, Q_HB, Q_HO104, Q_HO107, Q_X16_, Q_X17_⟩ hb_ hon hoff
      refine ⟨_, rfl, fun K hK => ?_⟩
      have e4 : a.tmps[4]? = some (.pointer (some ⟨gb101, 0, none⟩)) := by rw [ha]; exact (putSel_off rfl).trans rfl
      replace ha := Aside0.mk ha
      have BK101 := Aside0.mk Q_BK101
      have HB := Aside0.mk Q_HB
      have hc0_ : w'.cell? ⟨gb101, 0, none⟩ = some (.int .i64 a0_0) := (blk_cell BK101.out 0).trans rfl
      have hc1_ : w'.cell? ⟨gb101, 1, none⟩ = some (.int .i64 a0_1) := (blk_cell BK101.out 1).trans rfl
      have hc2_ : w'.cell? ⟨gb101, 2, none⟩ = some (.int .i64 a0_2) := (blk_cell BK101.out 2).trans rfl
      have hc3_ : w'.cell? ⟨gb101, 3, none⟩ = some (.int .i64 a0_3) := (blk_cell BK101.out 3).trans rfl
      have hc4_ : w'.cell? ⟨gb101, 4, none⟩ = some (.bool a0_4) := (blk_cell BK101.out 4).trans rfl
      refine value_ (w1 := w') (v := .int .i64 a0_0) (by rfl) rfl ?_ ?_
      · go_simp
        (try simp only [i64_w])
        try rfl
      refine hK.out _ _ ⟨v103, v106, m16_, m17_, (by rw [ha.out]; exact putSel_upk 0 hb_ rfl rfl rfl), Q_BK101, Q_HB, fun h0_ => absurd ((hoff 12 (by kernel_rfl)).symm.trans h0_) (by decide), Q_HO107, fun h0_ => absurd ((hoff 16 (by kernel_rfl)).symm.trans h0_) (by decide), fun h0_ => absurd ((hoff 17 (by kernel_rfl)).symm.trans h0_) (by decide)⟩
    refine steps_cons ?_ ?_
    · rintro b a w' ⟨v103, v106, m16_, m17_, ha, Q_BK101, Q_HB, Q_HO104, Q_HO107, Q_X16_, Q_X17_⟩ hb_ hon hoff
      refine ⟨_, rfl, fun K hK => ?_⟩
      have e6 : a.tmps[6]? = some (.pointer (some ⟨gb101, 2, none⟩)) := by rw [ha]; exact (putSel_off rfl).trans rfl
      replace ha := Aside0.mk ha
      have BK101 := Aside0.mk Q_BK101
      have HB := Aside0.mk Q_HB
      have hc0_ : w'.cell? ⟨gb101, 0, none⟩ = some (.int .i64 a0_0) := (blk_cell BK101.out 0).trans rfl
      have hc1_ : w'.cell? ⟨gb101, 1, none⟩ = some (.int .i64 a0_1) := (blk_cell BK101.out 1).trans rfl
      have hc2_ : w'.cell? ⟨gb101, 2, none⟩ = some (.int .i64 a0_2) := (blk_cell BK101.out 2).trans rfl
      have hc3_ : w'.cell? ⟨gb101, 3, none⟩ = some (.int .i64 a0_3) := (blk_cell BK101.out 3).trans rfl
      have hc4_ : w'.cell? ⟨gb101, 4, none⟩ = some (.bool a0_4) := (blk_cell BK101.out 4).trans rfl
      refine value_ (w1 := w') (v := .int .i64 a0_2) (by rfl) rfl ?_ ?_
      · go_simp
        (try simp only [i64_w])
        try rfl
      refine hK.out _ _ ⟨v103, v106, m16_, m17_, (by rw [ha.out]; exact putSel_upk 1 hb_ rfl rfl rfl), Q_BK101, Q_HB, fun h0_ => absurd ((hoff 12 (by kernel_rfl)).symm.trans h0_) (by decide), Q_HO107, fun h0_ => absurd ((hoff 16 (by kernel_rfl)).symm.trans h0_) (by decide), fun h0_ => absurd ((hoff 17 (by kernel_rfl)).symm.trans h0_) (by decide)⟩
    refine steps_cons ?_ ?_
    · rintro b a w' ⟨v103, v106, m16_, m17_, ha, Q_BK101, Q_HB, Q_HO104, Q_HO107, Q_X16_, Q_X17_⟩ hb_ hon hoff
      refine ⟨_, rfl, fun K hK => ?_⟩
      have e8 : a.tmps[8]? = some (.pointer (some ⟨gb101, 1, none⟩)) := by rw [ha]; exact (putSel_off rfl).trans rfl
      replace ha := Aside0.mk ha
      have BK101 := Aside0.mk Q_BK101
      have HB := Aside0.mk Q_HB
      have hc0_ : w'.cell? ⟨gb101, 0, none⟩ = some (.int .i64 a0_0) := (blk_cell BK101.out 0).trans rfl
      have hc1_ : w'.cell? ⟨gb101, 1, none⟩ = some (.int .i64 a0_1) := (blk_cell BK101.out 1).trans rfl
      have hc2_ : w'.cell? ⟨gb101, 2, none⟩ = some (.int .i64 a0_2) := (blk_cell BK101.out 2).trans rfl
      have hc3_ : w'.cell? ⟨gb101, 3, none⟩ = some (.int .i64 a0_3) := (blk_cell BK101.out 3).trans rfl
      have hc4_ : w'.cell? ⟨gb101, 4, none⟩ = some (.bool a0_4) := (blk_cell BK101.out 4).trans rfl
      refine value_ (w1 := w') (v := .int .i64 a0_1) (by rfl) rfl ?_ ?_
      · go_simp
        (try simp only [i64_w])
        try rfl
      refine hK.out _ _ ⟨v103, v106, m16_, m17_, (by rw [ha.out]; exact putSel_upk 2 hb_ rfl rfl rfl), Q_BK101, Q_HB, fun h0_ => absurd ((hoff 12 (by kernel_rfl)).symm.trans h0_) (by decide), Q_HO107, fun h0_ => absurd ((hoff 16 (by kernel_rfl)).symm.trans h0_) (by decide), fun h0_ => absurd ((hoff 17 (by kernel_rfl)).symm.trans h0_) (by decide)⟩
    refine steps_cons ?_ ?_
    · rintro b a w' ⟨v103, v106, m16_, m17_, ha, Q_BK101, Q_HB, Q_HO104, Q_HO107, Q_X16_, Q_X17_⟩ hb_ hon hoff
      refine ⟨_, rfl, fun K hK => ?_⟩
      have e5 : a.tmps[5]? = some (.int .i64 a0_0) := by rw [ha]; exact putSel_on (e := (1, 5, .int .i64 a0_0)) 0 rfl rfl (hon 1 (by kernel_rfl)) rfl
      have e7 : a.tmps[7]? = some (.int .i64 a0_2) := by rw [ha]; exact putSel_on (e := (3, 7, .int .i64 a0_2)) 1 rfl rfl (hon 3 (by kernel_rfl)) rfl
      have e9 : a.tmps[9]? = some (.int .i64 a0_1) := by rw [ha]; exact putSel_on (e := (5, 9, .int .i64 a0_1)) 2 rfl rfl (hon 5 (by kernel_rfl)) rfl
      replace ha := Aside0.mk ha
      have BK101 := Aside0.mk Q_BK101
      have HB := Aside0.mk Q_HB
      refine value_ (w1 := w') (v := .agg #[.int .i64 a0_0, .int .i64 a0_2, .int .i64 a0_1]) (by rfl) rfl ?_ ?_
      · go_simp
        (try simp only [i64_w])
        try rfl
      refine hK.out _ _ ⟨v103, v106, m16_, m17_, (by rw [ha.out]; exact putSel_upk 3 hb_ rfl rfl rfl), Q_BK101, Q_HB, fun h0_ => absurd ((hoff 12 (by kernel_rfl)).symm.trans h0_) (by decide), Q_HO107, fun h0_ => absurd ((hoff 16 (by kernel_rfl)).symm.trans h0_) (by decide), fun h0_ => absurd ((hoff 17 (by kernel_rfl)).symm.trans h0_) (by decide)⟩
    refine steps_cons ?_ ?_
    · rintro b a w' ⟨v103, v106, m16_, m17_, ha, Q_BK101, Q_HB, Q_HO104, Q_HO107, Q_X16_, Q_X17_⟩ hb_ hon hoff
      refine ⟨_, rfl, fun K hK => ?_⟩
      have e11 : a.tmps[11]? = some (.pointer (some ⟨gb101, 0, none⟩)) := by rw [ha]; exact (putSel_off rfl).trans rfl
      replace ha := Aside0.mk ha
      have BK101 := Aside0.mk Q_BK101
      have HB := Aside0.mk Q_HB
      have hc0_ : w'.cell? ⟨gb101, 0, none⟩ = some (.int .i64 a0_0) := (blk_cell BK101.out 0).trans rfl
      have hc1_ : w'.cell? ⟨gb101, 1, none⟩ = some (.int .i64 a0_1) := (blk_cell BK101.out 1).trans rfl
      have hc2_ : w'.cell? ⟨gb101, 2, none⟩ = some (.int .i64 a0_2) := (blk_cell BK101.out 2).trans rfl
      have hc3_ : w'.cell? ⟨gb101, 3, none⟩ = some (.int .i64 a0_3) := (blk_cell BK101.out 3).trans rfl
      have hc4_ : w'.cell? ⟨gb101, 4, none⟩ = some (.bool a0_4) := (blk_cell BK101.out 4).trans rfl
      refine value_ (w1 := w') (v := .int .i64 a0_0) (by rfl) rfl ?_ ?_
      · go_simp
        (try simp only [i64_w])
        try rfl
      refine hK.out _ _ ⟨v103, v106, m16_, m17_, (by rw [ha.out]; exact putSel_upk 4 hb_ rfl rfl rfl), Q_BK101, Q_HB, fun h0_ => absurd ((hoff 12 (by kernel_rfl)).symm.trans h0_) (by decide), Q_HO107, fun h0_ => absurd ((hoff 16 (by kernel_rfl)).symm.trans h0_) (by decide), fun h0_ => absurd ((hoff 17 (by kernel_rfl)).symm.trans h0_) (by decide)⟩
    refine steps_cons ?_ ?_
    · rintro b a w' ⟨v103, v106, m16_, m17_, ha, Q_BK101, Q_HB, Q_HO104, Q_HO107, Q_X16_, Q_X17_⟩ hb_ hon hoff
      refine ⟨_, rfl, fun K hK => ?_⟩
      have e13 : a.tmps[13]? = some (.pointer (some ⟨gb101, 3, none⟩)) := by rw [ha]; exact (putSel_off rfl).trans rfl
      replace ha := Aside0.mk ha
      have BK101 := Aside0.mk Q_BK101
      have HB := Aside0.mk Q_HB
      have hc0_ : w'.cell? ⟨gb101, 0, none⟩ = some (.int .i64 a0_0) := (blk_cell BK101.out 0).trans rfl
      have hc1_ : w'.cell? ⟨gb101, 1, none⟩ = some (.int .i64 a0_1) := (blk_cell BK101.out 1).trans rfl
      have hc2_ : w'.cell? ⟨gb101, 2, none⟩ = some (.int .i64 a0_2) := (blk_cell BK101.out 2).trans rfl
      have hc3_ : w'.cell? ⟨gb101, 3, none⟩ = some (.int .i64 a0_3) := (blk_cell BK101.out 3).trans rfl
      have hc4_ : w'.cell? ⟨gb101, 4, none⟩ = some (.bool a0_4) := (blk_cell BK101.out 4).trans rfl
      refine value_ (w1 := w') (v := .int .i64 a0_3) (by rfl) rfl ?_ ?_
      · go_simp
        (try simp only [i64_w])
        try rfl
      refine hK.out _ _ ⟨v103, v106, m16_, m17_, (by rw [ha.out]; exact putSel_upk 5 hb_ rfl rfl rfl), Q_BK101, Q_HB, fun h0_ => absurd ((hoff 12 (by kernel_rfl)).symm.trans h0_) (by decide), Q_HO107, fun h0_ => absurd ((hoff 16 (by kernel_rfl)).symm.trans h0_) (by decide), fun h0_ => absurd ((hoff 17 (by kernel_rfl)).symm.trans h0_) (by decide)⟩
    refine steps_cons ?_ ?_
    · rintro b a w' ⟨v103, v106, m16_, m17_, ha, Q_BK101, Q_HB, Q_HO104, Q_HO107, Q_X16_, Q_X17_⟩ hb_ hon hoff
      refine ⟨_, rfl, fun K hK => ?_⟩
      have e12 : a.tmps[12]? = some (.int .i64 a0_0) := by rw [ha]; exact putSel_on (e := (8, 12, .int .i64 a0_0)) 4 rfl rfl (hon 8 (by kernel_rfl)) rfl
      have e14 : a.tmps[14]? = some (.int .i64 a0_3) := by rw [ha]; exact putSel_on (e := (10, 14, .int .i64 a0_3)) 5 rfl rfl (hon 10 (by kernel_rfl)) rfl
      replace ha := Aside0.mk ha
      have BK101 := Aside0.mk Q_BK101
      have HB := Aside0.mk Q_HB
      refine value_ (w1 := w') (v := .agg #[.int .i64 a0_0, .int .i64 a0_3, .int .i64 0]) (by rfl) rfl ?_ ?_
      · go_simp
        (try simp only [i64_w])
        try rfl
      refine hK.out _ _ ⟨v103, v106, m16_, m17_, (by rw [ha.out]; exact putSel_upk 6 hb_ rfl rfl rfl), Q_BK101, Q_HB, fun h0_ => absurd ((hoff 12 (by kernel_rfl)).symm.trans h0_) (by decide), Q_HO107, fun h0_ => absurd ((hoff 16 (by kernel_rfl)).symm.trans h0_) (by decide), fun h0_ => absurd ((hoff 17 (by kernel_rfl)).symm.trans h0_) (by decide)⟩
    refine steps_cons ?_ ?_
    · rintro b a w' ⟨v103, v106, m16_, m17_, ha, Q_BK101, Q_HB, Q_HO104, Q_HO107, Q_X16_, Q_X17_⟩ hb_ hon hoff
      refine ⟨_, rfl, fun K hK => ?_⟩
      have e10 : a.tmps[10]? = some (.agg #[.int .i64 a0_0, .int .i64 a0_2, .int .i64 a0_1]) := by rw [ha]; exact putSel_on (e := (6, 10, .agg #[.int .i64 a0_0, .int .i64 a0_2, .int .i64 a0_1])) 3 rfl rfl (hon 6 (by kernel_rfl)) rfl
      have e15 : a.tmps[15]? = some (.agg #[.int .i64 a0_0, .int .i64 a0_3, .int .i64 0]) := by rw [ha]; exact putSel_on (e := (11, 15, .agg #[.int .i64 a0_0, .int .i64 a0_3, .int .i64 0])) 6 rfl rfl (hon 11 (by kernel_rfl)) rfl
      replace ha := Aside0.mk ha
      have BK101 := Aside0.mk Q_BK101
      have HB := Aside0.mk Q_HB
      refine Kd.R_lit_step k60 _ 60 ?hg (N := 16) ?hd (xs := ([(⟨a0_0, a0_2, a0_1⟩ : S60), (⟨a0_0, a0_3, 0⟩ : S60)] : List (S60))) (inner := [.int .i64 a0_0, .int .i64 a0_2, .int .i64 a0_1, .int .i64 a0_0, .int .i64 a0_3, .int .i64 0]) (ok := fun _ => True) (okp := fun _ => True) ?hr ?hp (fun _ hk => hk) trivial (Below.refl _ _) (Nat.le_refl _) (by simp) ?_; (case hd => rfl); (case hg => rfl); (case hr => first | (go_simp; done) | (go_simp; rfl)); (case hp => exact (Reps.c3 (show Kd.M k60 _ _ _ (⟨a0_0, a0_2, a0_1⟩ : S60) [.int .i64 a0_0, .int .i64 a0_2, .int .i64 a0_1] from (k60_mkM _ _ _ (⟨a0_0, a0_2, a0_1⟩ : S60) )) (Reps.c3 (show Kd.M k60 _ _ _ (⟨a0_0, a0_3, 0⟩ : S60) [.int .i64 a0_0, .int .i64 a0_3, .int .i64 0] from (k60_mkM _ _ _ (⟨a0_0, a0_3, 0⟩ : S60) )) (Reps.none _ _))))
      intro v103 w4 ho5 hb hg_ hnew_
      clear hg_ hnew_
      (first | rw [← Ny102.out] at ho5 | (simp only [Int.reduceToNat] at ho5; rw [← Ny102.out] at ho5))
      have n0_ := Aside0.mk (Kd.R_lower ho5 (below_size (by repeat (first | (with_reducible first | exact HB.out | apply below_alloc | apply pw_below_drewN | apply below_drew1 | refine below_set ?_ GE101.out) | exact HB.out))))
      have n1_ := Aside0.mk (blk_below (g := gb101) (o := .cells #[.int .i64 a0_0, .int .i64 a0_1, .int .i64 a0_2, .int .i64 a0_3, .bool a0_4] 30 (0, 0)) (by (with_reducible repeat (first | refine blk_drewN ?_ _ | refine blk_drew ?_ | refine blk_alloc ?_ _)); exact BK101.out) hb)
      have n2_ := Aside0.mk (below_step (by repeat (first | (with_reducible first | exact HB.out | apply below_alloc | apply pw_below_drewN | apply below_drew1 | refine below_set ?_ GE101.out) | exact HB.out)) hb)
      have z_HO107 := fun (h0_ : b 15 = true) => (show Kd.R Kd.bool 4 w4 w.heap.size (fun _ => True) v106 y105 from by first | exact (Kd.R_below (by (with_reducible repeat (first | apply Kd.R_alloc | apply Kd.R_drewN | apply Kd.R_drew)); exact (Q_HO107 h0_)) hb) | exact Kd.R_mono (Kd.R_below (by (with_reducible repeat (first | apply Kd.R_alloc | apply Kd.R_drewN | apply Kd.R_drew)); exact (Q_HO107 h0_)) hb) (fun _ h_ => by first | trivial | exact h_ | exact h_.1))
      clear BK101
      clear HB
      have HO104 := n0_
      have BK101 := n1_
      have HB := n2_
      clear n0_ n1_ n2_
      clear hb ho5
      refine hK.out _ _ ⟨v103, v106, m16_, m17_, (by rw [ha.out]; exact putSel_upk 7 hb_ rfl rfl rfl), (by (with_reducible repeat (first | refine blk_drewN ?_ _ | refine blk_drew ?_ | refine blk_alloc ?_ _)); exact BK101.out), (by repeat (first | (with_reducible first | exact HB.out | apply below_alloc | apply pw_below_drewN | apply below_drew1 | refine below_set ?_ GE101.out) | exact HB.out)), fun _ => (by (with_reducible repeat (first | apply Kd.R_alloc | apply Kd.R_drewN | apply Kd.R_drew)); exact HO104.out), z_HO107, fun h0_ => absurd ((hoff 16 (by kernel_rfl)).symm.trans h0_) (by decide), fun h0_ => absurd ((hoff 17 (by kernel_rfl)).symm.trans h0_) (by decide)⟩
    refine steps_cons ?_ ?_
    · rintro b a w' ⟨v103, v106, m16_, m17_, ha, Q_BK101, Q_HB, Q_HO104, Q_HO107, Q_X16_, Q_X17_⟩ hb_ hon hoff
      refine ⟨_, rfl, fun K hK => ?_⟩
      have e17 : a.tmps[17]? = some (.pointer (some ⟨gb101, 4, none⟩)) := by rw [ha]; exact (putSel_off rfl).trans rfl
      replace ha := Aside0.mk ha
      have BK101 := Aside0.mk Q_BK101
      have HB := Aside0.mk Q_HB
      have hc0_ : w'.cell? ⟨gb101, 0, none⟩ = some (.int .i64 a0_0) := (blk_cell BK101.out 0).trans rfl
      have hc1_ : w'.cell? ⟨gb101, 1, none⟩ = some (.int .i64 a0_1) := (blk_cell BK101.out 1).trans rfl
      have hc2_ : w'.cell? ⟨gb101, 2, none⟩ = some (.int .i64 a0_2) := (blk_cell BK101.out 2).trans rfl
      have hc3_ : w'.cell? ⟨gb101, 3, none⟩ = some (.int .i64 a0_3) := (blk_cell BK101.out 3).trans rfl
      have hc4_ : w'.cell? ⟨gb101, 4, none⟩ = some (.bool a0_4) := (blk_cell BK101.out 4).trans rfl
      refine value_ (w1 := w') (v := .bool a0_4) (by rfl) rfl ?_ ?_
      · go_simp
        (try simp only [i64_w])
        try rfl
      refine hK.out _ _ ⟨v103, v106, m16_, m17_, (by rw [ha.out]; exact putSel_upk 8 hb_ rfl rfl rfl), Q_BK101, Q_HB, Q_HO104, fun h0_ => absurd ((hoff 15 (by kernel_rfl)).symm.trans h0_) (by decide), Q_X16_, fun h0_ => absurd ((hoff 17 (by kernel_rfl)).symm.trans h0_) (by decide)⟩
    refine steps_cons ?_ ?_
    · rintro b a w' ⟨v103, v106, m16_, m17_, ha, Q_BK101, Q_HB, Q_HO104, Q_HO107, Q_X16_, Q_X17_⟩ hb_ hon hoff
      refine ⟨_, rfl, fun K hK => ?_⟩
      have e18 : a.tmps[18]? = some (.bool a0_4) := by rw [ha]; exact putSel_on (e := (14, 18, .bool a0_4)) 8 rfl rfl (hon 14 (by kernel_rfl)) rfl
      replace ha := Aside0.mk ha
      have BK101 := Aside0.mk Q_BK101
      have HB := Aside0.mk Q_HB
      refine Kd.R_lit_step Kd.bool _ 4 ?hg (N := 19) ?hd (xs := ([false, a0_4] : List Bool)) (inner := [.bool false, .bool a0_4]) (ok := fun _ => True) (okp := fun _ => True) ?hr ?hp (fun _ hk => hk) trivial (Below.refl _ _) (Nat.le_refl _) (by simp) ?_; (case hd => rfl); (case hg => rfl); (case hr => first | (go_simp; done) | (go_simp; rfl)); (case hp => exact (Reps.one (show Kd.M Kd.bool _ _ _ false [.bool false] from rfl) (Reps.one (show Kd.M Kd.bool _ _ _ a0_4 [.bool a0_4] from rfl) (Reps.none _ _))))
      intro v106 w4 ho5 hb hg_ hnew_
      clear hg_ hnew_
      (first | rw [← Ny105.out] at ho5 | (simp only [Int.reduceToNat] at ho5; rw [← Ny105.out] at ho5))
      have n0_ := Aside0.mk (Kd.R_lower ho5 (below_size (by repeat (first | (with_reducible first | exact HB.out | apply below_alloc | apply pw_below_drewN | apply below_drew1 | refine below_set ?_ GE101.out) | exact HB.out))))
      have n1_ := Aside0.mk (blk_below (g := gb101) (o := .cells #[.int .i64 a0_0, .int .i64 a0_1, .int .i64 a0_2, .int .i64 a0_3, .bool a0_4] 30 (0, 0)) (by (with_reducible repeat (first | refine blk_drewN ?_ _ | refine blk_drew ?_ | refine blk_alloc ?_ _)); exact BK101.out) hb)
      have n2_ := Aside0.mk (below_step (by repeat (first | (with_reducible first | exact HB.out | apply below_alloc | apply pw_below_drewN | apply below_drew1 | refine below_set ?_ GE101.out) | exact HB.out)) hb)
      have z_HO104 := fun (h0_ : b 12 = true) => (show Kd.R k60 60 w4 w.heap.size (fun _ => True) v103 y102 from by first | exact (Kd.R_below (by (with_reducible repeat (first | apply Kd.R_alloc | apply Kd.R_drewN | apply Kd.R_drew)); exact (Q_HO104 h0_)) hb) | exact Kd.R_mono (Kd.R_below (by (with_reducible repeat (first | apply Kd.R_alloc | apply Kd.R_drewN | apply Kd.R_drew)); exact (Q_HO104 h0_)) hb) (fun _ h_ => by first | trivial | exact h_ | exact h_.1))
      clear BK101
      clear HB
      have HO107 := n0_
      have BK101 := n1_
      have HB := n2_
      clear n0_ n1_ n2_
      clear hb ho5
      refine hK.out _ _ ⟨v103, v106, m16_, m17_, (by rw [ha.out]; exact putSel_upk 9 hb_ rfl rfl rfl), (by (with_reducible repeat (first | refine blk_drewN ?_ _ | refine blk_drew ?_ | refine blk_alloc ?_ _)); exact BK101.out), (by repeat (first | (with_reducible first | exact HB.out | apply below_alloc | apply pw_below_drewN | apply below_drew1 | refine below_set ?_ GE101.out) | exact HB.out)), z_HO104, fun _ => (by (with_reducible repeat (first | apply Kd.R_alloc | apply Kd.R_drewN | apply Kd.R_drew)); exact HO107.out), Q_X16_, fun h0_ => absurd ((hoff 17 (by kernel_rfl)).symm.trans h0_) (by decide)⟩
    refine steps_cons ?_ ?_
    · rintro b a w' ⟨v103, v106, m16_, m17_, ha, Q_BK101, Q_HB, Q_HO104, Q_HO107, Q_X16_, Q_X17_⟩ hb_ hon hoff
      refine ⟨_, rfl, fun K hK => ?_⟩
      have e16 : a.tmps[16]? = some (v103) := by rw [ha]; exact putSel_on (e := (12, 16, v103)) 7 rfl rfl (hon 12 (by kernel_rfl)) rfl
      replace ha := Aside0.mk ha
      have BK101 := Aside0.mk Q_BK101
      have HB := Aside0.mk Q_HB
      have HO104 := Aside0.mk (Q_HO104 (hon 12 (by kernel_rfl)))
      refine value_ (w1 := w') (v := v103) (by rfl) rfl ?_ ?_
      · go_simp
        (try simp only [i64_w])
        try rfl
      refine hK.out _ _ ⟨v103, v106, (v103), m17_, (by rw [ha.out]; exact putSel_upk 10 hb_ rfl rfl rfl), Q_BK101, Q_HB, Q_HO104, Q_HO107, fun _ => rfl, fun h0_ => absurd ((hoff 17 (by kernel_rfl)).symm.trans h0_) (by decide)⟩
    refine steps_cons ?_ ?_
    · rintro b a w' ⟨v103, v106, m16_, m17_, ha, Q_BK101, Q_HB, Q_HO104, Q_HO107, Q_X16_, Q_X17_⟩ hb_ hon hoff
      refine ⟨_, rfl, fun K hK => ?_⟩
      have e19 : a.tmps[19]? = some (v106) := by rw [ha]; exact putSel_on (e := (15, 19, v106)) 9 rfl rfl (hon 15 (by kernel_rfl)) rfl
      replace ha := Aside0.mk ha
      have BK101 := Aside0.mk Q_BK101
      have HB := Aside0.mk Q_HB
      have HO104 := Aside0.mk (Q_HO104 (hon 12 (by kernel_rfl)))
      have HO107 := Aside0.mk (Q_HO107 (hon 15 (by kernel_rfl)))
      refine value_ (w1 := w') (v := v106) (by rfl) rfl ?_ ?_
      · go_simp
        (try simp only [i64_w])
        try rfl
      refine hK.out _ _ ⟨v103, v106, m16_, (v106), (by rw [ha.out]; exact putSel_upk 11 hb_ rfl rfl rfl), Q_BK101, Q_HB, Q_HO104, Q_HO107, Q_X16_, fun _ => rfl⟩
    exact steps_nil
  rintro b a w8 hall ⟨v103, v106, m16_, m17_, ha, Q_BK101, Q_HB, Q_HO104, Q_HO107, Q_X16_, Q_X17_⟩
  clear BK101 HB
  have hb1_ := hall 1 (by kernel_rfl)
  have hb3_ := hall 3 (by kernel_rfl)
  have hb5_ := hall 5 (by kernel_rfl)
  have hb6_ := hall 6 (by kernel_rfl)
  have hb8_ := hall 8 (by kernel_rfl)
  have hb10_ := hall 10 (by kernel_rfl)
  have hb11_ := hall 11 (by kernel_rfl)
  have hb12_ := hall 12 (by kernel_rfl)
  have hb14_ := hall 14 (by kernel_rfl)
  have hb15_ := hall 15 (by kernel_rfl)
  have hb16_ := hall 16 (by kernel_rfl)
  have hb17_ := hall 17 (by kernel_rfl)
  subst ha
  obtain rfl := Q_X16_ hb16_
  obtain rfl := Q_X17_ hb17_
  simp only [putSel, hb1_, hb3_, hb5_, hb6_, hb8_, hb10_, hb11_, hb12_, hb14_, hb15_, hb16_, hb17_, if_true, Act.put, List.setIfInBounds_toArray, List.set_cons_zero, List.set_cons_succ]
  have BK101 := Aside0.mk Q_BK101
  clear Q_BK101
  have HB := Aside0.mk Q_HB
  clear Q_HB
  have HO104 := Aside0.mk (Q_HO104 hb12_)
  clear Q_HO104
  have HO107 := Aside0.mk (Q_HO107 hb15_)
  clear Q_HO107
  clear hall hb1_ hb3_ hb5_ hb6_ hb8_ hb10_ hb11_ hb12_ hb14_ hb15_ hb16_ hb17_
  try go_wp2
  go_ret2
  exact ⟨_, _, by first | rfl | (simp [errW_none, errW_some] <;> rfl) | (simp [*, errW_none, errW_some] <;> rfl), by (with_reducible repeat (first | apply Kd.R_alloc | apply Kd.R_drewN | apply Kd.R_drew)); exact HO104.out, by (with_reducible repeat (first | apply Kd.R_alloc | apply Kd.R_drewN | apply Kd.R_drew)); exact HO107.out, by repeat (first | (with_reducible first | exact HB.out | apply below_alloc | apply pw_below_drewN | apply below_drew1 | refine below_set ?_ GE101.out) | exact HB.out)⟩

/-! ### tidemillref11_Recs: function 26 -/
def tidemillref11_Recs.l0 : Nat → List (S60) → List (S60) → Int → Option (Bool)
  | 0, _, _, _ => none
  | k + 1, x0, x1, x5 => if x5 < (x0.length : Int) then (if 0 ≤ x5 then (if x5 < (x1.length : Int) then (if (!(((rd_T60 x0 x5).f0) == ((rd_T60 x1 x5).f0)) || (!(((rd_T60 x0 x5).f1) == ((rd_T60 x1 x5).f1)) || (!(((rd_T60 x0 x5).f2) == ((rd_T60 x1 x5).f2))))) = true then (some false) else (tidemillref11_Recs.l0 k x0 x1 (wrap64 (x5 + 1)))) else (none)) else (none)) else (some true)
def tidemillref11_Recs.f (k : Nat) (l0 : List (S60)) (l1 : List (S60)) : Option (Bool) := if (l0.length : Int) = (l1.length : Int) then (tidemillref11_Recs.l0 k l0 l1 0) else (some false)
theorem tidemillref11_Recs.mono_l : ∀ k, (∀ y0 y1 y2, LeO (tidemillref11_Recs.l0 k y0 y1 y2) (tidemillref11_Recs.l0 (k + 1) y0 y1 y2))
  | 0 => fun _ _ _ r h => by simp [tidemillref11_Recs.l0] at h
  | k + 1 => by
    have ih0 := tidemillref11_Recs.mono_l k
    · intro y0 y1 y2
      unfold tidemillref11_Recs.l0
      repeat' first
      | (with_reducible exact ih0 _ _ _)
      | (with_reducible exact LeO.refl _)
      | (with_reducible exact LeO.none _)
      | (with_reducible refine LeO.ite ?_ ?_)
      | (with_reducible refine LeO.bind ?_ (fun _ => ?_))
      | exact ih0 _ _ _
      | exact LeO.none _
      | refine LeO.ite ?_ ?_
      | refine LeO.bind ?_ (fun _ => ?_)
theorem tidemillref11_Recs.mono : ∀ a0 a1 k, LeO (tidemillref11_Recs.f k a0 a1) (tidemillref11_Recs.f (k + 1) a0 a1) := by
  intro a0 a1 k
  have ih0 := tidemillref11_Recs.mono_l k
  unfold tidemillref11_Recs.f
  repeat' first
      | (with_reducible exact ih0 _ _ _)
      | (with_reducible exact LeO.refl _)
      | (with_reducible exact LeO.none _)
      | (with_reducible refine LeO.ite ?_ ?_)
      | (with_reducible refine LeO.bind ?_ (fun _ => ?_))
      | exact ih0 _ _ _
      | exact LeO.none _
      | refine LeO.ite ?_ ?_
      | refine LeO.bind ?_ (fun _ => ?_)
set_option maxHeartbeats 8000000 in
set_option maxRecDepth 100000 in
theorem tidemillref11_Recs.calls (k : Nat) (A0 : Option Addr) (c0 : Nat) (l0 : List (S60)) (A1 : Option Addr) (c1 : Nat) (l1 : List (S60)) (r : Bool) (w : World) (hr0 : Kd.C k60 w A0 l0.length l0) (hc0 : l0.length ≤ c0) (hr1 : Kd.C k60 w A1 l1.length l1) (hc1 : l1.length ≤ c1) (h : tidemillref11_Recs.f k l0 l1 = some r) :
    Calls Try.prog 26 #[.slice A0 l0.length c0, .slice A1 l1.length c1] w fun e w' => e = .returned (.bool r) ∧ Drawn0 w w' := by
  have hu60 := Try.underlying60
  have HR0 := Aside0.mk hr0
  have HC0 := Aside0.mk hc0
  clear hr0 hc0
  have HR1 := Aside0.mk hr1
  have HC1 := Aside0.mk hc1
  clear hr1 hc1
  have H : (if (l0.length : Int) = (l1.length : Int) then (tidemillref11_Recs.l0 k l0 l1 0) else (some false)) = some r := h
  clear h
  by_cases c3 : (l0.length : Int) = (l1.length : Int)
  · rw [if_pos c3] at H
    have c3b0 : ((l0.length : Int) == (l1.length : Int)) = true := beq_iff_eq.mpr c3
    have c3b1 : ((l0.length : Int) != (l1.length : Int)) = false := bne_eq_false_iff_eq.mpr c3
    have c3b2 : (l0.length == l1.length) = true := by first | simpa using c3 | (simp at c3 ⊢; omega)
    clear c3
    have H' := Aside0.mk H
    clear H
    go_enter Try.func26, Try.ntmps26
    go_wp2
    repeat (go_quiet (fail); try go_wp2)
    go_loopg [5] k (fun kq v5 w' => ∃ (x5_1 : Int), v5 = .int .i64 x5_1 ∧ Aside0 (tidemillref11_Recs.l0 kq l0 l1 x5_1 = some r) ∧ Aside0 (kq ≤ k) ∧ Drawn0 w w')
    case atStart => exact ⟨(0), (by first | rfl | (simp; done) | (simp [*]; done)), H', ⟨Nat.le_refl _⟩, by repeat (first | exact Drawn0.refl _ | apply Drawn0.step)⟩
    case round =>
      clear H'
      try clear c1
      try clear c2
      try clear p2
      try clear c3
      try clear c3b0
      try clear c3b1
      try clear c3b2
      obtain ⟨x5_1, rfl, HA, HK1, ⟨m1, rfl⟩⟩ := hrel
      cases gk with
      | zero => exact absurd HA.out (by simp [tidemillref11_Recs.l0])
      | succ k1 =>
        have H := HA.out
        clear HA
        simp only [tidemillref11_Recs.l0] at H
        by_cases c4 : x5_1 < (l0.length : Int)
        · rw [if_pos c4] at H
          have c4b0 : decide (x5_1 < (l0.length : Int)) = true := decide_eq_true c4
          clear c4
          by_cases c5 : 0 ≤ x5_1
          · rw [if_pos c5] at H
            have c5b0 : decide (0 ≤ x5_1) = true := decide_eq_true c5
            clear c5
            by_cases c6 : x5_1 < (l1.length : Int)
            · rw [if_pos c6] at H
              have c6b0 : decide (x5_1 < (l1.length : Int)) = true := decide_eq_true c6
              clear c6
              by_cases c7 : (!(((rd_T60 l0 x5_1).f0) == ((rd_T60 l1 x5_1).f0)) || (!(((rd_T60 l0 x5_1).f1) == ((rd_T60 l1 x5_1).f1)) || (!(((rd_T60 l0 x5_1).f2) == ((rd_T60 l1 x5_1).f2))))) = true
              · rw [if_pos c7] at H
                have c7b0 : (!(((rd_T60 l0 x5_1).f0) == ((rd_T60 l1 x5_1).f0)) || (!(((rd_T60 l0 x5_1).f1) == ((rd_T60 l1 x5_1).f1)) || (!(((rd_T60 l0 x5_1).f2) == ((rd_T60 l1 x5_1).f2))))) = true := c7
                clear c7
                obtain rfl := Option.some.inj H
                have p108 : 0 ≤ (x5_1 : Int) := of_decide_eq_true (by first | (with_reducible assumption) | assumption)
                have q108 : x5_1 < (l0.length : Int) := of_decide_eq_true (by first | (with_reducible assumption) | assumption)
                obtain ⟨ad108, e108, hx108_0, hx108_1, hx108_2⟩ := at_T60 HR0.out x5_1 p108 q108
                cases e108
                replace p108 := eq_true p108
                replace q108 := eq_true q108
                have p109 : 0 ≤ (x5_1 : Int) := of_decide_eq_true (by first | (with_reducible assumption) | assumption)
                have q109 : x5_1 < (l1.length : Int) := of_decide_eq_true (by first | (with_reducible assumption) | assumption)
                obtain ⟨ad109, e109, hx109_0, hx109_1, hx109_2⟩ := at_T60 HR1.out x5_1 p109 q109
                cases e109
                replace p109 := eq_true p109
                replace q109 := eq_true q109
                go_wp2
                repeat (go_quiet (fail); try go_wp2)
                go_ret
                exact ⟨by first | rfl | (simp; done) | (simp [*]; done), by repeat (first | exact Drawn0.refl _ | apply Drawn0.step)⟩
              · rw [if_neg c7] at H
                have c7b0 : (!(((rd_T60 l0 x5_1).f0) == ((rd_T60 l1 x5_1).f0)) || (!(((rd_T60 l0 x5_1).f1) == ((rd_T60 l1 x5_1).f1)) || (!(((rd_T60 l0 x5_1).f2) == ((rd_T60 l1 x5_1).f2))))) = false := by simpa using c7
                clear c7
                have H' := Aside0.mk H
                clear H
                have p108 : 0 ≤ (x5_1 : Int) := of_decide_eq_true (by first | (with_reducible assumption) | assumption)
                have q108 : x5_1 < (l0.length : Int) := of_decide_eq_true (by first | (with_reducible assumption) | assumption)
                obtain ⟨ad108, e108, hx108_0, hx108_1, hx108_2⟩ := at_T60 HR0.out x5_1 p108 q108
                cases e108
                replace p108 := eq_true p108
                replace q108 := eq_true q108
                have p109 : 0 ≤ (x5_1 : Int) := of_decide_eq_true (by first | (with_reducible assumption) | assumption)
                have q109 : x5_1 < (l1.length : Int) := of_decide_eq_true (by first | (with_reducible assumption) | assumption)
                obtain ⟨ad109, e109, hx109_0, hx109_1, hx109_2⟩ := at_T60 HR1.out x5_1 p109 q109
                cases e109
                replace p109 := eq_true p109
                replace q109 := eq_true q109
                go_wp2
                repeat (go_quiet (fail); try go_wp2)
                go_roundg k1
                case measure => have := HK1.out; omega
                case rel => exact ⟨(wrap64 (x5_1 + 1)), (by first | rfl | (simp; done) | (simp [*]; done)), H', ⟨by have := HK1.out; omega⟩, by repeat (first | exact Drawn0.refl _ | apply Drawn0.step)⟩
            · rw [if_neg c6] at H
              exact absurd H (by simp)
          · rw [if_neg c5] at H
            exact absurd H (by simp)
        · rw [if_neg c4] at H
          have c4b0 : decide (x5_1 < (l0.length : Int)) = false := decide_eq_false c4
          clear c4
          obtain rfl := Option.some.inj H
          go_wp2
          repeat (go_quiet (fail); try go_wp2)
          go_ret
          exact ⟨by first | rfl | (simp; done) | (simp [*]; done), by repeat (first | exact Drawn0.refl _ | apply Drawn0.step)⟩
  · rw [if_neg c3] at H
    have c3b0 : ((l0.length : Int) == (l1.length : Int)) = false := beq_eq_false_iff_ne.mpr c3
    have c3b1 : ((l0.length : Int) != (l1.length : Int)) = true := bne_iff_ne.mpr c3
    have c3b2 : (l0.length == l1.length) = false := by first | simpa using c3 | (simp at c3 ⊢; omega)
    obtain rfl := Option.some.inj H
    go_enter Try.func26, Try.ntmps26
    go_wp2
    repeat (go_quiet (fail); try go_wp2)
    go_ret
    exact ⟨by first | rfl | (simp; done) | (simp [*]; done), by repeat (first | exact Drawn0.refl _ | apply Drawn0.step)⟩

/-! ### tidemilllaw15_shown: function 7 -/
def tidemilllaw15_shown.f (k : Nat)  : Option (Bool) := (chg_Records.f 1 2 3 4 false).bind fun bt110 => ((tidemillref11_Recs.f k bt110.1 (([(⟨1, 3, 2⟩ : S60), (⟨1, 4, 0⟩ : S60)] : List (S60)))).bind fun t119 => (if t119 = true then (if (bt110.2.length : Int) = 2 then (if 0 < (bt110.2.length : Int) then (if rdOf false bt110.2 0 = true then (some false) else (if 1 < (bt110.2.length : Int) then (some (!(rdOf false bt110.2 1))) else (none))) else (none)) else (some false)) else (some false)))
theorem tidemilllaw15_shown.mono : ∀ k, LeO (tidemilllaw15_shown.f k ) (tidemilllaw15_shown.f (k + 1) ) := by
  intro  k
  unfold tidemilllaw15_shown.f
  repeat' first
      | (with_reducible exact tidemillref11_Recs.mono _ _ _)
      | (with_reducible exact LeO.refl _)
      | (with_reducible exact LeO.none _)
      | (with_reducible refine LeO.ite ?_ ?_)
      | (with_reducible refine LeO.bind ?_ (fun _ => ?_))
      | exact tidemillref11_Recs.mono _ _ _
      | exact LeO.none _
      | refine LeO.ite ?_ ?_
      | refine LeO.bind ?_ (fun _ => ?_)
set_option maxHeartbeats 8000000 in
set_option maxRecDepth 100000 in
theorem tidemilllaw15_shown.calls (k : Nat)  (r : Bool) (w : World) (h : tidemilllaw15_shown.f k  = some r) :
    Calls Try.prog 7 #[] w fun e w' => e = .returned (.bool r) ∧ Below w.heap.size w w' := by
  have hu30 := Try.underlying30
  have hu60 := Try.underlying60
  have HB := Aside0.mk (Below.refl w.heap.size w)
  have H : ((chg_Records.f 1 2 3 4 false).bind fun bt110 => ((tidemillref11_Recs.f k bt110.1 (([(⟨1, 3, 2⟩ : S60), (⟨1, 4, 0⟩ : S60)] : List (S60)))).bind fun t119 => (if t119 = true then (if (bt110.2.length : Int) = 2 then (if 0 < (bt110.2.length : Int) then (if rdOf false bt110.2 0 = true then (some false) else (if 1 < (bt110.2.length : Int) then (some (!(rdOf false bt110.2 1))) else (none))) else (none)) else (some false)) else (some false)))) = some r := h
  clear h
  replace H := Option.bind_eq_some_iff.mp H
  obtain ⟨⟨t110, t113⟩, A10, H⟩ := H
  replace H : ((tidemillref11_Recs.f k t110 (([(⟨1, 3, 2⟩ : S60), (⟨1, 4, 0⟩ : S60)] : List (S60)))).bind fun t119 => (if t119 = true then (if (t113.length : Int) = 2 then (if 0 < (t113.length : Int) then (if rdOf false t113 0 = true then (some false) else (if 1 < (t113.length : Int) then (some (!(rdOf false t113 1))) else (none))) else (none)) else (some false)) else (some false))) = some r := H
  have A1 := Aside0.mk A10
  clear A10
  obtain ⟨y116, hy116⟩ : ∃ y_ : List (S60), y_ = (([(⟨1, 3, 2⟩ : S60), (⟨1, 4, 0⟩ : S60)] : List (S60))) := ⟨_, rfl⟩
  replace H : ((tidemillref11_Recs.f k t110 y116).bind fun t119 => (if t119 = true then (if (t113.length : Int) = 2 then (if 0 < (t113.length : Int) then (if rdOf false t113 0 = true then (some false) else (if 1 < (t113.length : Int) then (some (!(rdOf false t113 1))) else (none))) else (none)) else (some false)) else (some false))) = some r := by first | (rw [hy116]; with_reducible exact H) | (have H2_ := (Option.bind_some _ _).symm.trans H; rw [hy116]; with_reducible exact H2_) | (have H2_ := (Option.bind_some _ _).symm.trans H; with_reducible exact H2_) | with_reducible exact H | (rw [hy116]; exact H) | exact H
  have Ny116 := Aside0.mk hy116
  clear hy116
  replace H := Option.bind_eq_some_iff.mp H
  obtain ⟨t119, A20, H⟩ := H
  replace H : (if t119 = true then (if (t113.length : Int) = 2 then (if 0 < (t113.length : Int) then (if rdOf false t113 0 = true then (some false) else (if 1 < (t113.length : Int) then (some (!(rdOf false t113 1))) else (none))) else (none)) else (some false)) else (some false)) = some r := H
  have A2 := Aside0.mk A20
  clear A20
  by_cases c3 : t119 = true
  · subst c3
    have H1 : (if (t113.length : Int) = 2 then (if 0 < (t113.length : Int) then (if rdOf false t113 0 = true then (some false) else (if 1 < (t113.length : Int) then (some (!(rdOf false t113 1))) else (none))) else (none)) else (some false)) = some r := by rw [if_pos rfl] at H; exact H
    clear H
    have H := H1
    clear H1
    by_cases c4 : (t113.length : Int) = 2
    · rw [if_pos c4] at H
      have c4b0 : ((t113.length : Int) == 2) = true := beq_iff_eq.mpr c4
      have c4b1 : ((t113.length : Int) != 2) = false := bne_eq_false_iff_eq.mpr c4
      clear c4
      by_cases c5 : 0 < (t113.length : Int)
      · rw [if_pos c5] at H
        have c5b0 : decide (0 < (t113.length : Int)) = true := decide_eq_true c5
        have c5b1 : decide (0 < t113.length) = true := decide_eq_true (by omega)
        clear c5
        obtain ⟨bq6, hbq6⟩ : ∃ b_ : Bool, b_ = (rdOf false t113 0) := ⟨_, rfl⟩
        replace H : (if bq6 = true then (some false) else (if 1 < (t113.length : Int) then (some (!(rdOf false t113 1))) else (none))) = some r := by rw [← hbq6] at H; exact H
        have Nbq6 := Aside0.mk hbq6
        clear hbq6
        by_cases c7 : bq6 = true
        · subst c7
          have H1 : (some false) = some r := by rw [if_pos rfl] at H; exact H
          clear H
          have H := H1
          clear H1
          obtain rfl := Option.some.inj H
          go_enter Try.func7, Try.ntmps7
          go_wp2_with (first | ((with_reducible refine gate_callee (f := 25) rfl ?_); refine goesL_ (some 5) rfl rfl Try.func25 (by kernel_rfl) rfl #[.agg #[.int .i64 1, .int .i64 2, .int .i64 3, .int .i64 4, .bool false]] rfl (by (try simp only [List.map_toArray, List.map_cons, List.map_nil]); first | done | rfl | (simp only [List.length_drop, List.length_take]; rfl)) ?_; (with_reducible refine (chg_Records.calls 1 2 3 4 false t110 t113 _ A1.out).mono ?_); rintro e w8 ⟨v111, v114, rfl, ho0, ho1, hb⟩; refine ⟨_, rfl, ?_⟩; have n0_ := Aside0.mk (Kd.R_lower ho0 (below_size (by repeat (first | (with_reducible first | exact HB.out | apply below_alloc | apply pw_below_drewN | apply below_drew1) | exact HB.out)))); have n1_ := Aside0.mk (Kd.R_lower ho1 (below_size (by repeat (first | (with_reducible first | exact HB.out | apply below_alloc | apply pw_below_drewN | apply below_drew1) | exact HB.out)))); have n2_ := Aside0.mk (below_step (by repeat (first | (with_reducible first | exact HB.out | apply below_alloc | apply pw_below_drewN | apply below_drew1) | exact HB.out)) hb); clear HB; have HO112 := n0_; have HO115 := n1_; have HB := n2_; clear n0_ n1_ n2_; (try clear hb); (try clear hb2); (try clear hk); (try clear hi); (try clear ho0); (try clear ho1)) | ((with_reducible refine gate_dst (N := 11) rfl ?_); (try (refine gate_guard (by rfl) ?_; dsimp only)); refine Kd.R_lit k60 _ 60 ?hg (N := 11) ?hd (xs := ([(⟨1, 3, 2⟩ : S60), (⟨1, 4, 0⟩ : S60)] : List (S60))) (inner := [.int .i64 1, .int .i64 3, .int .i64 2, .int .i64 1, .int .i64 4, .int .i64 0]) (ok := fun _ => True) (okp := fun _ => True) ?hr ?hp (fun _ hk => hk) trivial (Below.refl _ _) (Nat.le_refl _) (by simp) ?_; (case hd => rfl); (case hg => rfl); (case hr => first | (go_simp; done) | (go_simp; rfl)); (case hp => exact (Reps.c3 (show Kd.M k60 _ _ _ (⟨1, 3, 2⟩ : S60) [.int .i64 1, .int .i64 3, .int .i64 2] from (k60_mkM _ _ _ (⟨1, 3, 2⟩ : S60) )) (Reps.c3 (show Kd.M k60 _ _ _ (⟨1, 4, 0⟩ : S60) [.int .i64 1, .int .i64 4, .int .i64 0] from (k60_mkM _ _ _ (⟨1, 4, 0⟩ : S60) )) (Reps.none _ _)))); intro v117 w9 ho10 hb hg_ hnew_; clear hg_ hnew_; (first | rw [← Ny116.out] at ho10 | (simp only [Int.reduceToNat] at ho10; rw [← Ny116.out] at ho10)); have n0_ := Aside0.mk (Kd.R_elder' (by (with_reducible repeat (first | apply Kd.R_alloc | apply Kd.R_drewN | apply Kd.R_drew)); exact HO112.out) (Kd.R_base ho10) hb); have n1_ := Aside0.mk (Kd.R_below (by (with_reducible repeat (first | apply Kd.R_alloc | apply Kd.R_drewN | apply Kd.R_drew)); exact HO115.out) hb); have n2_ := Aside0.mk (Kd.R_lower (Kd.R_new' ho10 (Kd.R_lt (by (with_reducible repeat (first | apply Kd.R_alloc | apply Kd.R_drewN | apply Kd.R_drew)); exact HO112.out))) (below_size (by repeat (first | (with_reducible first | exact HB.out | apply below_alloc | apply pw_below_drewN | apply below_drew1) | exact HB.out)))); have n3_ := Aside0.mk (below_step (by repeat (first | (with_reducible first | exact HB.out | apply below_alloc | apply pw_below_drewN | apply below_drew1) | exact HB.out)) hb); clear HO112; clear HO115; clear HB; have HO112 := n0_; have HO115 := n1_; have HO118 := n2_; have HB := n3_; clear n0_ n1_ n2_ n3_; clear hb ho10; obtain ⟨Ao11, co11, eo11⟩ := Kd.R_slice HO112.out; subst eo11; obtain ⟨Ao12, co12, eo12⟩ := Kd.R_slice HO118.out; subst eo12) | ((with_reducible refine gate_callee (f := 26) rfl ?_); refine goesL_ (some 12) rfl rfl Try.func26 (by kernel_rfl) rfl #[.slice Ao11 t110.length co11, .slice Ao12 y116.length co12] rfl (by (try simp only [List.map_toArray, List.map_cons, List.map_nil]); first | done | rfl | (simp only [List.length_drop, List.length_take]; rfl)) ?_; (with_reducible refine (tidemillref11_Recs.calls k _ _ t110 _ _ y116 true _ ?side1 ?side2 ?side3 ?side4 A2.out).mono ?_); (case side1 => repeat (first | exact (Kd.R_reads' HO112.out).2.2 | (with_reducible refine Kd.C_alloc ?_ _) | (with_reducible refine Kd.C_drewN ?_ _) | (with_reducible refine Kd.C_drew ?_))); (case side2 => exact (Kd.R_reads' HO112.out).2.1); (case side3 => repeat (first | exact (Kd.R_reads' HO118.out).2.2 | (with_reducible refine Kd.C_alloc ?_ _) | (with_reducible refine Kd.C_drewN ?_ _) | (with_reducible refine Kd.C_drew ?_))); (case side4 => exact (Kd.R_reads' HO118.out).2.1); rintro e w' ⟨rfl, ⟨nd, rfl⟩⟩; refine ⟨_, rfl, ?_⟩; obtain ⟨Ao13, co13, eo13⟩ := Kd.R_slice HO115.out; subst eo13; have p120 : 0 ≤ (0 : Int) := (by omega); have q120 : 0 < (t113.length : Int) := of_decide_eq_true (by first | (with_reducible assumption) | assumption); obtain ⟨ad120, e120, hx120_0⟩ := Kd.at_bool (Kd.R_reads' HO115.out).2.2 0 p120 q120; (try rw [← Nbq6.out] at hx120_0); cases e120; have qi120 : (0 < t113.length) = True := eq_true (by omega); (try rw [show ((0 : Int)).toNat = 0 from rfl] at hx120_0); (try rw [Addr.add_zero'] at hx120_0); replace p120 := eq_true p120; replace q120 := eq_true q120))
          go_ret
          exact ⟨by first | rfl | (simp [errW_none, errW_some] <;> rfl) | (simp [*, errW_none, errW_some] <;> rfl), by repeat (first | (with_reducible first | exact HB.out | apply below_alloc | apply pw_below_drewN | apply below_drew1) | exact HB.out)⟩
        · replace c7 := Bool.eq_false_iff.mpr c7
          subst c7
          have H1 : (if 1 < (t113.length : Int) then (some (!(rdOf false t113 1))) else (none)) = some r := by rw [if_neg (show ¬ (false = true) by decide)] at H; exact H
          clear H
          have H := H1
          clear H1
          by_cases c14 : 1 < (t113.length : Int)
          · rw [if_pos c14] at H
            have c14b0 : decide (1 < (t113.length : Int)) = true := decide_eq_true c14
            have c14b1 : decide (1 < t113.length) = true := decide_eq_true (by omega)
            clear c14
            obtain rfl := Option.some.inj H
            go_enter Try.func7, Try.ntmps7
            go_wp2_with (first | ((with_reducible refine gate_callee (f := 25) rfl ?_); refine goesL_ (some 5) rfl rfl Try.func25 (by kernel_rfl) rfl #[.agg #[.int .i64 1, .int .i64 2, .int .i64 3, .int .i64 4, .bool false]] rfl (by (try simp only [List.map_toArray, List.map_cons, List.map_nil]); first | done | rfl | (simp only [List.length_drop, List.length_take]; rfl)) ?_; (with_reducible refine (chg_Records.calls 1 2 3 4 false t110 t113 _ A1.out).mono ?_); rintro e w15 ⟨v111, v114, rfl, ho0, ho1, hb⟩; refine ⟨_, rfl, ?_⟩; have n0_ := Aside0.mk (Kd.R_lower ho0 (below_size (by repeat (first | (with_reducible first | exact HB.out | apply below_alloc | apply pw_below_drewN | apply below_drew1) | exact HB.out)))); have n1_ := Aside0.mk (Kd.R_lower ho1 (below_size (by repeat (first | (with_reducible first | exact HB.out | apply below_alloc | apply pw_below_drewN | apply below_drew1) | exact HB.out)))); have n2_ := Aside0.mk (below_step (by repeat (first | (with_reducible first | exact HB.out | apply below_alloc | apply pw_below_drewN | apply below_drew1) | exact HB.out)) hb); clear HB; have HO112 := n0_; have HO115 := n1_; have HB := n2_; clear n0_ n1_ n2_; (try clear hb); (try clear hb2); (try clear hk); (try clear hi); (try clear ho0); (try clear ho1)) | ((with_reducible refine gate_dst (N := 11) rfl ?_); (try (refine gate_guard (by rfl) ?_; dsimp only)); refine Kd.R_lit k60 _ 60 ?hg (N := 11) ?hd (xs := ([(⟨1, 3, 2⟩ : S60), (⟨1, 4, 0⟩ : S60)] : List (S60))) (inner := [.int .i64 1, .int .i64 3, .int .i64 2, .int .i64 1, .int .i64 4, .int .i64 0]) (ok := fun _ => True) (okp := fun _ => True) ?hr ?hp (fun _ hk => hk) trivial (Below.refl _ _) (Nat.le_refl _) (by simp) ?_; (case hd => rfl); (case hg => rfl); (case hr => first | (go_simp; done) | (go_simp; rfl)); (case hp => exact (Reps.c3 (show Kd.M k60 _ _ _ (⟨1, 3, 2⟩ : S60) [.int .i64 1, .int .i64 3, .int .i64 2] from (k60_mkM _ _ _ (⟨1, 3, 2⟩ : S60) )) (Reps.c3 (show Kd.M k60 _ _ _ (⟨1, 4, 0⟩ : S60) [.int .i64 1, .int .i64 4, .int .i64 0] from (k60_mkM _ _ _ (⟨1, 4, 0⟩ : S60) )) (Reps.none _ _)))); intro v117 w16 ho17 hb hg_ hnew_; clear hg_ hnew_; (first | rw [← Ny116.out] at ho17 | (simp only [Int.reduceToNat] at ho17; rw [← Ny116.out] at ho17)); have n0_ := Aside0.mk (Kd.R_elder' (by (with_reducible repeat (first | apply Kd.R_alloc | apply Kd.R_drewN | apply Kd.R_drew)); exact HO112.out) (Kd.R_base ho17) hb); have n1_ := Aside0.mk (Kd.R_below (by (with_reducible repeat (first | apply Kd.R_alloc | apply Kd.R_drewN | apply Kd.R_drew)); exact HO115.out) hb); have n2_ := Aside0.mk (Kd.R_lower (Kd.R_new' ho17 (Kd.R_lt (by (with_reducible repeat (first | apply Kd.R_alloc | apply Kd.R_drewN | apply Kd.R_drew)); exact HO112.out))) (below_size (by repeat (first | (with_reducible first | exact HB.out | apply below_alloc | apply pw_below_drewN | apply below_drew1) | exact HB.out)))); have n3_ := Aside0.mk (below_step (by repeat (first | (with_reducible first | exact HB.out | apply below_alloc | apply pw_below_drewN | apply below_drew1) | exact HB.out)) hb); clear HO112; clear HO115; clear HB; have HO112 := n0_; have HO115 := n1_; have HO118 := n2_; have HB := n3_; clear n0_ n1_ n2_ n3_; clear hb ho17; obtain ⟨Ao18, co18, eo18⟩ := Kd.R_slice HO112.out; subst eo18; obtain ⟨Ao19, co19, eo19⟩ := Kd.R_slice HO118.out; subst eo19) | ((with_reducible refine gate_callee (f := 26) rfl ?_); refine goesL_ (some 12) rfl rfl Try.func26 (by kernel_rfl) rfl #[.slice Ao18 t110.length co18, .slice Ao19 y116.length co19] rfl (by (try simp only [List.map_toArray, List.map_cons, List.map_nil]); first | done | rfl | (simp only [List.length_drop, List.length_take]; rfl)) ?_; (with_reducible refine (tidemillref11_Recs.calls k _ _ t110 _ _ y116 true _ ?side1 ?side2 ?side3 ?side4 A2.out).mono ?_); (case side1 => repeat (first | exact (Kd.R_reads' HO112.out).2.2 | (with_reducible refine Kd.C_alloc ?_ _) | (with_reducible refine Kd.C_drewN ?_ _) | (with_reducible refine Kd.C_drew ?_))); (case side2 => exact (Kd.R_reads' HO112.out).2.1); (case side3 => repeat (first | exact (Kd.R_reads' HO118.out).2.2 | (with_reducible refine Kd.C_alloc ?_ _) | (with_reducible refine Kd.C_drewN ?_ _) | (with_reducible refine Kd.C_drew ?_))); (case side4 => exact (Kd.R_reads' HO118.out).2.1); rintro e w' ⟨rfl, ⟨nd, rfl⟩⟩; refine ⟨_, rfl, ?_⟩; obtain ⟨Ao20, co20, eo20⟩ := Kd.R_slice HO115.out; subst eo20; have p120 : 0 ≤ (0 : Int) := (by omega); have q120 : 0 < (t113.length : Int) := of_decide_eq_true (by first | (with_reducible assumption) | assumption); obtain ⟨ad120, e120, hx120_0⟩ := Kd.at_bool (Kd.R_reads' HO115.out).2.2 0 p120 q120; (try rw [← Nbq6.out] at hx120_0); cases e120; have qi120 : (0 < t113.length) = True := eq_true (by omega); (try rw [show ((0 : Int)).toNat = 0 from rfl] at hx120_0); (try rw [Addr.add_zero'] at hx120_0); replace p120 := eq_true p120; replace q120 := eq_true q120; have p121 : 0 ≤ (1 : Int) := (by omega); have q121 : 1 < (t113.length : Int) := of_decide_eq_true (by first | (with_reducible assumption) | assumption); obtain ⟨ad121, e121, hx121_0⟩ := Kd.at_bool (Kd.R_reads' HO115.out).2.2 1 p121 q121; (try rw [← Nbq6.out] at hx121_0); obtain rfl : ad120 = ad121 := (by injection e121); (try simp only [show (1 : Int).toNat = 1 from rfl, Nat.reduceMul, Nat.reduceEqDiff, Go.Addr.add, ↓reduceIte] at hx121_0); have qi121 : (1 < t113.length) = True := eq_true (by omega); (try rw [show ((1 : Int)).toNat = 1 from rfl] at hx121_0); replace p121 := eq_true p121; replace q121 := eq_true q121))
            go_ret
            exact ⟨by first | rfl | (simp [errW_none, errW_some] <;> rfl) | (simp [*, errW_none, errW_some] <;> rfl), by repeat (first | (with_reducible first | exact HB.out | apply below_alloc | apply pw_below_drewN | apply below_drew1) | exact HB.out)⟩
          · rw [if_neg c14] at H
            exact absurd H (by simp)
      · rw [if_neg c5] at H
        exact absurd H (by simp)
    · rw [if_neg c4] at H
      have c4b0 : ((t113.length : Int) == 2) = false := beq_eq_false_iff_ne.mpr c4
      have c4b1 : ((t113.length : Int) != 2) = true := bne_iff_ne.mpr c4
      obtain rfl := Option.some.inj H
      go_enter Try.func7, Try.ntmps7
      go_wp2_with (first | ((with_reducible refine gate_callee (f := 25) rfl ?_); refine goesL_ (some 5) rfl rfl Try.func25 (by kernel_rfl) rfl #[.agg #[.int .i64 1, .int .i64 2, .int .i64 3, .int .i64 4, .bool false]] rfl (by (try simp only [List.map_toArray, List.map_cons, List.map_nil]); first | done | rfl | (simp only [List.length_drop, List.length_take]; rfl)) ?_; (with_reducible refine (chg_Records.calls 1 2 3 4 false t110 t113 _ A1.out).mono ?_); rintro e w21 ⟨v111, v114, rfl, ho0, ho1, hb⟩; refine ⟨_, rfl, ?_⟩; have n0_ := Aside0.mk (Kd.R_lower ho0 (below_size (by repeat (first | (with_reducible first | exact HB.out | apply below_alloc | apply pw_below_drewN | apply below_drew1) | exact HB.out)))); have n1_ := Aside0.mk (Kd.R_lower ho1 (below_size (by repeat (first | (with_reducible first | exact HB.out | apply below_alloc | apply pw_below_drewN | apply below_drew1) | exact HB.out)))); have n2_ := Aside0.mk (below_step (by repeat (first | (with_reducible first | exact HB.out | apply below_alloc | apply pw_below_drewN | apply below_drew1) | exact HB.out)) hb); clear HB; have HO112 := n0_; have HO115 := n1_; have HB := n2_; clear n0_ n1_ n2_; (try clear hb); (try clear hb2); (try clear hk); (try clear hi); (try clear ho0); (try clear ho1)) | ((with_reducible refine gate_dst (N := 11) rfl ?_); (try (refine gate_guard (by rfl) ?_; dsimp only)); refine Kd.R_lit k60 _ 60 ?hg (N := 11) ?hd (xs := ([(⟨1, 3, 2⟩ : S60), (⟨1, 4, 0⟩ : S60)] : List (S60))) (inner := [.int .i64 1, .int .i64 3, .int .i64 2, .int .i64 1, .int .i64 4, .int .i64 0]) (ok := fun _ => True) (okp := fun _ => True) ?hr ?hp (fun _ hk => hk) trivial (Below.refl _ _) (Nat.le_refl _) (by simp) ?_; (case hd => rfl); (case hg => rfl); (case hr => first | (go_simp; done) | (go_simp; rfl)); (case hp => exact (Reps.c3 (show Kd.M k60 _ _ _ (⟨1, 3, 2⟩ : S60) [.int .i64 1, .int .i64 3, .int .i64 2] from (k60_mkM _ _ _ (⟨1, 3, 2⟩ : S60) )) (Reps.c3 (show Kd.M k60 _ _ _ (⟨1, 4, 0⟩ : S60) [.int .i64 1, .int .i64 4, .int .i64 0] from (k60_mkM _ _ _ (⟨1, 4, 0⟩ : S60) )) (Reps.none _ _)))); intro v117 w22 ho23 hb hg_ hnew_; clear hg_ hnew_; (first | rw [← Ny116.out] at ho23 | (simp only [Int.reduceToNat] at ho23; rw [← Ny116.out] at ho23)); have n0_ := Aside0.mk (Kd.R_elder' (by (with_reducible repeat (first | apply Kd.R_alloc | apply Kd.R_drewN | apply Kd.R_drew)); exact HO112.out) (Kd.R_base ho23) hb); have n1_ := Aside0.mk (Kd.R_below (by (with_reducible repeat (first | apply Kd.R_alloc | apply Kd.R_drewN | apply Kd.R_drew)); exact HO115.out) hb); have n2_ := Aside0.mk (Kd.R_lower (Kd.R_new' ho23 (Kd.R_lt (by (with_reducible repeat (first | apply Kd.R_alloc | apply Kd.R_drewN | apply Kd.R_drew)); exact HO112.out))) (below_size (by repeat (first | (with_reducible first | exact HB.out | apply below_alloc | apply pw_below_drewN | apply below_drew1) | exact HB.out)))); have n3_ := Aside0.mk (below_step (by repeat (first | (with_reducible first | exact HB.out | apply below_alloc | apply pw_below_drewN | apply below_drew1) | exact HB.out)) hb); clear HO112; clear HO115; clear HB; have HO112 := n0_; have HO115 := n1_; have HO118 := n2_; have HB := n3_; clear n0_ n1_ n2_ n3_; clear hb ho23; obtain ⟨Ao24, co24, eo24⟩ := Kd.R_slice HO112.out; subst eo24; obtain ⟨Ao25, co25, eo25⟩ := Kd.R_slice HO118.out; subst eo25) | ((with_reducible refine gate_callee (f := 26) rfl ?_); refine goesL_ (some 12) rfl rfl Try.func26 (by kernel_rfl) rfl #[.slice Ao24 t110.length co24, .slice Ao25 y116.length co25] rfl (by (try simp only [List.map_toArray, List.map_cons, List.map_nil]); first | done | rfl | (simp only [List.length_drop, List.length_take]; rfl)) ?_; (with_reducible refine (tidemillref11_Recs.calls k _ _ t110 _ _ y116 true _ ?side1 ?side2 ?side3 ?side4 A2.out).mono ?_); (case side1 => repeat (first | exact (Kd.R_reads' HO112.out).2.2 | (with_reducible refine Kd.C_alloc ?_ _) | (with_reducible refine Kd.C_drewN ?_ _) | (with_reducible refine Kd.C_drew ?_))); (case side2 => exact (Kd.R_reads' HO112.out).2.1); (case side3 => repeat (first | exact (Kd.R_reads' HO118.out).2.2 | (with_reducible refine Kd.C_alloc ?_ _) | (with_reducible refine Kd.C_drewN ?_ _) | (with_reducible refine Kd.C_drew ?_))); (case side4 => exact (Kd.R_reads' HO118.out).2.1); rintro e w' ⟨rfl, ⟨nd, rfl⟩⟩; refine ⟨_, rfl, ?_⟩; obtain ⟨Ao26, co26, eo26⟩ := Kd.R_slice HO115.out; subst eo26))
      go_ret
      exact ⟨by first | rfl | (simp [errW_none, errW_some] <;> rfl) | (simp [*, errW_none, errW_some] <;> rfl), by repeat (first | (with_reducible first | exact HB.out | apply below_alloc | apply pw_below_drewN | apply below_drew1) | exact HB.out)⟩
  · replace c3 := Bool.eq_false_iff.mpr c3
    subst c3
    have H1 : (some false) = some r := by rw [if_neg (show ¬ (false = true) by decide)] at H; exact H
    clear H
    have H := H1
    clear H1
    obtain rfl := Option.some.inj H
    go_enter Try.func7, Try.ntmps7
    go_wp2_with (first | ((with_reducible refine gate_callee (f := 25) rfl ?_); refine goesL_ (some 5) rfl rfl Try.func25 (by kernel_rfl) rfl #[.agg #[.int .i64 1, .int .i64 2, .int .i64 3, .int .i64 4, .bool false]] rfl (by (try simp only [List.map_toArray, List.map_cons, List.map_nil]); first | done | rfl | (simp only [List.length_drop, List.length_take]; rfl)) ?_; (with_reducible refine (chg_Records.calls 1 2 3 4 false t110 t113 _ A1.out).mono ?_); rintro e w27 ⟨v111, v114, rfl, ho0, ho1, hb⟩; refine ⟨_, rfl, ?_⟩; have n0_ := Aside0.mk (Kd.R_lower ho0 (below_size (by repeat (first | (with_reducible first | exact HB.out | apply below_alloc | apply pw_below_drewN | apply below_drew1) | exact HB.out)))); have n1_ := Aside0.mk (Kd.R_lower ho1 (below_size (by repeat (first | (with_reducible first | exact HB.out | apply below_alloc | apply pw_below_drewN | apply below_drew1) | exact HB.out)))); have n2_ := Aside0.mk (below_step (by repeat (first | (with_reducible first | exact HB.out | apply below_alloc | apply pw_below_drewN | apply below_drew1) | exact HB.out)) hb); clear HB; have HO112 := n0_; have HO115 := n1_; have HB := n2_; clear n0_ n1_ n2_; (try clear hb); (try clear hb2); (try clear hk); (try clear hi); (try clear ho0); (try clear ho1)) | ((with_reducible refine gate_dst (N := 11) rfl ?_); (try (refine gate_guard (by rfl) ?_; dsimp only)); refine Kd.R_lit k60 _ 60 ?hg (N := 11) ?hd (xs := ([(⟨1, 3, 2⟩ : S60), (⟨1, 4, 0⟩ : S60)] : List (S60))) (inner := [.int .i64 1, .int .i64 3, .int .i64 2, .int .i64 1, .int .i64 4, .int .i64 0]) (ok := fun _ => True) (okp := fun _ => True) ?hr ?hp (fun _ hk => hk) trivial (Below.refl _ _) (Nat.le_refl _) (by simp) ?_; (case hd => rfl); (case hg => rfl); (case hr => first | (go_simp; done) | (go_simp; rfl)); (case hp => exact (Reps.c3 (show Kd.M k60 _ _ _ (⟨1, 3, 2⟩ : S60) [.int .i64 1, .int .i64 3, .int .i64 2] from (k60_mkM _ _ _ (⟨1, 3, 2⟩ : S60) )) (Reps.c3 (show Kd.M k60 _ _ _ (⟨1, 4, 0⟩ : S60) [.int .i64 1, .int .i64 4, .int .i64 0] from (k60_mkM _ _ _ (⟨1, 4, 0⟩ : S60) )) (Reps.none _ _)))); intro v117 w28 ho29 hb hg_ hnew_; clear hg_ hnew_; (first | rw [← Ny116.out] at ho29 | (simp only [Int.reduceToNat] at ho29; rw [← Ny116.out] at ho29)); have n0_ := Aside0.mk (Kd.R_elder' (by (with_reducible repeat (first | apply Kd.R_alloc | apply Kd.R_drewN | apply Kd.R_drew)); exact HO112.out) (Kd.R_base ho29) hb); have n1_ := Aside0.mk (Kd.R_below (by (with_reducible repeat (first | apply Kd.R_alloc | apply Kd.R_drewN | apply Kd.R_drew)); exact HO115.out) hb); have n2_ := Aside0.mk (Kd.R_lower (Kd.R_new' ho29 (Kd.R_lt (by (with_reducible repeat (first | apply Kd.R_alloc | apply Kd.R_drewN | apply Kd.R_drew)); exact HO112.out))) (below_size (by repeat (first | (with_reducible first | exact HB.out | apply below_alloc | apply pw_below_drewN | apply below_drew1) | exact HB.out)))); have n3_ := Aside0.mk (below_step (by repeat (first | (with_reducible first | exact HB.out | apply below_alloc | apply pw_below_drewN | apply below_drew1) | exact HB.out)) hb); clear HO112; clear HO115; clear HB; have HO112 := n0_; have HO115 := n1_; have HO118 := n2_; have HB := n3_; clear n0_ n1_ n2_ n3_; clear hb ho29; obtain ⟨Ao30, co30, eo30⟩ := Kd.R_slice HO112.out; subst eo30; obtain ⟨Ao31, co31, eo31⟩ := Kd.R_slice HO118.out; subst eo31) | ((with_reducible refine gate_callee (f := 26) rfl ?_); refine goesL_ (some 12) rfl rfl Try.func26 (by kernel_rfl) rfl #[.slice Ao30 t110.length co30, .slice Ao31 y116.length co31] rfl (by (try simp only [List.map_toArray, List.map_cons, List.map_nil]); first | done | rfl | (simp only [List.length_drop, List.length_take]; rfl)) ?_; (with_reducible refine (tidemillref11_Recs.calls k _ _ t110 _ _ y116 false _ ?side1 ?side2 ?side3 ?side4 A2.out).mono ?_); (case side1 => repeat (first | exact (Kd.R_reads' HO112.out).2.2 | (with_reducible refine Kd.C_alloc ?_ _) | (with_reducible refine Kd.C_drewN ?_ _) | (with_reducible refine Kd.C_drew ?_))); (case side2 => exact (Kd.R_reads' HO112.out).2.1); (case side3 => repeat (first | exact (Kd.R_reads' HO118.out).2.2 | (with_reducible refine Kd.C_alloc ?_ _) | (with_reducible refine Kd.C_drewN ?_ _) | (with_reducible refine Kd.C_drew ?_))); (case side4 => exact (Kd.R_reads' HO118.out).2.1); rintro e w' ⟨rfl, ⟨nd, rfl⟩⟩; refine ⟨_, rfl, ?_⟩))
    go_ret
    exact ⟨by first | rfl | (simp [errW_none, errW_some] <;> rfl) | (simp [*, errW_none, errW_some] <;> rfl), by repeat (first | (with_reducible first | exact HB.out | apply below_alloc | apply pw_below_drewN | apply below_drew1) | exact HB.out)⟩

/-! ### tidemilllaw15_few: function 8 -/
def tidemilllaw15_few.f (l0 : List (S30)) : Option ((List (S30))) := if (l0.length : Int) > 300 then (if 300 ≤ (l0.length : Int) then (some (l0.take 300)) else (none)) else (some l0)
set_option maxHeartbeats 8000000 in
set_option maxRecDepth 100000 in
theorem tidemilllaw15_few.calls (P0_ : Nat → Prop) (A0 : Option Addr) (c0 : Nat) (l0 : List (S30)) (r : List (S30)) (w : World) (hs0 : Kd.V k30 30 w w.heap.size (fun k_ => P0_ k_) (.slice A0 l0.length c0) l0) (h : tidemilllaw15_few.f l0 = some r) :
    Calls Try.prog 8 #[.slice A0 l0.length c0] w fun e w' => ∃ v0_ : Value, e = .returned (v0_) ∧ Kd.V k30 30 w' w.heap.size (fun k_ => (P0_ k_ ∨ w.heap.size ≤ k_)) v0_ r ∧ Below w.heap.size w w' := by
  have HO0 := Aside0.mk (show Kd.V k30 30 w w.heap.size (fun k_ => (P0_ k_ ∨ w.heap.size ≤ k_)) (.slice A0 l0.length c0) l0 from Kd.V_mono hs0 (fun k_ hk => .inl hk))
  have HB := Aside0.mk (Below.refl w.heap.size w)
  have H : (if (l0.length : Int) > 300 then (if 300 ≤ (l0.length : Int) then (some (l0.take 300)) else (none)) else (some l0)) = some r := h
  clear h
  by_cases c2 : (l0.length : Int) > 300
  · rw [if_pos c2] at H
    have c2b0 : decide (300 < (l0.length : Int)) = true := decide_eq_true c2
    have c2b1 : decide (300 < l0.length) = true := decide_eq_true (by omega)
    clear c2
    by_cases c3 : 300 ≤ (l0.length : Int)
    · rw [if_pos c3] at H
      have c3b0 := eq_true c3
      have c3b1 : decide (300 ≤ (l0.length : Int)) = true := decide_eq_true c3
      clear c3
      obtain ⟨y122, hy122⟩ : ∃ y_ : List (S30), y_ = (l0.take 300) := ⟨_, rfl⟩
      replace H : (some y122) = some r := by first | (rw [hy122]; with_reducible exact H) | (have H2_ := (Option.bind_some _ _).symm.trans H; rw [hy122]; with_reducible exact H2_) | (have H2_ := (Option.bind_some _ _).symm.trans H; with_reducible exact H2_) | with_reducible exact H | (rw [hy122]; exact H) | exact H
      have Ny122 := Aside0.mk hy122
      clear hy122
      obtain rfl := Option.some.inj H
      have q4 : (300 : Int) ≤ ((l0.length : Int) : Int) := of_decide_eq_true (by first | (with_reducible assumption) | assumption)
      obtain ⟨i04, hi04, _, hsz4, _⟩ := info_parts info30
      have hroom4 : l0.length ≤ c0 := (Kd.V_reads' HO0.out).2.1
      have hC4 : Kd.F k30 _ _ A0 l0.length l0 := (Kd.V_at (base := w.heap.size) HO0.out).2.2
      have hcut4 := cut_to (P := Try.prog) 22 30 .i64 Try.underlying22 hi04 A0 l0.length c0 300 (by omega) q4 hroom4
      have hr4 := Kd.F_take (m := 300) hC4 (by omega)
      have hy4 : y122.length = (300 : Int).toNat := (by rw [Ny122.out, List.length_take]; omega)
      rw [← Ny122.out] at hr4
      rw [← hy4] at hcut4
      have HO126 := Aside0.mk (show Kd.V k30 30 _ w.heap.size _ (.slice A0 y122.length c0) y122 from Kd.V_mk (by omega) hr4)
      have HC126 := Aside0.mk (show y122.length ≤ c0 from by omega)
      clear hr4 hC4 hroom4 hi04 hsz4
      have KY4 := Aside0.mk hy4
      clear hy4
      replace q4 := eq_true q4
      go_enter Try.func8, Try.ntmps8
      go_wp2
      go_ret
      exact ⟨_, by first | rfl | (simp [errW_none, errW_some] <;> rfl) | (simp [*, errW_none, errW_some] <;> rfl), by (with_reducible repeat (first | apply Kd.V_alloc | apply Kd.V_drewN | apply Kd.V_drew)); exact HO126.out, by repeat (first | (with_reducible first | exact HB.out | apply below_alloc | apply pw_below_drewN | apply below_drew1) | exact HB.out)⟩
    · rw [if_neg c3] at H
      exact absurd H (by simp)
  · rw [if_neg c2] at H
    have c2b0 : decide (300 < (l0.length : Int)) = false := decide_eq_false c2
    have c2b1 : decide (300 < l0.length) = false := decide_eq_false (by omega)
    clear c2
    obtain rfl := Option.some.inj H
    go_enter Try.func8, Try.ntmps8
    go_wp2
    go_ret
    exact ⟨_, by first | rfl | (simp [errW_none, errW_some] <;> rfl) | (simp [*, errW_none, errW_some] <;> rfl), by (with_reducible repeat (first | apply Kd.V_alloc | apply Kd.V_drewN | apply Kd.V_drew)); exact HO0.out, by repeat (first | (with_reducible first | exact HB.out | apply below_alloc | apply pw_below_drewN | apply below_drew1) | exact HB.out)⟩

/-! ### tidemillref12_Changes: function 9 -/
def tidemillref12_Changes.l0 : Nat → List (S30) → List (S30) → Int → Option (Bool)
  | 0, _, _, _ => none
  | k + 1, x0, x1, x5 => if x5 < (x0.length : Int) then (if 0 ≤ x5 then (if x5 < (x1.length : Int) then (if (!(((rd_T30 x0 x5).f0) == ((rd_T30 x1 x5).f0)) || (!(((rd_T30 x0 x5).f1) == ((rd_T30 x1 x5).f1)) || (!(((rd_T30 x0 x5).f2) == ((rd_T30 x1 x5).f2)) || (!(((rd_T30 x0 x5).f3) == ((rd_T30 x1 x5).f3)) || (!(((rd_T30 x0 x5).f4) == ((rd_T30 x1 x5).f4))))))) = true then (some false) else (tidemillref12_Changes.l0 k x0 x1 (wrap64 (x5 + 1)))) else (none)) else (none)) else (some true)
def tidemillref12_Changes.f (k : Nat) (l0 : List (S30)) (l1 : List (S30)) : Option (Bool) := if (l0.length : Int) = (l1.length : Int) then (tidemillref12_Changes.l0 k l0 l1 0) else (some false)
theorem tidemillref12_Changes.mono_l : ∀ k, (∀ y0 y1 y2, LeO (tidemillref12_Changes.l0 k y0 y1 y2) (tidemillref12_Changes.l0 (k + 1) y0 y1 y2))
  | 0 => fun _ _ _ r h => by simp [tidemillref12_Changes.l0] at h
  | k + 1 => by
    have ih0 := tidemillref12_Changes.mono_l k
    · intro y0 y1 y2
      unfold tidemillref12_Changes.l0
      repeat' first
      | (with_reducible exact ih0 _ _ _)
      | (with_reducible exact LeO.refl _)
      | (with_reducible exact LeO.none _)
      | (with_reducible refine LeO.ite ?_ ?_)
      | (with_reducible refine LeO.bind ?_ (fun _ => ?_))
      | exact ih0 _ _ _
      | exact LeO.none _
      | refine LeO.ite ?_ ?_
      | refine LeO.bind ?_ (fun _ => ?_)
theorem tidemillref12_Changes.mono : ∀ a0 a1 k, LeO (tidemillref12_Changes.f k a0 a1) (tidemillref12_Changes.f (k + 1) a0 a1) := by
  intro a0 a1 k
  have ih0 := tidemillref12_Changes.mono_l k
  unfold tidemillref12_Changes.f
  repeat' first
      | (with_reducible exact ih0 _ _ _)
      | (with_reducible exact LeO.refl _)
      | (with_reducible exact LeO.none _)
      | (with_reducible refine LeO.ite ?_ ?_)
      | (with_reducible refine LeO.bind ?_ (fun _ => ?_))
      | exact ih0 _ _ _
      | exact LeO.none _
      | refine LeO.ite ?_ ?_
      | refine LeO.bind ?_ (fun _ => ?_)
set_option maxHeartbeats 8000000 in
set_option maxRecDepth 100000 in
theorem tidemillref12_Changes.calls (k : Nat) (A0 : Option Addr) (c0 : Nat) (l0 : List (S30)) (A1 : Option Addr) (c1 : Nat) (l1 : List (S30)) (r : Bool) (w : World) (hr0 : Kd.C k30 w A0 l0.length l0) (hc0 : l0.length ≤ c0) (hr1 : Kd.C k30 w A1 l1.length l1) (hc1 : l1.length ≤ c1) (h : tidemillref12_Changes.f k l0 l1 = some r) :
    Calls Try.prog 9 #[.slice A0 l0.length c0, .slice A1 l1.length c1] w fun e w' => e = .returned (.bool r) ∧ Drawn0 w w' := by
  have hu30 := Try.underlying30
  have HR0 := Aside0.mk hr0
  have HC0 := Aside0.mk hc0
  clear hr0 hc0
  have HR1 := Aside0.mk hr1
  have HC1 := Aside0.mk hc1
  clear hr1 hc1
  have H : (if (l0.length : Int) = (l1.length : Int) then (tidemillref12_Changes.l0 k l0 l1 0) else (some false)) = some r := h
  clear h
  by_cases c3 : (l0.length : Int) = (l1.length : Int)
  · rw [if_pos c3] at H
    have c3b0 : ((l0.length : Int) == (l1.length : Int)) = true := beq_iff_eq.mpr c3
    have c3b1 : ((l0.length : Int) != (l1.length : Int)) = false := bne_eq_false_iff_eq.mpr c3
    have c3b2 : (l0.length == l1.length) = true := by first | simpa using c3 | (simp at c3 ⊢; omega)
    clear c3
    have H' := Aside0.mk H
    clear H
    go_enter Try.func9, Try.ntmps9
    go_wp2
    repeat (go_quiet (fail); try go_wp2)
    go_loopg [5] k (fun kq v5 w' => ∃ (x5_1 : Int), v5 = .int .i64 x5_1 ∧ Aside0 (tidemillref12_Changes.l0 kq l0 l1 x5_1 = some r) ∧ Aside0 (kq ≤ k) ∧ Drawn0 w w')
    case atStart => exact ⟨(0), (by first | rfl | (simp; done) | (simp [*]; done)), H', ⟨Nat.le_refl _⟩, by repeat (first | exact Drawn0.refl _ | apply Drawn0.step)⟩
    case round =>
      clear H'
      try clear c1
      try clear p2
      try clear c3
      try clear c3b0
      try clear c3b1
      try clear c3b2
      obtain ⟨x5_1, rfl, HA, HK1, ⟨m1, rfl⟩⟩ := hrel
      cases gk with
      | zero => exact absurd HA.out (by simp [tidemillref12_Changes.l0])
      | succ k1 =>
        have H := HA.out
        clear HA
        simp only [tidemillref12_Changes.l0] at H
        by_cases c4 : x5_1 < (l0.length : Int)
        · rw [if_pos c4] at H
          have c4b0 : decide (x5_1 < (l0.length : Int)) = true := decide_eq_true c4
          clear c4
          by_cases c5 : 0 ≤ x5_1
          · rw [if_pos c5] at H
            have c5b0 : decide (0 ≤ x5_1) = true := decide_eq_true c5
            clear c5
            by_cases c6 : x5_1 < (l1.length : Int)
            · rw [if_pos c6] at H
              have c6b0 : decide (x5_1 < (l1.length : Int)) = true := decide_eq_true c6
              clear c6
              by_cases c7 : (!(((rd_T30 l0 x5_1).f0) == ((rd_T30 l1 x5_1).f0)) || (!(((rd_T30 l0 x5_1).f1) == ((rd_T30 l1 x5_1).f1)) || (!(((rd_T30 l0 x5_1).f2) == ((rd_T30 l1 x5_1).f2)) || (!(((rd_T30 l0 x5_1).f3) == ((rd_T30 l1 x5_1).f3)) || (!(((rd_T30 l0 x5_1).f4) == ((rd_T30 l1 x5_1).f4))))))) = true
              · rw [if_pos c7] at H
                have c7b0 : (!(((rd_T30 l0 x5_1).f0) == ((rd_T30 l1 x5_1).f0)) || (!(((rd_T30 l0 x5_1).f1) == ((rd_T30 l1 x5_1).f1)) || (!(((rd_T30 l0 x5_1).f2) == ((rd_T30 l1 x5_1).f2)) || (!(((rd_T30 l0 x5_1).f3) == ((rd_T30 l1 x5_1).f3)) || (!(((rd_T30 l0 x5_1).f4) == ((rd_T30 l1 x5_1).f4))))))) = true := c7
                clear c7
                obtain rfl := Option.some.inj H
                have p127 : 0 ≤ (x5_1 : Int) := of_decide_eq_true (by first | (with_reducible assumption) | assumption)
                have q127 : x5_1 < (l0.length : Int) := of_decide_eq_true (by first | (with_reducible assumption) | assumption)
                obtain ⟨ad127, e127, hx127_0, hx127_1, hx127_2, hx127_3, hx127_4⟩ := at_T30 HR0.out x5_1 p127 q127
                cases e127
                replace p127 := eq_true p127
                replace q127 := eq_true q127
                have p128 : 0 ≤ (x5_1 : Int) := of_decide_eq_true (by first | (with_reducible assumption) | assumption)
                have q128 : x5_1 < (l1.length : Int) := of_decide_eq_true (by first | (with_reducible assumption) | assumption)
                obtain ⟨ad128, e128, hx128_0, hx128_1, hx128_2, hx128_3, hx128_4⟩ := at_T30 HR1.out x5_1 p128 q128
                cases e128
                replace p128 := eq_true p128
                replace q128 := eq_true q128
                go_wp2
                repeat (go_quiet (fail); try go_wp2)
                go_ret
                exact ⟨by first | rfl | (simp; done) | (simp [*]; done), by repeat (first | exact Drawn0.refl _ | apply Drawn0.step)⟩
              · rw [if_neg c7] at H
                have c7b0 : (!(((rd_T30 l0 x5_1).f0) == ((rd_T30 l1 x5_1).f0)) || (!(((rd_T30 l0 x5_1).f1) == ((rd_T30 l1 x5_1).f1)) || (!(((rd_T30 l0 x5_1).f2) == ((rd_T30 l1 x5_1).f2)) || (!(((rd_T30 l0 x5_1).f3) == ((rd_T30 l1 x5_1).f3)) || (!(((rd_T30 l0 x5_1).f4) == ((rd_T30 l1 x5_1).f4))))))) = false := by simpa using c7
                clear c7
                have H' := Aside0.mk H
                clear H
                have p127 : 0 ≤ (x5_1 : Int) := of_decide_eq_true (by first | (with_reducible assumption) | assumption)
                have q127 : x5_1 < (l0.length : Int) := of_decide_eq_true (by first | (with_reducible assumption) | assumption)
                obtain ⟨ad127, e127, hx127_0, hx127_1, hx127_2, hx127_3, hx127_4⟩ := at_T30 HR0.out x5_1 p127 q127
                cases e127
                replace p127 := eq_true p127
                replace q127 := eq_true q127
                have p128 : 0 ≤ (x5_1 : Int) := of_decide_eq_true (by first | (with_reducible assumption) | assumption)
                have q128 : x5_1 < (l1.length : Int) := of_decide_eq_true (by first | (with_reducible assumption) | assumption)
                obtain ⟨ad128, e128, hx128_0, hx128_1, hx128_2, hx128_3, hx128_4⟩ := at_T30 HR1.out x5_1 p128 q128
                cases e128
                replace p128 := eq_true p128
                replace q128 := eq_true q128
                go_wp2
                repeat (go_quiet (fail); try go_wp2)
                go_roundg k1
                case measure => have := HK1.out; omega
                case rel => exact ⟨(wrap64 (x5_1 + 1)), (by first | rfl | (simp; done) | (simp [*]; done)), H', ⟨by have := HK1.out; omega⟩, by repeat (first | exact Drawn0.refl _ | apply Drawn0.step)⟩
            · rw [if_neg c6] at H
              exact absurd H (by simp)
          · rw [if_neg c5] at H
            exact absurd H (by simp)
        · rw [if_neg c4] at H
          have c4b0 : decide (x5_1 < (l0.length : Int)) = false := decide_eq_false c4
          clear c4
          obtain rfl := Option.some.inj H
          go_wp2
          repeat (go_quiet (fail); try go_wp2)
          go_ret
          exact ⟨by first | rfl | (simp; done) | (simp [*]; done), by repeat (first | exact Drawn0.refl _ | apply Drawn0.step)⟩
  · rw [if_neg c3] at H
    have c3b0 : ((l0.length : Int) == (l1.length : Int)) = false := beq_eq_false_iff_ne.mpr c3
    have c3b1 : ((l0.length : Int) != (l1.length : Int)) = true := bne_iff_ne.mpr c3
    have c3b2 : (l0.length == l1.length) = false := by first | simpa using c3 | (simp at c3 ⊢; omega)
    obtain rfl := Option.some.inj H
    go_enter Try.func9, Try.ntmps9
    go_wp2
    repeat (go_quiet (fail); try go_wp2)
    go_ret
    exact ⟨by first | rfl | (simp; done) | (simp [*]; done), by repeat (first | exact Drawn0.refl _ | apply Drawn0.step)⟩

-- NOT PRINTED: function 27 (chg_at)

-- NOT PRINTED: function 69 (api_Change_69)

-- NOT PRINTED: function 84 (api_Change_84)

-- NOT PRINTED: function 70 (api_Change_70)

-- NOT PRINTED: function 77 (bits_Len32)

-- NOT PRINTED: function 78 (bits_Len64)

-- NOT PRINTED: function 56 (bits_Len)

-- NOT PRINTED: function 85 (slices_nextPowerOfTwo)

-- NOT PRINTED: function 86 (slices_xorshift_Next)

-- NOT PRINTED: function 71 (api_Change_71)

-- NOT PRINTED: function 99 (api_Change_99)

-- NOT PRINTED: function 88 (api_Change_88)

-- NOT PRINTED: function 87 (api_Change_87)

-- NOT PRINTED: function 72 (api_Change_72)

-- NOT PRINTED: function 73 (api_Change_73)

-- NOT PRINTED: function 74 (api_Change_74)

-- NOT PRINTED: function 75 (api_Change_75)

-- NOT PRINTED: function 76 (api_Change_76)

-- NOT PRINTED: function 55 (api_Change_55)

-- NOT PRINTED: function 28 (api_Change_28)

/-! ### chg_Last: function 10, walked by hand (ChgWalk) -/
def tup30 (x : S30) : Chg.T5 := (x.f0, x.f1, x.f2, x.f3, x.f4)
def unt30 (x : Chg.T5) : S30 := ⟨x.1, x.2.1, x.2.2.1, x.2.2.2.1, x.2.2.2.2⟩
def chg_Last.f (l0 : List (S30)) : Option (List (S30)) := Chg.lastF tup30 unt30 l0
theorem chg_Last.calls (A0 : Option Addr) (c0 : Nat) (l0 : List (S30)) (r : List (S30)) (w : World) (hr0 : Kd.C k30 w A0 l0.length l0) (hc0 : l0.length ≤ c0) (h : chg_Last.f l0 = some r) :
    Calls Try.prog 10 #[.slice A0 l0.length c0] w fun e w' => ∃ v0_ : Value, e = .returned (v0_) ∧ Kd.R k30 30 w' w.heap.size (fun _ => True) v0_ r ∧ Below w.heap.size w w' :=
  Chg.lastF_calls tup30 unt30 (fun _ => rfl) A0 c0 l0 r w hr0 hc0 h

end Go.Proofs.Ytfccepkpbnalmaa.PChgEmpties

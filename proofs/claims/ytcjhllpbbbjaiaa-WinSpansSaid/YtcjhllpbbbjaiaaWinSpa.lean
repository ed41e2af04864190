import Derived.Test.YtcjhllpbbbjaiaaWinShown
/- Windows side by side. -/
namespace Go.Proofs.Ytcjhllpbbbjaiaa.Win
open Go.RowKit Go.Maps Go.Proofs.YtcjhllpbbbjaiaaW.PrintWords Go.Proofs.YtcjhllpbbbjaiaaW.PrintMore Go.Proofs.Ytcjhllpbbbjaiaa.Cut
theorem startF_facts {n a : Int} (hn : 1 ≤ n) (h0 : 0 ≤ a) (h1 : a ≤ 1099511627776) : ∃ f, startF n a = f ∧ 0 ≤ f ∧ f ≤ a ∧ a < f + n ∧ f % n = 0 ∧ f = n * (a / n) := by
  have e1 := Int.mul_ediv_add_emod a n
  have e2 : 0 ≤ n * (a / n) := Int.mul_nonneg (by omega) (Int.ediv_nonneg (by omega) (by omega))
  have e3 := Int.emod_nonneg a (show n ≠ 0 by omega)
  have e4 := Int.emod_lt_of_pos a (show 0 < n by omega)
  refine ⟨n * (a / n), ?_, e2, by omega, by omega, Int.mul_emod_right .., rfl⟩
  unfold startF
  rw [if_neg (by omega)]
  omega
theorem w64_of {x : Int} (h0 : 0 ≤ x) (h1 : x ≤ 4611686018427387904) : W64 x := by
  unfold W64
  exact WalkArith.wf_i64 (by omega)
set_option maxRecDepth 100000 in
set_option maxHeartbeats 4000000 in
theorem spans_walk (size key a b val : Int) (h0 : 0 ≤ size) (h1 : size ≤ 65535) (hk : W64 key) (a0 : 0 ≤ a) (a1 : a ≤ 4294967295) (b0 : 0 ≤ b) (b1 : b ≤ 4294967295) (hv : W64 val) (w : World) :
    Calls Try.prog 3 #[.int .u16 size, .int .i64 key, .int .u32 a, .int .u32 b, .int .i64 val] w fun e w' => e = .returned (.bool true) ∧ Below w.heap.size w w' := by
  have hsh := shown_calls w
  obtain ⟨n, hn⟩ : ∃ n, n = 1 + size := ⟨_, rfl⟩
  have n1 : 1 ≤ n := by omega
  have n2 : n ≤ 65536 := by omega
  obtain ⟨fa, ha, fa0, fa1, fa2, fa3, fa4⟩ := startF_facts n1 a0 (by omega)
  obtain ⟨fb, hb, fb0, fb1, fb2, fb3, fb4⟩ := startF_facts n1 b0 (by omega)
  obtain ⟨fc, hc, fc0, fc1, fc2, fc3, fc4⟩ := startF_facts (a := fa + n) n1 (by omega) (by omega)
  have hfc : fc = fa + n := by
    rw [fc4, Int.add_ediv_of_dvd_right (Int.dvd_refl n), Int.ediv_self (by omega), Int.mul_add, Int.mul_ediv_cancel' (Int.dvd_of_emod_eq_zero fa3)]
    omega
  subst hfc
  have HN := fun w => new_calls 5 n (by omega) w
  have hput := fun (w : World) (s m : Nat) (h : Own w s 5 n m []) => put_ok h key a val hk hv (by rw [ha]; exact w64_of fa0 (by omega)) (by rw [ha]; exact fa0) (by intro; simp)
  have hget := fun (w : World) (s m : Nat) (h : Own w s 5 n m [((fa, key), val)]) => get_calls h key b hk (by rw [hb]; exact w64_of fb0 (by omega))
  have hSa := fun (w : World) (s m : Nat) (h : Own w s 5 n m [((fa, key), val)]) => start_calls h a
  have hSb := fun (w : World) (s m : Nat) (h : Own w s 5 n m [((fa, key), val)]) => start_calls h b
  have hSc := fun (w : World) (s m : Nat) (h : Own w s 5 n m [((fa, key), val)]) => start_calls h (fa + n)
  simp only [ha, hb, hc, chg, put] at hput hget hSa hSb hSc
  have HP := Lib.hid hput; have HG := Lib.hid hget; have HSa := Lib.hid hSa; have HSb := Lib.hid hSb; have HSc := Lib.hid hSc
  have t1 : (fa % n != 0) = false := by rw [fa3]; rfl
  have t2 : (fa + n - fa != n) = false := by rw [bne_eq_false_iff_eq]; omega
  have t3 : ¬ a < fa := by omega
  have t4 : ¬ fa + n ≤ a := by omega
  have t5 : (fa + n == fa + n) = true := by simp
  clear hput hget hSa hSb hSc ha hb hc fc0 fc1 fc2 fc3 fc4 fa3 fb3
  by_cases hs : a / n = b / n
  · have e1 : fb = fa := by rw [fb4, fa4, hs]
    subst e1
    have hlk : look [((fb, key), val)] (fb, key) = some val := by simp [look]
    have q1 : (a / n == b / n) = true := by rw [hs]; simp
    have HG2 := fun (w : World) (s m : Nat) (h : Own w s 5 n m [((fb, key), val)]) => HG.out w s m h
    simp only [hlk, Option.getD_some, Option.isSome_some] at HG2
    have q2 : (val == val) = true := by simp
    have q3 : (fb == fb) = true := by simp
    have HG := Lib.hid HG2
    clear hlk HG2 fb4 fa4 hs
    subst hn
    go_enter Try.func3, Try.ntmps3
    go_wp2_with (first
      | (go_at_call 8; refine hsh.mono ?_; rintro e w1 ⟨rfl, hB⟩; have HB := Lib.hid hB; clear hB)
      | (go_at_call 9; refine (HN _).mono ?_; rintro e w2 ⟨rfl, hO2, hB2⟩; have HO2 := Lib.hid hO2; have HB2 := Lib.hid hB2; clear hO2 hB2)
      | (go_at_call 10; refine (HP.out _ _ _ HO2.out).mono ?_; rintro e w3 ⟨rfl, hO3, hg3⟩; have HO3 := Lib.hid hO3; have HG3 := Lib.hid hg3; clear hO3 hg3)
      | (go_at_call 11; refine (HG.out _ _ _ (HO3.out.kept (World.grownBy_alloc _ _ none) (by simp) (by simp))).mono ?_; rintro e w' ⟨rfl, q, rfl⟩))
    go_quiet (fail)
    rename Nat => q8
    go_upto_region 11 with fail
    have hO5 := (HO3.out.kept (World.grownBy_alloc w3 (.cells #[.int .i64 key, .int .i64 fb, .int .i64 (fb + (1 + size)), .int .i64 val, .bool false] 30) none) (by simp) (by simp)).drewN (q + q8)
    have hb5 : ((w3.alloc (.cells #[.int .i64 key, .int .i64 fb, .int .i64 (fb + (1 + size)), .int .i64 val, .bool false] 30)).drewN (q + q8)).heap[w3.heap.size]? = some (.cells #[.int .i64 key, .int .i64 fb, .int .i64 (fb + (1 + size)), .int .i64 val, .bool false] 30 (0, 0)) := (MapKept.heap_alloc w3 _).1
    have hg5 : w3.grownBy ((w3.alloc (.cells #[.int .i64 key, .int .i64 fb, .int .i64 (fb + (1 + size)), .int .i64 val, .bool false] 30)).drewN (q + q8)) none := grown_drewN (World.grownBy_alloc _ _ _) _
    generalize (w3.alloc (.cells #[.int .i64 key, .int .i64 fb, .int .i64 (fb + (1 + size)), .int .i64 val, .bool false] 30)).drewN (q + q8) = W5 at *
    have HG5 := Lib.hid (And.intro HG3.out hg5)
    have z2 := (blk_cell hb5 2).trans rfl
    generalize w3.heap.size = g at *
    clear hg5 hb5 HG3 HO3
    have hca := fun n => HSa.out _ _ _ (hO5.drewN n)
    have hcb := fun n => HSb.out _ _ _ (hO5.drewN n)
    have hcc := fun n => HSc.out _ _ _ (hO5.drewN n)
    clear hO5 HSa HSb HSc HN HP HG hsh
    go_quiet (first | (go_at_call 12; with_reducible exact Calls.quiet_of_same (hca _)) | (go_at_call 12; with_reducible exact Calls.quiet_of_same (hcb _)) | (go_at_call 12; with_reducible exact Calls.quiet_of_same (hcc _)))
    go_wp2
    go_ret
    refine ⟨by simp, ?_⟩
    have b1 := below_then HB.out HB.out.size HB2.out
    have b2 := b1.grown HG5.out.1 b1.size (fun j hj => by cases hj; exact HB.out.size)
    have b3 := b2.grown HG5.out.2 b2.size (fun j hj => by cases hj)
    exact pw_below_drewN b3 _
  · have hne : fa ≠ fb := fun e => hs (Int.eq_of_mul_eq_mul_left (show n ≠ 0 by omega) (by rw [← fa4, ← fb4, e]))
    have hlk : look [((fa, key), val)] (fb, key) = none := by
      rw [look, if_neg (fun e => hne (congrArg Prod.fst e))]; rfl
    have q1 : (a / n == b / n) = false := beq_eq_false_iff_ne.2 hs
    have HG2 := fun (w : World) (s m : Nat) (h : Own w s 5 n m [((fa, key), val)]) => HG.out w s m h
    simp only [hlk, Option.getD_none, Option.isSome_none] at HG2
    have q3 : (fa == fb) = false := beq_eq_false_iff_ne.2 hne
    have HG := Lib.hid HG2
    clear hlk HG2 fb4 fa4 hs hne
    subst hn
    go_enter Try.func3, Try.ntmps3
    go_wp2_with (first
      | (go_at_call 8; refine hsh.mono ?_; rintro e w1 ⟨rfl, hB⟩; have HB := Lib.hid hB; clear hB)
      | (go_at_call 9; refine (HN _).mono ?_; rintro e w2 ⟨rfl, hO2, hB2⟩; have HO2 := Lib.hid hO2; have HB2 := Lib.hid hB2; clear hO2 hB2)
      | (go_at_call 10; refine (HP.out _ _ _ HO2.out).mono ?_; rintro e w3 ⟨rfl, hO3, hg3⟩; have HO3 := Lib.hid hO3; have HG3 := Lib.hid hg3; clear hO3 hg3)
      | (go_at_call 11; refine (HG.out _ _ _ (HO3.out.kept (World.grownBy_alloc _ _ none) (by simp) (by simp))).mono ?_; rintro e w' ⟨rfl, q, rfl⟩))
    go_quiet (fail)
    rename Nat => q8
    go_upto_region 11 with fail
    have hO5 := (HO3.out.kept (World.grownBy_alloc w3 (.cells #[.int .i64 key, .int .i64 fa, .int .i64 (fa + (1 + size)), .int .i64 val, .bool false] 30) none) (by simp) (by simp)).drewN (q + q8)
    have hb5 : ((w3.alloc (.cells #[.int .i64 key, .int .i64 fa, .int .i64 (fa + (1 + size)), .int .i64 val, .bool false] 30)).drewN (q + q8)).heap[w3.heap.size]? = some (.cells #[.int .i64 key, .int .i64 fa, .int .i64 (fa + (1 + size)), .int .i64 val, .bool false] 30 (0, 0)) := (MapKept.heap_alloc w3 _).1
    have hg5 : w3.grownBy ((w3.alloc (.cells #[.int .i64 key, .int .i64 fa, .int .i64 (fa + (1 + size)), .int .i64 val, .bool false] 30)).drewN (q + q8)) none := grown_drewN (World.grownBy_alloc _ _ _) _
    generalize (w3.alloc (.cells #[.int .i64 key, .int .i64 fa, .int .i64 (fa + (1 + size)), .int .i64 val, .bool false] 30)).drewN (q + q8) = W5 at *
    have HG5 := Lib.hid (And.intro HG3.out hg5)
    have z2 := (blk_cell hb5 2).trans rfl
    generalize w3.heap.size = g at *
    clear hg5 hb5 HG3 HO3
    have hca := fun n => HSa.out _ _ _ (hO5.drewN n)
    have hcb := fun n => HSb.out _ _ _ (hO5.drewN n)
    have hcc := fun n => HSc.out _ _ _ (hO5.drewN n)
    clear hO5 HSa HSb HSc HN HP HG hsh
    go_quiet (first | (go_at_call 12; with_reducible exact Calls.quiet_of_same (hca _)) | (go_at_call 12; with_reducible exact Calls.quiet_of_same (hcb _)) | (go_at_call 12; with_reducible exact Calls.quiet_of_same (hcc _)))
    go_wp2
    go_ret
    refine ⟨by simp, ?_⟩
    have b1 := below_then HB.out HB.out.size HB2.out
    have b2 := b1.grown HG5.out.1 b1.size (fun j hj => by cases hj; exact HB.out.size)
    have b3 := b2.grown HG5.out.2 b2.size (fun j hj => by cases hj)
    exact pw_below_drewN b3 _
end Go.Proofs.Ytcjhllpbbbjaiaa.Win

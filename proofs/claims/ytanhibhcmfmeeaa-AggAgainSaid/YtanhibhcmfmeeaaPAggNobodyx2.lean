-- Written by a turned copy of the print, with contracts that this session proved by hand.
import Derived.Test.YtanhibhcmfmeeaaPAggNobodyx0
import Derived.Test.YtanhibhcmfmeeaaPAggNobodyx1
namespace Go.Proofs.Ytanhibhcmfmeeaa.PAggNobody
open Go.RowKit Go.Proofs.YtanhibhcmfmeeaaW.PrintWords Go.Proofs.YtanhibhcmfmeeaaW.PrintLast Go.Proofs.YtanhibhcmfmeeaaW.PrintMore
attribute [local go_sem] max2_int min2_int max_two min_two max_three min_three max_four min_four   -- for this text's walks alone
set_option linter.unusedVariables false
set_option linter.unusedSimpArgs false

attribute [local go_sem high] eqA50
-- NOT PRINTED: function 48 (expr_kids)

-- NOT PRINTED: function 30 (expr_may)

-- NOT PRINTED: function 20 (expr_May)

-- NOT PRINTED: function 31 (kv_New)

-- NOT PRINTED: function 32 (win_New)

-- NOT PRINTED: function 33 (sess_New)

-- NOT PRINTED: function 21 (agg_open)

-- NOT PRINTED: function 10 (agg_New)

-- NOT PRINTED: function 22 (agg_may)

-- NOT PRINTED: function 65 (expr_one)

-- NOT PRINTED: function 49 (expr_two)

-- NOT PRINTED: function 35 (expr_world_value)

-- NOT PRINTED: function 23 (expr_Eval)

-- NOT PRINTED: function 60 (kv_pair_int64)

-- NOT PRINTED: function 41 (kv_Store_find)

-- NOT PRINTED: function 26 (kv_Store_Get)

-- NOT PRINTED: function 29 (win_Store_Start)

-- NOT PRINTED: function 50 (win_Store_Len)

-- NOT PRINTED: function 36 (win_Store_Get)

-- NOT PRINTED: function 51 (sess_may)

-- NOT PRINTED: function 46 (sess_session_to)

-- NOT PRINTED: function 55 (sess_session_from)

-- NOT PRINTED: function 52 (sess_Store_touches)

-- NOT PRINTED: function 53 (sess_session_change)

-- NOT PRINTED: function 37 (sess_Store_Find)

-- NOT PRINTED: function 24 (agg_Store_gathered)

-- NOT PRINTED: function 66 (kv_pair_66)

-- NOT PRINTED: function 88 (kv_pair_88)

-- NOT PRINTED: function 74 (kv_pair_74)

-- NOT PRINTED: function 67 (kv_pair_67)

-- NOT PRINTED: function 54 (kv_pair_54)

-- NOT PRINTED: function 38 (kv_Store_Put)

-- NOT PRINTED: function 43 (win_Store_change)

-- NOT PRINTED: function 39 (win_Store_Put)

-- NOT PRINTED: function 47 (sess_session_gone)

-- NOT PRINTED: function 56 (sess_times)

-- NOT PRINTED: function 68 (api_Change_68)

-- NOT PRINTED: function 57 (api_Change_57)

-- NOT PRINTED: function 69 (sess_session_69)

-- NOT PRINTED: function 75 (sess_cmp)

-- NOT PRINTED: function 70 (sess_order)

-- NOT PRINTED: function 76 (sess_session_76)

-- NOT PRINTED: function 95 (sess_session_95)

-- NOT PRINTED: function 89 (sess_session_89)

-- NOT PRINTED: function 77 (sess_session_77)

-- NOT PRINTED: function 71 (sess_session_71)

-- NOT PRINTED: function 59 (sess_Store_insert)

-- NOT PRINTED: function 40 (sess_Store_Put)

-- NOT PRINTED: function 25 (agg_Store_put)

-- NOT PRINTED: function 12 (agg_Store_Apply)

-- NOT PRINTED: function 13 (agg_Store_Value)

/-! ### tidemillref12_Changes: function 14 -/
def tidemillref12_Changes.l0 : Nat → List (S50) → List (S50) → Int → Option (Bool)
  | 0, _, _, _ => none
  | k + 1, x0, x1, x5 => if x5 < (x0.length : Int) then (if 0 ≤ x5 then (if x5 < (x1.length : Int) then (if (!(((rd_T50 x0 x5).f0) == ((rd_T50 x1 x5).f0)) || (!(((rd_T50 x0 x5).f1) == ((rd_T50 x1 x5).f1)) || (!(((rd_T50 x0 x5).f2) == ((rd_T50 x1 x5).f2)) || (!(((rd_T50 x0 x5).f3) == ((rd_T50 x1 x5).f3)) || (!(((rd_T50 x0 x5).f4) == ((rd_T50 x1 x5).f4))))))) = true then (some false) else (tidemillref12_Changes.l0 k x0 x1 (wrap64 (x5 + 1)))) else (none)) else (none)) else (some true)
def tidemillref12_Changes.f (k : Nat) (l0 : List (S50)) (l1 : List (S50)) : Option (Bool) := if (l0.length : Int) = (l1.length : Int) then (tidemillref12_Changes.l0 k l0 l1 0) else (some false)
theorem tidemillref12_Changes.mono_l : ∀ k, (∀ y0 y1 y2, LeO (tidemillref12_Changes.l0 k y0 y1 y2) (tidemillref12_Changes.l0 (k + 1) y0 y1 y2))
  | 0 => fun _ _ _ r h => by simp [tidemillref12_Changes.l0] at h
  | k + 1 => by
    have ih0 := tidemillref12_Changes.mono_l k
    · intro y0 y1 y2
      unfold tidemillref12_Changes.l0
      repeat' first
      | (with_reducible exact ih0 _ _ _)
      | (with_reducible exact LeO.refl _)
      | (with_reducible exact LeO.none _)
      | (with_reducible refine LeO.ite ?_ ?_)
      | (with_reducible refine LeO.bind ?_ (fun _ => ?_))
      | exact ih0 _ _ _
      | exact LeO.none _
      | refine LeO.ite ?_ ?_
      | refine LeO.bind ?_ (fun _ => ?_)
theorem tidemillref12_Changes.mono : ∀ a0 a1 k, LeO (tidemillref12_Changes.f k a0 a1) (tidemillref12_Changes.f (k + 1) a0 a1) := by
  intro a0 a1 k
  have ih0 := tidemillref12_Changes.mono_l k
  unfold tidemillref12_Changes.f
  repeat' first
      | (with_reducible exact ih0 _ _ _)
      | (with_reducible exact LeO.refl _)
      | (with_reducible exact LeO.none _)
      | (with_reducible refine LeO.ite ?_ ?_)
      | (with_reducible refine LeO.bind ?_ (fun _ => ?_))
      | exact ih0 _ _ _
      | exact LeO.none _
      | refine LeO.ite ?_ ?_
      | refine LeO.bind ?_ (fun _ => ?_)
set_option maxHeartbeats 8000000 in
set_option maxRecDepth 100000 in
theorem tidemillref12_Changes.calls (k : Nat) (A0 : Option Addr) (c0 : Nat) (l0 : List (S50)) (A1 : Option Addr) (c1 : Nat) (l1 : List (S50)) (r : Bool) (w : World) (hr0 : Kd.C k50 w A0 l0.length l0) (hc0 : l0.length ≤ c0) (hr1 : Kd.C k50 w A1 l1.length l1) (hc1 : l1.length ≤ c1) (h : tidemillref12_Changes.f k l0 l1 = some r) :
    Calls Try.prog 14 #[.slice A0 l0.length c0, .slice A1 l1.length c1] w fun e w' => e = .returned (.bool r) ∧ Drawn0 w w' := by
  have hu50 := Try.underlying50
  have HR0 := Aside0.mk hr0
  have HC0 := Aside0.mk hc0
  clear hr0 hc0
  have HR1 := Aside0.mk hr1
  have HC1 := Aside0.mk hc1
  clear hr1 hc1
  have H : (if (l0.length : Int) = (l1.length : Int) then (tidemillref12_Changes.l0 k l0 l1 0) else (some false)) = some r := h
  clear h
  by_cases c3 : (l0.length : Int) = (l1.length : Int)
  · rw [if_pos c3] at H
    have c3b0 : ((l0.length : Int) == (l1.length : Int)) = true := beq_iff_eq.mpr c3
    have c3b1 : ((l0.length : Int) != (l1.length : Int)) = false := bne_eq_false_iff_eq.mpr c3
    have c3b2 : (l0.length == l1.length) = true := by first | simpa using c3 | (simp at c3 ⊢; omega)
    clear c3
    have H' := Aside0.mk H
    clear H
    go_enter Try.func14, Try.ntmps14
    go_wp2
    repeat (go_quiet (fail); try go_wp2)
    go_loopg [5] k (fun kq v5 w' => ∃ (x5_1 : Int), v5 = .int .i64 x5_1 ∧ Aside0 (tidemillref12_Changes.l0 kq l0 l1 x5_1 = some r) ∧ Aside0 (kq ≤ k) ∧ Drawn0 w w')
    case atStart => exact ⟨(0), (by first | rfl | (simp; done) | (simp [*]; done)), H', ⟨Nat.le_refl _⟩, by repeat (first | exact Drawn0.refl _ | apply Drawn0.step)⟩
    case round =>
      clear H'
      try clear c1
      try clear p2
      try clear c3
      try clear c3b0
      try clear c3b1
      try clear c3b2
      obtain ⟨x5_1, rfl, HA, HK1, ⟨m1, rfl⟩⟩ := hrel
      cases gk with
      | zero => exact absurd HA.out (by simp [tidemillref12_Changes.l0])
      | succ k1 =>
        have H := HA.out
        clear HA
        simp only [tidemillref12_Changes.l0] at H
        by_cases c4 : x5_1 < (l0.length : Int)
        · rw [if_pos c4] at H
          have c4b0 : decide (x5_1 < (l0.length : Int)) = true := decide_eq_true c4
          clear c4
          by_cases c5 : 0 ≤ x5_1
          · rw [if_pos c5] at H
            have c5b0 : decide (0 ≤ x5_1) = true := decide_eq_true c5
            clear c5
            by_cases c6 : x5_1 < (l1.length : Int)
            · rw [if_pos c6] at H
              have c6b0 : decide (x5_1 < (l1.length : Int)) = true := decide_eq_true c6
              clear c6
              by_cases c7 : (!(((rd_T50 l0 x5_1).f0) == ((rd_T50 l1 x5_1).f0)) || (!(((rd_T50 l0 x5_1).f1) == ((rd_T50 l1 x5_1).f1)) || (!(((rd_T50 l0 x5_1).f2) == ((rd_T50 l1 x5_1).f2)) || (!(((rd_T50 l0 x5_1).f3) == ((rd_T50 l1 x5_1).f3)) || (!(((rd_T50 l0 x5_1).f4) == ((rd_T50 l1 x5_1).f4))))))) = true
              · rw [if_pos c7] at H
                have c7b0 : (!(((rd_T50 l0 x5_1).f0) == ((rd_T50 l1 x5_1).f0)) || (!(((rd_T50 l0 x5_1).f1) == ((rd_T50 l1 x5_1).f1)) || (!(((rd_T50 l0 x5_1).f2) == ((rd_T50 l1 x5_1).f2)) || (!(((rd_T50 l0 x5_1).f3) == ((rd_T50 l1 x5_1).f3)) || (!(((rd_T50 l0 x5_1).f4) == ((rd_T50 l1 x5_1).f4))))))) = true := c7
                clear c7
                obtain rfl := Option.some.inj H
                have p131 : 0 ≤ (x5_1 : Int) := of_decide_eq_true (by first | (with_reducible assumption) | assumption)
                have q131 : x5_1 < (l0.length : Int) := of_decide_eq_true (by first | (with_reducible assumption) | assumption)
                obtain ⟨ad131, e131, hx131_0, hx131_1, hx131_2, hx131_3, hx131_4⟩ := at_T50 HR0.out x5_1 p131 q131
                cases e131
                replace p131 := eq_true p131
                replace q131 := eq_true q131
                have p132 : 0 ≤ (x5_1 : Int) := of_decide_eq_true (by first | (with_reducible assumption) | assumption)
                have q132 : x5_1 < (l1.length : Int) := of_decide_eq_true (by first | (with_reducible assumption) | assumption)
                obtain ⟨ad132, e132, hx132_0, hx132_1, hx132_2, hx132_3, hx132_4⟩ := at_T50 HR1.out x5_1 p132 q132
                cases e132
                replace p132 := eq_true p132
                replace q132 := eq_true q132
                go_wp2
                repeat (go_quiet (fail); try go_wp2)
                go_ret
                exact ⟨by first | rfl | (simp; done) | (simp [*]; done), by repeat (first | exact Drawn0.refl _ | apply Drawn0.step)⟩
              · rw [if_neg c7] at H
                have c7b0 : (!(((rd_T50 l0 x5_1).f0) == ((rd_T50 l1 x5_1).f0)) || (!(((rd_T50 l0 x5_1).f1) == ((rd_T50 l1 x5_1).f1)) || (!(((rd_T50 l0 x5_1).f2) == ((rd_T50 l1 x5_1).f2)) || (!(((rd_T50 l0 x5_1).f3) == ((rd_T50 l1 x5_1).f3)) || (!(((rd_T50 l0 x5_1).f4) == ((rd_T50 l1 x5_1).f4))))))) = false := by simpa using c7
                clear c7
                have H' := Aside0.mk H
                clear H
                have p131 : 0 ≤ (x5_1 : Int) := of_decide_eq_true (by first | (with_reducible assumption) | assumption)
                have q131 : x5_1 < (l0.length : Int) := of_decide_eq_true (by first | (with_reducible assumption) | assumption)
                obtain ⟨ad131, e131, hx131_0, hx131_1, hx131_2, hx131_3, hx131_4⟩ := at_T50 HR0.out x5_1 p131 q131
                cases e131
                replace p131 := eq_true p131
                replace q131 := eq_true q131
                have p132 : 0 ≤ (x5_1 : Int) := of_decide_eq_true (by first | (with_reducible assumption) | assumption)
                have q132 : x5_1 < (l1.length : Int) := of_decide_eq_true (by first | (with_reducible assumption) | assumption)
                obtain ⟨ad132, e132, hx132_0, hx132_1, hx132_2, hx132_3, hx132_4⟩ := at_T50 HR1.out x5_1 p132 q132
                cases e132
                replace p132 := eq_true p132
                replace q132 := eq_true q132
                go_wp2
                repeat (go_quiet (fail); try go_wp2)
                go_roundg k1
                case measure => have := HK1.out; omega
                case rel => exact ⟨(wrap64 (x5_1 + 1)), (by first | rfl | (simp; done) | (simp [*]; done)), H', ⟨by have := HK1.out; omega⟩, by repeat (first | exact Drawn0.refl _ | apply Drawn0.step)⟩
            · rw [if_neg c6] at H
              exact absurd H (by simp)
          · rw [if_neg c5] at H
            exact absurd H (by simp)
        · rw [if_neg c4] at H
          have c4b0 : decide (x5_1 < (l0.length : Int)) = false := decide_eq_false c4
          clear c4
          obtain rfl := Option.some.inj H
          go_wp2
          repeat (go_quiet (fail); try go_wp2)
          go_ret
          exact ⟨by first | rfl | (simp; done) | (simp [*]; done), by repeat (first | exact Drawn0.refl _ | apply Drawn0.step)⟩
  · rw [if_neg c3] at H
    have c3b0 : ((l0.length : Int) == (l1.length : Int)) = false := beq_eq_false_iff_ne.mpr c3
    have c3b1 : ((l0.length : Int) != (l1.length : Int)) = true := bne_iff_ne.mpr c3
    have c3b2 : (l0.length == l1.length) = false := by first | simpa using c3 | (simp at c3 ⊢; omega)
    obtain rfl := Option.some.inj H
    go_enter Try.func14, Try.ntmps14
    go_wp2
    repeat (go_quiet (fail); try go_wp2)
    go_ret
    exact ⟨by first | rfl | (simp; done) | (simp [*]; done), by repeat (first | exact Drawn0.refl _ | apply Drawn0.step)⟩

-- NOT PRINTED: function 19 (tidemilllaw18_sum)

-- NOT PRINTED: function 9 (tidemilllaw18_shown)

-- NOT PRINTED: function 15 (agg_Store_List)

-- NOT PRINTED: function 78 (win_place_78)

-- NOT PRINTED: function 90 (win_place_90)

-- NOT PRINTED: function 79 (win_place_79)

-- NOT PRINTED: function 86 (bits_Len32)

-- NOT PRINTED: function 87 (bits_Len64)

-- NOT PRINTED: function 73 (bits_Len)

-- NOT PRINTED: function 91 (slices_nextPowerOfTwo)

-- NOT PRINTED: function 92 (slices_xorshift_Next)

-- NOT PRINTED: function 80 (win_place_80)

-- NOT PRINTED: function 96 (win_place_96)

-- NOT PRINTED: function 94 (win_place_94)

-- NOT PRINTED: function 93 (win_place_93)

-- NOT PRINTED: function 81 (win_place_81)

-- NOT PRINTED: function 82 (win_place_82)

-- NOT PRINTED: function 83 (win_place_83)

-- NOT PRINTED: function 84 (win_place_84)

-- NOT PRINTED: function 85 (win_place_85)

-- NOT PRINTED: function 72 (win_place_72)

-- NOT PRINTED: function 62 (win_place_62)

-- NOT PRINTED: function 42 (win_Store_places)

-- NOT PRINTED: function 27 (win_Store_Expire)

-- NOT PRINTED: function 64 (sess_session_64)

-- NOT PRINTED: function 44 (sess_session_44)

-- NOT PRINTED: function 28 (sess_Store_Expire)

-- NOT PRINTED: function 16 (agg_Store_Expire)

-- NOT PRINTED: function 17 (agg_Store_Late)

-- NOT PRINTED: function 18 (agg_Store_Do)

-- NOT PRINTED: function 8 (tidemilllaw18_AggNobody)

end Go.Proofs.Ytanhibhcmfmeeaa.PAggNobody

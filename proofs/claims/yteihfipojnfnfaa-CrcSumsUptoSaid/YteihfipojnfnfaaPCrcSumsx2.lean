-- Written by a turned copy of the print, with contracts that this session proved by hand.
import Derived.Test.YteihfipojnfnfaaPCrcSumsx0
import Derived.Test.YteihfipojnfnfaaPCrcSumsx1
namespace Go.Proofs.Yteihfipojnfnfaa.PCrcSums
open Go.RowKit Go.Proofs.YteihfipojnfnfaaW.PrintWords Go.Proofs.YteihfipojnfnfaaW.PrintLast Go.Proofs.YteihfipojnfnfaaW.PrintMore
attribute [local go_sem] max2_int min2_int max_two min_two max_three min_three max_four min_four   -- for this text's walks alone
set_option linter.unusedVariables false
set_option linter.unusedSimpArgs false

/-! ### tidemillref01_ReadUint: function 25 -/
mutual
def tidemillref01_ReadUint.j1 : Nat → List Int → Int → Option (Int × List Int × Int)
  | 0, _, _ => none
  | k + 1, x0, x3 => if x3 = 10 then (some (0, x0, 5)) else (if x3 = (x0.length : Int) then (some (0, x0, 4)) else (if x3 = 9 then (if 9 < (x0.length : Int) then (if (rd x0 9) > 1 then (tidemillref01_ReadUint.j2 k x0 x3 true) else (if x3 > 0 then (if 0 ≤ x3 then (if x3 < (x0.length : Int) then (tidemillref01_ReadUint.j2 k x0 x3 ((rd x0 x3) == 0)) else (none)) else (none)) else (tidemillref01_ReadUint.j2 k x0 x3 false))) else (none)) else (if x3 > 0 then (if 0 ≤ x3 then (if x3 < (x0.length : Int) then (tidemillref01_ReadUint.j2 k x0 x3 ((rd x0 x3) == 0)) else (none)) else (none)) else (tidemillref01_ReadUint.j2 k x0 x3 false))))
def tidemillref01_ReadUint.j2 : Nat → List Int → Int → Bool → Option (Int × List Int × Int)
  | 0, _, _, _ => none
  | k + 1, x0, x3, x51 => if x51 = true then (some (0, x0, 5)) else (tidemillref01_ReadUint.l1 k x0 x3 0 x3)
def tidemillref01_ReadUint.l1 : Nat → List Int → Int → Int → Int → Option (Int × List Int × Int)
  | 0, _, _, _, _ => none
  | k + 1, x0, x3, x4, x5 => if x5 ≥ 0 then (if 0 ≤ x5 then (if x5 < (x0.length : Int) then (tidemillref01_ReadUint.l1 k x0 x3 (IntKind.u64.wrap ((IntKind.u64.wrap (x4 * 128)) + (IntKind.u64.wrap (Int.tmod (rd x0 x5) 128)))) (wrap64 (x5 - 1))) else (none)) else (none)) else (if 0 ≤ (wrap64 (x3 + 1)) then (if (wrap64 (x3 + 1)) ≤ (x0.length : Int) then (some (x4, (x0.drop ((wrap64 (x3 + 1)) : Int).toNat), 0)) else (none)) else (none))
def tidemillref01_ReadUint.l0 : Nat → List Int → Int → Option (Int × List Int × Int)
  | 0, _, _ => none
  | k + 1, x0, x3 => if x3 < (x0.length : Int) then (if x3 < 10 then (if 0 ≤ x3 then (if (rd x0 x3) ≥ 128 then (tidemillref01_ReadUint.l0 k x0 (wrap64 (x3 + 1))) else (tidemillref01_ReadUint.j1 k x0 x3)) else (none)) else (tidemillref01_ReadUint.j1 k x0 x3)) else (tidemillref01_ReadUint.j1 k x0 x3)
end
def tidemillref01_ReadUint.f (k : Nat) (l0 : List Int) : Option (Int × List Int × Int) := tidemillref01_ReadUint.l0 k l0 0
theorem tidemillref01_ReadUint.mono_l : ∀ k, (∀ y0 y1, LeO (tidemillref01_ReadUint.j1 k y0 y1) (tidemillref01_ReadUint.j1 (k + 1) y0 y1)) ∧ (∀ y0 y1 y2, LeO (tidemillref01_ReadUint.j2 k y0 y1 y2) (tidemillref01_ReadUint.j2 (k + 1) y0 y1 y2)) ∧ (∀ y0 y1 y2 y3, LeO (tidemillref01_ReadUint.l1 k y0 y1 y2 y3) (tidemillref01_ReadUint.l1 (k + 1) y0 y1 y2 y3)) ∧ (∀ y0 y1, LeO (tidemillref01_ReadUint.l0 k y0 y1) (tidemillref01_ReadUint.l0 (k + 1) y0 y1))
  | 0 => ⟨fun _ _ r h => by simp [tidemillref01_ReadUint.j1] at h, fun _ _ _ r h => by simp [tidemillref01_ReadUint.j2] at h, fun _ _ _ _ r h => by simp [tidemillref01_ReadUint.l1] at h, fun _ _ r h => by simp [tidemillref01_ReadUint.l0] at h⟩
  | k + 1 => by
    obtain ⟨ih0, ih1, ih2, ih3⟩ := tidemillref01_ReadUint.mono_l k
    refine ⟨?_, ?_, ?_, ?_⟩
    · intro y0 y1
      unfold tidemillref01_ReadUint.j1
      repeat' first
      | (with_reducible exact ih0 _ _)
      | (with_reducible exact ih1 _ _ _)
      | (with_reducible exact ih2 _ _ _ _)
      | (with_reducible exact ih3 _ _)
      | (with_reducible exact LeO.refl _)
      | (with_reducible exact LeO.none _)
      | (with_reducible refine LeO.ite ?_ ?_)
      | (with_reducible refine LeO.bind ?_ (fun _ => ?_))
      | exact ih0 _ _
      | exact ih1 _ _ _
      | exact ih2 _ _ _ _
      | exact ih3 _ _
      | exact LeO.none _
      | refine LeO.ite ?_ ?_
      | refine LeO.bind ?_ (fun _ => ?_)
    · intro y0 y1 y2
      unfold tidemillref01_ReadUint.j2
      repeat' first
      | (with_reducible exact ih0 _ _)
      | (with_reducible exact ih1 _ _ _)
      | (with_reducible exact ih2 _ _ _ _)
      | (with_reducible exact ih3 _ _)
      | (with_reducible exact LeO.refl _)
      | (with_reducible exact LeO.none _)
      | (with_reducible refine LeO.ite ?_ ?_)
      | (with_reducible refine LeO.bind ?_ (fun _ => ?_))
      | exact ih0 _ _
      | exact ih1 _ _ _
      | exact ih2 _ _ _ _
      | exact ih3 _ _
      | exact LeO.none _
      | refine LeO.ite ?_ ?_
      | refine LeO.bind ?_ (fun _ => ?_)
    · intro y0 y1 y2 y3
      unfold tidemillref01_ReadUint.l1
      repeat' first
      | (with_reducible exact ih0 _ _)
      | (with_reducible exact ih1 _ _ _)
      | (with_reducible exact ih2 _ _ _ _)
      | (with_reducible exact ih3 _ _)
      | (with_reducible exact LeO.refl _)
      | (with_reducible exact LeO.none _)
      | (with_reducible refine LeO.ite ?_ ?_)
      | (with_reducible refine LeO.bind ?_ (fun _ => ?_))
      | exact ih0 _ _
      | exact ih1 _ _ _
      | exact ih2 _ _ _ _
      | exact ih3 _ _
      | exact LeO.none _
      | refine LeO.ite ?_ ?_
      | refine LeO.bind ?_ (fun _ => ?_)
    · intro y0 y1
      unfold tidemillref01_ReadUint.l0
      repeat' first
      | (with_reducible exact ih0 _ _)
      | (with_reducible exact ih1 _ _ _)
      | (with_reducible exact ih2 _ _ _ _)
      | (with_reducible exact ih3 _ _)
      | (with_reducible exact LeO.refl _)
      | (with_reducible exact LeO.none _)
      | (with_reducible refine LeO.ite ?_ ?_)
      | (with_reducible refine LeO.bind ?_ (fun _ => ?_))
      | exact ih0 _ _
      | exact ih1 _ _ _
      | exact ih2 _ _ _ _
      | exact ih3 _ _
      | exact LeO.none _
      | refine LeO.ite ?_ ?_
      | refine LeO.bind ?_ (fun _ => ?_)
theorem tidemillref01_ReadUint.mono : ∀ a0 k, LeO (tidemillref01_ReadUint.f k a0) (tidemillref01_ReadUint.f (k + 1) a0) := by
  intro a0 k
  obtain ⟨ih0, ih1, ih2, ih3⟩ := tidemillref01_ReadUint.mono_l k
  unfold tidemillref01_ReadUint.f
  repeat' first
      | (with_reducible exact ih0 _ _)
      | (with_reducible exact ih1 _ _ _)
      | (with_reducible exact ih2 _ _ _ _)
      | (with_reducible exact ih3 _ _)
      | (with_reducible exact LeO.refl _)
      | (with_reducible exact LeO.none _)
      | (with_reducible refine LeO.ite ?_ ?_)
      | (with_reducible refine LeO.bind ?_ (fun _ => ?_))
      | exact ih0 _ _
      | exact ih1 _ _ _
      | exact ih2 _ _ _ _
      | exact ih3 _ _
      | exact LeO.none _
      | refine LeO.ite ?_ ?_
      | refine LeO.bind ?_ (fun _ => ?_)
set_option maxHeartbeats 8000000 in
set_option maxRecDepth 100000 in
theorem tidemillref01_ReadUint.calls (k : Nat) (P0_ : Nat → Prop) (A0 : Option Addr) (c0 : Nat) (l0 : List Int) (r1 : Int) (r2 : List Int) (r3 : Int) (w : World) (hs0 : Kd.V (Kd.int .u8) 5 w w.heap.size (fun k_ => P0_ k_) (.slice A0 l0.length c0) l0) (h : tidemillref01_ReadUint.f k l0 = some (r1, r2, r3)) :
    Calls Try.prog 25 #[.slice A0 l0.length c0] w fun e w' => ∃ v1_ : Value, e = .returned (.agg #[.int .u64 r1, v1_, .int .i64 r3]) ∧ Kd.V (Kd.int .u8) 5 w' w.heap.size (fun k_ => (P0_ k_ ∨ w.heap.size ≤ k_)) v1_ r2 ∧ Below w.heap.size w w' := by
  have hu55 := Try.underlying55
  have HO0 := Aside0.mk (show Kd.V (Kd.int .u8) 5 w w.heap.size (fun k_ => (P0_ k_ ∨ w.heap.size ≤ k_)) (.slice A0 l0.length c0) l0 from Kd.V_mono hs0 (fun k_ hk => .inl hk))
  have HB := Aside0.mk (Below.refl w.heap.size w)
  have H : (tidemillref01_ReadUint.l0 k l0 0) = some (r1, r2, r3) := h
  clear h
  have HC2 := Aside0.mk H
  clear H
  go_enter Try.func25, Try.ntmps25
  go_upto_block 0 with (first | ((with_reducible refine gate_dst (N := 2) rfl ?_); refine box_event ?hg (N := 2) ?hd (cs := #[.int .u64 0, .slice none 0 0, .int .i64 0]) (t := 55) ?hr ?_; (case hd => rfl); (case hg => rfl); (case hr => first | (go_simp; done) | (go_simp; rfl)); intro gb168 hg w3 hbox hb; have n0_ := Aside0.mk (Kd.V_below (Kd.V_elderB (by (with_reducible repeat (first | apply Kd.V_alloc | apply Kd.V_drewN | apply Kd.V_drew)); exact HO0.out) gb168 (Nat.le_of_eq hg.symm)) hb); have n1_ := Aside0.mk (below_step (by repeat (first | (with_reducible first | exact HB.out | apply below_alloc | apply pw_below_drewN | apply below_drew1) | exact HB.out)) hb); have n2_ := Aside0.mk (hbox); have n3_ := Aside0.mk ((by rw [hg]; exact (below_size (by repeat (first | (with_reducible first | exact HB.out | apply below_alloc | apply pw_below_drewN | apply below_drew1) | exact HB.out))) : w.heap.size ≤ gb168)); have n4_ := Aside0.mk ((by rw [hg]; exact (below_size (by repeat (first | (with_reducible first | exact HB.out | apply below_alloc | apply pw_below_drewN | apply below_drew1) | exact HB.out))) : w.heap.size ≤ gb168)); clear HO0; clear HB; have HO0 := n0_; have HB := n1_; have BK168 := n2_; have GW168 := n3_; have GE168 := n4_; clear n0_ n1_ n2_ n3_ n4_; clear hb hbox hg))
  (try simp only [Act.put, List.setIfInBounds_toArray, List.set_cons_zero, List.set_cons_succ])
  go_cut [3] (fun v3 wc => ∃ (kq : Nat) (x3_1 : Int), v3 = .int .i64 x3_1 ∧ Aside0 (tidemillref01_ReadUint.j1 kq l0 x3_1 = some (r1, r2, r3)) ∧ Aside0 (kq ≤ k) ∧ Aside0 (Kd.V (Kd.int .u8) 5 wc w.heap.size (fun k_ => (P0_ k_ ∨ w.heap.size ≤ k_) ∧ k_ ≠ gb168) (.slice A0 l0.length c0) l0) ∧ Aside0 (wc.heap[gb168]? = some (.cells #[.int .u64 0, (.slice none 0 0), .int .i64 0] 55 (0, 0))) ∧ Aside0 (Below w.heap.size w wc))
  case first =>
    have H := HC2.out
    clear HC2
    have H' := Aside0.mk H
    clear H
    go_wp2
    go_loopg [3] k (fun kq v3 w' => ∃ (x3_1 : Int), v3 = .int .i64 x3_1 ∧ Aside0 (tidemillref01_ReadUint.l0 kq l0 x3_1 = some (r1, r2, r3)) ∧ Aside0 (kq ≤ k) ∧ Aside0 (Kd.V (Kd.int .u8) 5 w' w.heap.size (fun k_ => (P0_ k_ ∨ w.heap.size ≤ k_) ∧ k_ ≠ gb168) (.slice A0 l0.length c0) l0) ∧ Aside0 (w'.heap[gb168]? = some (.cells #[.int .u64 0, (.slice none 0 0), .int .i64 0] 55 (0, 0))) ∧ Aside0 (Below w.heap.size w w'))
    case atStart => exact ⟨(0), (by first | rfl | (simp; done) | (simp [*]; done)), H', ⟨Nat.le_refl _⟩, ⟨by (with_reducible repeat (first | apply Kd.V_alloc | apply Kd.V_drewN | apply Kd.V_drew)); exact HO0.out⟩, ⟨by (with_reducible repeat (first | refine blk_drewN ?_ _ | refine blk_drew ?_ | refine blk_alloc ?_ _)); exact BK168.out⟩, ⟨by repeat (first | (with_reducible first | exact HB.out | apply below_alloc | apply pw_below_drewN | apply below_drew1 | refine below_set ?_ GE168.out) | exact HB.out)⟩⟩
    case round =>
      clear H'
      try clear c2
      try clear p2
      obtain ⟨x3_1, rfl, HA, HK1, HO_0, BK168, HB⟩ := hrel
      cases gk with
      | zero => exact absurd HA.out (by simp [tidemillref01_ReadUint.l0])
      | succ k1 =>
        have H := HA.out
        clear HA
        simp only [tidemillref01_ReadUint.l0] at H
        by_cases c4 : x3_1 < (l0.length : Int)
        · rw [if_pos c4] at H
          have c4b0 : decide (x3_1 < (l0.length : Int)) = true := decide_eq_true c4
          clear c4
          (first | rw [c4b0] | (simp only [i64_w, i32_w]; rw [c4b0]) | skip)
          by_cases c5 : x3_1 < 10
          · rw [if_pos c5] at H
            have c5b0 : decide (x3_1 < 10) = true := decide_eq_true c5
            clear c5
            by_cases c6 : 0 ≤ x3_1
            · rw [if_pos c6] at H
              have c6b0 : decide (0 ≤ x3_1) = true := decide_eq_true c6
              clear c6
              by_cases c7 : (rd l0 x3_1) ≥ 128
              · rw [if_pos c7] at H
                have c7b0 : decide (128 ≤ (rd l0 x3_1)) = true := decide_eq_true c7
                clear c7
                have H' := Aside0.mk H
                clear H
                have p169 : 0 ≤ (x3_1 : Int) := of_decide_eq_true (by first | (with_reducible assumption) | assumption)
                have q169 : x3_1 < (l0.length : Int) := of_decide_eq_true (by first | (with_reducible assumption) | assumption)
                obtain ⟨ad169, e169, hx169_0⟩ := Kd.at_int (Kd.V_reads' HO_0.out).2.2 x3_1 p169 q169
                cases e169
                replace p169 := eq_true p169
                replace q169 := eq_true q169
                go_wp2
                go_roundg k1
                case measure => have := HK1.out; omega
                case rel => exact ⟨(wrap64 (x3_1 + 1)), (by first | rfl | (simp; done) | (simp [*]; done)), H', ⟨by have := HK1.out; omega⟩, ⟨by (with_reducible repeat (first | apply Kd.V_alloc | apply Kd.V_drewN | apply Kd.V_drew)); exact HO_0.out⟩, ⟨by (with_reducible repeat (first | refine blk_drewN ?_ _ | refine blk_drew ?_ | refine blk_alloc ?_ _)); exact BK168.out⟩, ⟨by repeat (first | (with_reducible first | exact HB.out | apply below_alloc | apply pw_below_drewN | apply below_drew1 | refine below_set ?_ GE168.out) | exact HB.out)⟩⟩
              · rw [if_neg c7] at H
                have c7b0 : decide (128 ≤ (rd l0 x3_1)) = false := decide_eq_false c7
                clear c7
                have H' := Aside0.mk H
                clear H
                have p169 : 0 ≤ (x3_1 : Int) := of_decide_eq_true (by first | (with_reducible assumption) | assumption)
                have q169 : x3_1 < (l0.length : Int) := of_decide_eq_true (by first | (with_reducible assumption) | assumption)
                obtain ⟨ad169, e169, hx169_0⟩ := Kd.at_int (Kd.V_reads' HO_0.out).2.2 x3_1 p169 q169
                cases e169
                replace p169 := eq_true p169
                replace q169 := eq_true q169
                go_wp2
                go_meet
                case rel => exact ⟨_, (x3_1), (by first | rfl | (simp; done) | (simp [*]; done)), H', ⟨by have := HK1.out; first | omega | exact Nat.le_refl _⟩, ⟨by (with_reducible repeat (first | apply Kd.V_alloc | apply Kd.V_drewN | apply Kd.V_drew)); exact HO_0.out⟩, ⟨by (with_reducible repeat (first | refine blk_drewN ?_ _ | refine blk_drew ?_ | refine blk_alloc ?_ _)); exact BK168.out⟩, ⟨by repeat (first | (with_reducible first | exact HB.out | apply below_alloc | apply pw_below_drewN | apply below_drew1 | refine below_set ?_ GE168.out) | exact HB.out)⟩⟩
            · rw [if_neg c6] at H
              exact absurd H (by simp)
          · rw [if_neg c5] at H
            have c5b0 : decide (x3_1 < 10) = false := decide_eq_false c5
            clear c5
            have H' := Aside0.mk H
            clear H
            go_wp2
            go_meet
            case rel => exact ⟨_, (x3_1), (by first | rfl | (simp; done) | (simp [*]; done)), H', ⟨by have := HK1.out; first | omega | exact Nat.le_refl _⟩, ⟨by (with_reducible repeat (first | apply Kd.V_alloc | apply Kd.V_drewN | apply Kd.V_drew)); exact HO_0.out⟩, ⟨by (with_reducible repeat (first | refine blk_drewN ?_ _ | refine blk_drew ?_ | refine blk_alloc ?_ _)); exact BK168.out⟩, ⟨by repeat (first | (with_reducible first | exact HB.out | apply below_alloc | apply pw_below_drewN | apply below_drew1 | refine below_set ?_ GE168.out) | exact HB.out)⟩⟩
        · rw [if_neg c4] at H
          have c4b0 : decide (x3_1 < (l0.length : Int)) = false := decide_eq_false c4
          clear c4
          (first | rw [c4b0] | (simp only [i64_w, i32_w]; rw [c4b0]) | skip)
          have H' := Aside0.mk H
          clear H
          go_wp2
          go_meet
          case rel => exact ⟨_, (x3_1), (by first | rfl | (simp; done) | (simp [*]; done)), H', ⟨by have := HK1.out; first | omega | exact Nat.le_refl _⟩, ⟨by (with_reducible repeat (first | apply Kd.V_alloc | apply Kd.V_drewN | apply Kd.V_drew)); exact HO_0.out⟩, ⟨by (with_reducible repeat (first | refine blk_drewN ?_ _ | refine blk_drew ?_ | refine blk_alloc ?_ _)); exact BK168.out⟩, ⟨by repeat (first | (with_reducible first | exact HB.out | apply below_alloc | apply pw_below_drewN | apply below_drew1 | refine below_set ?_ GE168.out) | exact HB.out)⟩⟩
  case rest =>
    clear HC2
    try clear p1
    try clear q1
    try clear hx1
    try clear c2
    try clear p2
    try clear c4
    try clear c4b0
    try clear c5
    try clear c5b0
    try clear c6
    try clear c6b0
    try clear p6
    try clear c7
    try clear c7b0
    try clear hx169_0
    try clear p169
    try clear p2
    try clear q169
    obtain ⟨kq, x3_1, rfl, HA, HJ1, HO_0, BK168, HB⟩ := hcut
    cases kq with
    | zero => exact absurd HA.out (by simp [tidemillref01_ReadUint.j1])
    | succ kj1 =>
      have H := HA.out
      clear HA
      simp only [tidemillref01_ReadUint.j1] at H
      by_cases c8 : x3_1 = 10
      · rw [if_pos c8] at H
        have c8b0 : (x3_1 == 10) = true := beq_iff_eq.mpr c8
        have c8b1 : (x3_1 != 10) = false := bne_eq_false_iff_eq.mpr c8
        clear c8
        simp only [Option.some.injEq, Prod.mk.injEq] at H
        obtain ⟨rfl, rfl, rfl⟩ := H
        have hcz9_0 : wc.cell? ⟨gb168, 0, none⟩ = some (.int .u64 0) := (blk_cell BK168.out 0).trans rfl
        have hcz9_1 : wc.cell? ⟨gb168, 1, none⟩ = some (.slice none 0 0) := (blk_cell BK168.out 1).trans rfl
        have hcz9_2 : wc.cell? ⟨gb168, 2, none⟩ = some (.int .i64 0) := (blk_cell BK168.out 2).trans rfl
        have hfz9_0 := blk_frozen BK168.out 0
        have hfz9_1 := blk_frozen BK168.out 1
        have hfz9_2 := blk_frozen BK168.out 2
        go_wp2
        refine bodyPost_ret (results_cell_row rfl _ _ gb168 55 #[.int .u64 0, .slice A0 l0.length c0, .int .i64 5] (0, 0) _ rfl (by (with_reducible repeat (first | refine blk_drewN ?_ _ | refine blk_drew ?_ | refine blk_alloc ?_ _)); refine blk_put (cs := #[.int .u64 0, .slice A0 l0.length c0, .int .i64 0]) ?_ 2 _ rfl; (with_reducible repeat (first | refine blk_drewN ?_ _ | refine blk_drew ?_ | refine blk_alloc ?_ _)); refine blk_put (cs := #[.int .u64 0, .slice none 0 0, .int .i64 0]) ?_ 1 _ rfl; (with_reducible repeat (first | refine blk_drewN ?_ _ | refine blk_drew ?_ | refine blk_alloc ?_ _)); refine blk_put (cs := #[.int .u64 0, .slice none 0 0, .int .i64 0]) ?_ 0 _ rfl; (with_reducible repeat (first | refine blk_drewN ?_ _ | refine blk_drew ?_ | refine blk_alloc ?_ _)); exact BK168.out) Try.underlying55 rfl (by kernel_rfl)) rfl ?_
        exact ⟨_, by first | rfl | (simp [errW_none, errW_some] <;> rfl) | (simp [*, errW_none, errW_some] <;> rfl), by (with_reducible repeat (first | apply Kd.V_alloc | apply Kd.V_drewN | apply Kd.V_drew)); exact Kd.V_mono (Kd.V_far (p := ⟨gb168, 2, none⟩) (Kd.V_far (p := ⟨gb168, 1, none⟩) (Kd.V_far (p := ⟨gb168, 0, none⟩) (Kd.V_mono HO_0.out (fun k_ hk => (⟨hk, hk.2⟩ : _ ∧ k_ ≠ gb168))) (fun _ hk => hk.2) (.int .u64 0)) (fun _ hk => hk.2) (.slice A0 l0.length c0)) (fun _ hk => hk.2) (.int .i64 5)) (fun _ hk => hk.1.1), by repeat (first | (with_reducible first | exact HB.out | apply below_alloc | apply pw_below_drewN | apply below_drew1 | refine below_set ?_ GE168.out) | exact HB.out)⟩
      · rw [if_neg c8] at H
        have c8b0 : (x3_1 == 10) = false := beq_eq_false_iff_ne.mpr c8
        have c8b1 : (x3_1 != 10) = true := bne_iff_ne.mpr c8
        by_cases c10 : x3_1 = (l0.length : Int)
        · rw [if_pos c10] at H
          have c10b0 : (x3_1 == (l0.length : Int)) = true := beq_iff_eq.mpr c10
          have c10b1 : (x3_1 != (l0.length : Int)) = false := bne_eq_false_iff_eq.mpr c10
          clear c10
          simp only [Option.some.injEq, Prod.mk.injEq] at H
          obtain ⟨rfl, rfl, rfl⟩ := H
          have hcz11_0 : wc.cell? ⟨gb168, 0, none⟩ = some (.int .u64 0) := (blk_cell BK168.out 0).trans rfl
          have hcz11_1 : wc.cell? ⟨gb168, 1, none⟩ = some (.slice none 0 0) := (blk_cell BK168.out 1).trans rfl
          have hcz11_2 : wc.cell? ⟨gb168, 2, none⟩ = some (.int .i64 0) := (blk_cell BK168.out 2).trans rfl
          have hfz11_0 := blk_frozen BK168.out 0
          have hfz11_1 := blk_frozen BK168.out 1
          have hfz11_2 := blk_frozen BK168.out 2
          go_wp2
          refine bodyPost_ret (results_cell_row rfl _ _ gb168 55 #[.int .u64 0, .slice A0 l0.length c0, .int .i64 4] (0, 0) _ rfl (by (with_reducible repeat (first | refine blk_drewN ?_ _ | refine blk_drew ?_ | refine blk_alloc ?_ _)); refine blk_put (cs := #[.int .u64 0, .slice A0 l0.length c0, .int .i64 0]) ?_ 2 _ rfl; (with_reducible repeat (first | refine blk_drewN ?_ _ | refine blk_drew ?_ | refine blk_alloc ?_ _)); refine blk_put (cs := #[.int .u64 0, .slice none 0 0, .int .i64 0]) ?_ 1 _ rfl; (with_reducible repeat (first | refine blk_drewN ?_ _ | refine blk_drew ?_ | refine blk_alloc ?_ _)); refine blk_put (cs := #[.int .u64 0, .slice none 0 0, .int .i64 0]) ?_ 0 _ rfl; (with_reducible repeat (first | refine blk_drewN ?_ _ | refine blk_drew ?_ | refine blk_alloc ?_ _)); exact BK168.out) Try.underlying55 rfl (by kernel_rfl)) rfl ?_
          exact ⟨_, by first | rfl | (simp [errW_none, errW_some] <;> rfl) | (simp [*, errW_none, errW_some] <;> rfl), by (with_reducible repeat (first | apply Kd.V_alloc | apply Kd.V_drewN | apply Kd.V_drew)); exact Kd.V_mono (Kd.V_far (p := ⟨gb168, 2, none⟩) (Kd.V_far (p := ⟨gb168, 1, none⟩) (Kd.V_far (p := ⟨gb168, 0, none⟩) (Kd.V_mono HO_0.out (fun k_ hk => (⟨hk, hk.2⟩ : _ ∧ k_ ≠ gb168))) (fun _ hk => hk.2) (.int .u64 0)) (fun _ hk => hk.2) (.slice A0 l0.length c0)) (fun _ hk => hk.2) (.int .i64 4)) (fun _ hk => hk.1.1), by repeat (first | (with_reducible first | exact HB.out | apply below_alloc | apply pw_below_drewN | apply below_drew1 | refine below_set ?_ GE168.out) | exact HB.out)⟩
        · rw [if_neg c10] at H
          have c10b0 : (x3_1 == (l0.length : Int)) = false := beq_eq_false_iff_ne.mpr c10
          have c10b1 : (x3_1 != (l0.length : Int)) = true := bne_iff_ne.mpr c10
          have HC12 := Aside0.mk H
          clear H
          go_upto_region 8 with (fail)
          go_cut [51] (fun v51 wc => ∃ (kq : Nat) (x51_11 : Bool), v51 = .bool x51_11 ∧ Aside0 (tidemillref01_ReadUint.j2 kq l0 x3_1 x51_11 = some (r1, r2, r3)) ∧ Aside0 (kq ≤ kj1) ∧ Aside0 (Kd.V (Kd.int .u8) 5 wc w.heap.size (fun k_ => (P0_ k_ ∨ w.heap.size ≤ k_) ∧ k_ ≠ gb168) (.slice A0 l0.length c0) l0) ∧ Aside0 (wc.heap[gb168]? = some (.cells #[.int .u64 0, (.slice none 0 0), .int .i64 0] 55 (0, 0))) ∧ Aside0 (Below w.heap.size w wc))
          case first =>
            have H := HC12.out
            clear HC12
            by_cases c13 : x3_1 = 9
            · rw [if_pos c13] at H
              have c13b0 : (x3_1 == 9) = true := beq_iff_eq.mpr c13
              have c13b1 : (x3_1 != 9) = false := bne_eq_false_iff_eq.mpr c13
              clear c13
              (first | rw [c13b0] | (simp only [i64_w, i32_w]; rw [c13b0]) | skip)
              by_cases c14 : 9 < (l0.length : Int)
              · rw [if_pos c14] at H
                have c14b0 : decide (9 < (l0.length : Int)) = true := decide_eq_true c14
                have c14b1 : decide (9 < l0.length) = true := decide_eq_true (by omega)
                clear c14
                by_cases c15 : (rd l0 9) > 1
                · rw [if_pos c15] at H
                  have c15b0 : decide (1 < (rd l0 9)) = true := decide_eq_true c15
                  clear c15
                  have H' := Aside0.mk H
                  clear H
                  have p170 : 0 ≤ (9 : Int) := (by omega)
                  have q170 : 9 < (l0.length : Int) := of_decide_eq_true (by first | (with_reducible assumption) | assumption)
                  obtain ⟨ad170, e170, hx170_0⟩ := Kd.at_int (Kd.V_reads' HO_0.out).2.2 9 p170 q170
                  cases e170
                  (try simp only [show (9 : Int).toNat = 9 from rfl, Nat.reduceMul, Nat.reduceEqDiff, Go.Addr.add, ↓reduceIte] at hx170_0)
                  have qi170 : (9 < l0.length) = True := eq_true (by omega)
                  (try rw [show ((9 : Int)).toNat = 9 from rfl] at hx170_0)
                  replace p170 := eq_true p170
                  replace q170 := eq_true q170
                  go_wp2
                  go_meet
                  case rel => exact ⟨_, (true), (by first | rfl | (simp; done) | (simp [*]; done)), H', ⟨by have := HJ1.out; first | omega | exact Nat.le_refl _⟩, ⟨by (with_reducible repeat (first | apply Kd.V_alloc | apply Kd.V_drewN | apply Kd.V_drew)); exact HO_0.out⟩, ⟨by (with_reducible repeat (first | refine blk_drewN ?_ _ | refine blk_drew ?_ | refine blk_alloc ?_ _)); exact BK168.out⟩, ⟨by repeat (first | (with_reducible first | exact HB.out | apply below_alloc | apply pw_below_drewN | apply below_drew1 | refine below_set ?_ GE168.out) | exact HB.out)⟩⟩
                · rw [if_neg c15] at H
                  have c15b0 : decide (1 < (rd l0 9)) = false := decide_eq_false c15
                  clear c15
                  by_cases c16 : x3_1 > 0
                  · rw [if_pos c16] at H
                    have c16b0 : decide (0 < x3_1) = true := decide_eq_true c16
                    clear c16
                    by_cases c17 : 0 ≤ x3_1
                    · rw [if_pos c17] at H
                      have c17b0 : decide (0 ≤ x3_1) = true := decide_eq_true c17
                      clear c17
                      by_cases c18 : x3_1 < (l0.length : Int)
                      · rw [if_pos c18] at H
                        have c18b0 : decide (x3_1 < (l0.length : Int)) = true := decide_eq_true c18
                        clear c18
                        have H' := Aside0.mk H
                        clear H
                        have p170 : 0 ≤ (9 : Int) := (by omega)
                        have q170 : 9 < (l0.length : Int) := of_decide_eq_true (by first | (with_reducible assumption) | assumption)
                        obtain ⟨ad170, e170, hx170_0⟩ := Kd.at_int (Kd.V_reads' HO_0.out).2.2 9 p170 q170
                        cases e170
                        (try simp only [show (9 : Int).toNat = 9 from rfl, Nat.reduceMul, Nat.reduceEqDiff, Go.Addr.add, ↓reduceIte] at hx170_0)
                        have qi170 : (9 < l0.length) = True := eq_true (by omega)
                        (try rw [show ((9 : Int)).toNat = 9 from rfl] at hx170_0)
                        replace p170 := eq_true p170
                        replace q170 := eq_true q170
                        have p171 : 0 ≤ (x3_1 : Int) := of_decide_eq_true (by first | (with_reducible assumption) | assumption)
                        have q171 : x3_1 < (l0.length : Int) := of_decide_eq_true (by first | (with_reducible assumption) | assumption)
                        obtain ⟨ad171, e171, hx171_0⟩ := Kd.at_int (Kd.V_reads' HO_0.out).2.2 x3_1 p171 q171
                        obtain rfl : ad170 = ad171 := (by injection e171)
                        replace p171 := eq_true p171
                        replace q171 := eq_true q171
                        go_wp2
                        go_meet
                        case rel => exact ⟨_, (((rd l0 x3_1) == 0)), (by first | rfl | (simp; done) | (simp [*]; done)), H', ⟨by have := HJ1.out; first | omega | exact Nat.le_refl _⟩, ⟨by (with_reducible repeat (first | apply Kd.V_alloc | apply Kd.V_drewN | apply Kd.V_drew)); exact HO_0.out⟩, ⟨by (with_reducible repeat (first | refine blk_drewN ?_ _ | refine blk_drew ?_ | refine blk_alloc ?_ _)); exact BK168.out⟩, ⟨by repeat (first | (with_reducible first | exact HB.out | apply below_alloc | apply pw_below_drewN | apply below_drew1 | refine below_set ?_ GE168.out) | exact HB.out)⟩⟩
                      · rw [if_neg c18] at H
                        exact absurd H (by simp)
                    · rw [if_neg c17] at H
                      exact absurd H (by simp)
                  · rw [if_neg c16] at H
                    have c16b0 : decide (0 < x3_1) = false := decide_eq_false c16
                    clear c16
                    have H' := Aside0.mk H
                    clear H
                    have p170 : 0 ≤ (9 : Int) := (by omega)
                    have q170 : 9 < (l0.length : Int) := of_decide_eq_true (by first | (with_reducible assumption) | assumption)
                    obtain ⟨ad170, e170, hx170_0⟩ := Kd.at_int (Kd.V_reads' HO_0.out).2.2 9 p170 q170
                    cases e170
                    (try simp only [show (9 : Int).toNat = 9 from rfl, Nat.reduceMul, Nat.reduceEqDiff, Go.Addr.add, ↓reduceIte] at hx170_0)
                    have qi170 : (9 < l0.length) = True := eq_true (by omega)
                    (try rw [show ((9 : Int)).toNat = 9 from rfl] at hx170_0)
                    replace p170 := eq_true p170
                    replace q170 := eq_true q170
                    go_wp2
                    go_meet
                    case rel => exact ⟨_, (false), (by first | rfl | (simp; done) | (simp [*]; done)), H', ⟨by have := HJ1.out; first | omega | exact Nat.le_refl _⟩, ⟨by (with_reducible repeat (first | apply Kd.V_alloc | apply Kd.V_drewN | apply Kd.V_drew)); exact HO_0.out⟩, ⟨by (with_reducible repeat (first | refine blk_drewN ?_ _ | refine blk_drew ?_ | refine blk_alloc ?_ _)); exact BK168.out⟩, ⟨by repeat (first | (with_reducible first | exact HB.out | apply below_alloc | apply pw_below_drewN | apply below_drew1 | refine below_set ?_ GE168.out) | exact HB.out)⟩⟩
              · rw [if_neg c14] at H
                exact absurd H (by simp)
            · rw [if_neg c13] at H
              have c13b0 : (x3_1 == 9) = false := beq_eq_false_iff_ne.mpr c13
              have c13b1 : (x3_1 != 9) = true := bne_iff_ne.mpr c13
              (first | rw [c13b0] | (simp only [i64_w, i32_w]; rw [c13b0]) | skip)
              by_cases c19 : x3_1 > 0
              · rw [if_pos c19] at H
                have c19b0 : decide (0 < x3_1) = true := decide_eq_true c19
                clear c19
                by_cases c20 : 0 ≤ x3_1
                · rw [if_pos c20] at H
                  have c20b0 : decide (0 ≤ x3_1) = true := decide_eq_true c20
                  clear c20
                  by_cases c21 : x3_1 < (l0.length : Int)
                  · rw [if_pos c21] at H
                    have c21b0 : decide (x3_1 < (l0.length : Int)) = true := decide_eq_true c21
                    clear c21
                    have H' := Aside0.mk H
                    clear H
                    have p172 : 0 ≤ (x3_1 : Int) := of_decide_eq_true (by first | (with_reducible assumption) | assumption)
                    have q172 : x3_1 < (l0.length : Int) := of_decide_eq_true (by first | (with_reducible assumption) | assumption)
                    obtain ⟨ad172, e172, hx172_0⟩ := Kd.at_int (Kd.V_reads' HO_0.out).2.2 x3_1 p172 q172
                    cases e172
                    replace p172 := eq_true p172
                    replace q172 := eq_true q172
                    go_wp2
                    go_meet
                    case rel => exact ⟨_, (((rd l0 x3_1) == 0)), (by first | rfl | (simp; done) | (simp [*]; done)), H', ⟨by have := HJ1.out; first | omega | exact Nat.le_refl _⟩, ⟨by (with_reducible repeat (first | apply Kd.V_alloc | apply Kd.V_drewN | apply Kd.V_drew)); exact HO_0.out⟩, ⟨by (with_reducible repeat (first | refine blk_drewN ?_ _ | refine blk_drew ?_ | refine blk_alloc ?_ _)); exact BK168.out⟩, ⟨by repeat (first | (with_reducible first | exact HB.out | apply below_alloc | apply pw_below_drewN | apply below_drew1 | refine below_set ?_ GE168.out) | exact HB.out)⟩⟩
                  · rw [if_neg c21] at H
                    exact absurd H (by simp)
                · rw [if_neg c20] at H
                  exact absurd H (by simp)
              · rw [if_neg c19] at H
                have c19b0 : decide (0 < x3_1) = false := decide_eq_false c19
                clear c19
                have H' := Aside0.mk H
                clear H
                go_wp2
                go_meet
                case rel => exact ⟨_, (false), (by first | rfl | (simp; done) | (simp [*]; done)), H', ⟨by have := HJ1.out; first | omega | exact Nat.le_refl _⟩, ⟨by (with_reducible repeat (first | apply Kd.V_alloc | apply Kd.V_drewN | apply Kd.V_drew)); exact HO_0.out⟩, ⟨by (with_reducible repeat (first | refine blk_drewN ?_ _ | refine blk_drew ?_ | refine blk_alloc ?_ _)); exact BK168.out⟩, ⟨by repeat (first | (with_reducible first | exact HB.out | apply below_alloc | apply pw_below_drewN | apply below_drew1 | refine below_set ?_ GE168.out) | exact HB.out)⟩⟩
          case rest =>
            clear HC12
            try clear c1
            try clear p1
            try clear q1
            try clear hx1
            try clear qi1
            try clear c2
            try clear p2
            try clear c4
            try clear c4b0
            try clear c5
            try clear c5b0
            try clear c6
            try clear c6b0
            try clear p6
            try clear c7
            try clear c7b0
            try clear c8
            try clear c8b0
            try clear c8b1
            try clear c10
            try clear c10b0
            try clear c10b1
            try clear c13
            try clear c13b0
            try clear c13b1
            try clear c14
            try clear c14b0
            try clear c14b1
            try clear c15
            try clear c15b0
            try clear c16
            try clear c16b0
            try clear p16
            try clear q16
            try clear hx16
            try clear c17
            try clear c17b0
            try clear p17
            try clear q17
            try clear hx17
            try clear qi17
            try clear c18
            try clear c18b0
            try clear c19
            try clear c19b0
            try clear c20
            try clear c20b0
            try clear c21
            try clear c21b0
            try clear hcz11_0
            try clear hcz11_1
            try clear hcz11_2
            try clear hcz9_0
            try clear hcz9_1
            try clear hcz9_2
            try clear hfz11_0
            try clear hfz11_1
            try clear hfz11_2
            try clear hfz9_0
            try clear hfz9_1
            try clear hfz9_2
            try clear hx169_0
            try clear hx170_0
            try clear hx171_0
            try clear hx172_0
            try clear p1
            try clear p169
            try clear p170
            try clear p171
            try clear p172
            try clear p2
            try clear p6
            try clear q1
            try clear q169
            try clear q170
            try clear q171
            try clear q172
            obtain ⟨kq, x51_11, rfl, HA, HJ11, HO_0, BK168, HB⟩ := hcut
            cases kq with
            | zero => exact absurd HA.out (by simp [tidemillref01_ReadUint.j2])
            | succ kj11 =>
              have H := HA.out
              clear HA
              simp only [tidemillref01_ReadUint.j2] at H
              by_cases c22 : x51_11 = true
              · subst c22
                have H1 : (some (0, l0, 5)) = some (r1, r2, r3) := by rw [if_pos rfl] at H; exact H
                clear H
                have H := H1
                clear H1
                simp only [Option.some.injEq, Prod.mk.injEq] at H
                obtain ⟨rfl, rfl, rfl⟩ := H
                have hcz23_0 : wc.cell? ⟨gb168, 0, none⟩ = some (.int .u64 0) := (blk_cell BK168.out 0).trans rfl
                have hcz23_1 : wc.cell? ⟨gb168, 1, none⟩ = some (.slice none 0 0) := (blk_cell BK168.out 1).trans rfl
                have hcz23_2 : wc.cell? ⟨gb168, 2, none⟩ = some (.int .i64 0) := (blk_cell BK168.out 2).trans rfl
                have hfz23_0 := blk_frozen BK168.out 0
                have hfz23_1 := blk_frozen BK168.out 1
                have hfz23_2 := blk_frozen BK168.out 2
                go_wp2
                refine bodyPost_ret (results_cell_row rfl _ _ gb168 55 #[.int .u64 0, .slice A0 l0.length c0, .int .i64 5] (0, 0) _ rfl (by (with_reducible repeat (first | refine blk_drewN ?_ _ | refine blk_drew ?_ | refine blk_alloc ?_ _)); refine blk_put (cs := #[.int .u64 0, .slice A0 l0.length c0, .int .i64 0]) ?_ 2 _ rfl; (with_reducible repeat (first | refine blk_drewN ?_ _ | refine blk_drew ?_ | refine blk_alloc ?_ _)); refine blk_put (cs := #[.int .u64 0, .slice none 0 0, .int .i64 0]) ?_ 1 _ rfl; (with_reducible repeat (first | refine blk_drewN ?_ _ | refine blk_drew ?_ | refine blk_alloc ?_ _)); refine blk_put (cs := #[.int .u64 0, .slice none 0 0, .int .i64 0]) ?_ 0 _ rfl; (with_reducible repeat (first | refine blk_drewN ?_ _ | refine blk_drew ?_ | refine blk_alloc ?_ _)); exact BK168.out) Try.underlying55 rfl (by kernel_rfl)) rfl ?_
                exact ⟨_, by first | rfl | (simp [errW_none, errW_some] <;> rfl) | (simp [*, errW_none, errW_some] <;> rfl), by (with_reducible repeat (first | apply Kd.V_alloc | apply Kd.V_drewN | apply Kd.V_drew)); exact Kd.V_mono (Kd.V_far (p := ⟨gb168, 2, none⟩) (Kd.V_far (p := ⟨gb168, 1, none⟩) (Kd.V_far (p := ⟨gb168, 0, none⟩) (Kd.V_mono HO_0.out (fun k_ hk => (⟨hk, hk.2⟩ : _ ∧ k_ ≠ gb168))) (fun _ hk => hk.2) (.int .u64 0)) (fun _ hk => hk.2) (.slice A0 l0.length c0)) (fun _ hk => hk.2) (.int .i64 5)) (fun _ hk => hk.1.1), by repeat (first | (with_reducible first | exact HB.out | apply below_alloc | apply pw_below_drewN | apply below_drew1 | refine below_set ?_ GE168.out) | exact HB.out)⟩
              · replace c22 := Bool.eq_false_iff.mpr c22
                subst c22
                have H1 : (tidemillref01_ReadUint.l1 kj11 l0 x3_1 0 x3_1) = some (r1, r2, r3) := by rw [if_neg (show ¬ (false = true) by decide)] at H; exact H
                clear H
                have H := H1
                clear H1
                have H' := Aside0.mk H
                clear H
                go_wp2
                go_loopg [4, 5] kj11 (fun kq v4 v5 w' => ∃ (x4_3 : Int) (x5_3 : Int), v4 = .int .u64 x4_3 ∧ v5 = .int .i64 x5_3 ∧ Aside0 (tidemillref01_ReadUint.l1 kq l0 x3_1 x4_3 x5_3 = some (r1, r2, r3)) ∧ Aside0 (kq ≤ kj11) ∧ Aside0 (Kd.V (Kd.int .u8) 5 w' w.heap.size (fun k_ => (P0_ k_ ∨ w.heap.size ≤ k_) ∧ k_ ≠ gb168) (.slice A0 l0.length c0) l0) ∧ Aside0 (w'.heap[gb168]? = some (.cells #[.int .u64 0, (.slice none 0 0), .int .i64 0] 55 (0, 0))) ∧ Aside0 (Below w.heap.size w w'))
                case atStart => exact ⟨(0), (x3_1), (by first | rfl | (simp; done) | (simp [*]; done)), (by first | rfl | (simp; done) | (simp [*]; done)), H', ⟨Nat.le_refl _⟩, ⟨by (with_reducible repeat (first | apply Kd.V_alloc | apply Kd.V_drewN | apply Kd.V_drew)); exact HO_0.out⟩, ⟨by (with_reducible repeat (first | refine blk_drewN ?_ _ | refine blk_drew ?_ | refine blk_alloc ?_ _)); exact BK168.out⟩, ⟨by repeat (first | (with_reducible first | exact HB.out | apply below_alloc | apply pw_below_drewN | apply below_drew1 | refine below_set ?_ GE168.out) | exact HB.out)⟩⟩
                case round =>
                  clear H'
                  try clear c1
                  try clear p1
                  try clear q1
                  try clear hx1
                  try clear qi1
                  try clear c2
                  try clear p2
                  try clear c4
                  try clear c4b0
                  try clear c5
                  try clear c5b0
                  try clear c6
                  try clear c6b0
                  try clear p6
                  try clear c7
                  try clear c7b0
                  try clear c8
                  try clear c8b0
                  try clear c8b1
                  try clear c10
                  try clear c10b0
                  try clear c10b1
                  try clear c13
                  try clear c13b0
                  try clear c13b1
                  try clear c14
                  try clear c14b0
                  try clear c14b1
                  try clear c15
                  try clear c15b0
                  try clear c16
                  try clear c16b0
                  try clear p16
                  try clear q16
                  try clear hx16
                  try clear c17
                  try clear c17b0
                  try clear p17
                  try clear q17
                  try clear hx17
                  try clear qi17
                  try clear c18
                  try clear c18b0
                  try clear c19
                  try clear c19b0
                  try clear c20
                  try clear c20b0
                  try clear c21
                  try clear c21b0
                  try clear c22
                  try clear hcz11_0
                  try clear hcz11_1
                  try clear hcz11_2
                  try clear hcz23_0
                  try clear hcz23_1
                  try clear hcz23_2
                  try clear hcz9_0
                  try clear hcz9_1
                  try clear hcz9_2
                  try clear hfz11_0
                  try clear hfz11_1
                  try clear hfz11_2
                  try clear hfz23_0
                  try clear hfz23_1
                  try clear hfz23_2
                  try clear hfz9_0
                  try clear hfz9_1
                  try clear hfz9_2
                  try clear hx169_0
                  try clear hx170_0
                  try clear hx171_0
                  try clear hx172_0
                  try clear p1
                  try clear p16
                  try clear p169
                  try clear p17
                  try clear p170
                  try clear p171
                  try clear p172
                  try clear p2
                  try clear p6
                  try clear q1
                  try clear q16
                  try clear q169
                  try clear q17
                  try clear q170
                  try clear q171
                  try clear q172
                  obtain ⟨x4_3, x5_3, rfl, rfl, HA, HK3, HO_0, BK168, HB⟩ := hrel
                  cases gk with
                  | zero => exact absurd HA.out (by simp [tidemillref01_ReadUint.l1])
                  | succ k3 =>
                    have H := HA.out
                    clear HA
                    simp only [tidemillref01_ReadUint.l1] at H
                    by_cases c24 : x5_3 ≥ 0
                    · rw [if_pos c24] at H
                      have c24b0 : decide (0 ≤ x5_3) = true := decide_eq_true c24
                      clear c24
                      by_cases c25 : 0 ≤ x5_3
                      · rw [if_pos c25] at H
                        have c25b0 : decide (0 ≤ x5_3) = true := decide_eq_true c25
                        clear c25
                        by_cases c26 : x5_3 < (l0.length : Int)
                        · rw [if_pos c26] at H
                          have c26b0 : decide (x5_3 < (l0.length : Int)) = true := decide_eq_true c26
                          clear c26
                          have H' := Aside0.mk H
                          clear H
                          have p173 : 0 ≤ (x5_3 : Int) := of_decide_eq_true (by first | (with_reducible assumption) | assumption)
                          have q173 : x5_3 < (l0.length : Int) := of_decide_eq_true (by first | (with_reducible assumption) | assumption)
                          obtain ⟨ad173, e173, hx173_0⟩ := Kd.at_int (Kd.V_reads' HO_0.out).2.2 x5_3 p173 q173
                          cases e173
                          replace p173 := eq_true p173
                          replace q173 := eq_true q173
                          go_wp2
                          go_roundg k3
                          case measure => have := HJ1.out; have := HJ11.out; have := HK3.out; omega
                          case rel => exact ⟨(IntKind.u64.wrap ((IntKind.u64.wrap (x4_3 * 128)) + (IntKind.u64.wrap (Int.tmod (rd l0 x5_3) 128)))), (wrap64 (x5_3 - 1)), (by first | rfl | (simp; done) | (simp [*]; done)), (by first | rfl | (simp; done) | (simp [*]; done)), H', ⟨by have := HJ1.out; have := HJ11.out; have := HK3.out; omega⟩, ⟨by (with_reducible repeat (first | apply Kd.V_alloc | apply Kd.V_drewN | apply Kd.V_drew)); exact HO_0.out⟩, ⟨by (with_reducible repeat (first | refine blk_drewN ?_ _ | refine blk_drew ?_ | refine blk_alloc ?_ _)); exact BK168.out⟩, ⟨by repeat (first | (with_reducible first | exact HB.out | apply below_alloc | apply pw_below_drewN | apply below_drew1 | refine below_set ?_ GE168.out) | exact HB.out)⟩⟩
                        · rw [if_neg c26] at H
                          exact absurd H (by simp)
                      · rw [if_neg c25] at H
                        exact absurd H (by simp)
                    · rw [if_neg c24] at H
                      have c24b0 : decide (0 ≤ x5_3) = false := decide_eq_false c24
                      clear c24
                      obtain ⟨ji27, hji27⟩ : ∃ j_ : Int, (wrap64 (x3_1 + 1)) = j_ := ⟨_, rfl⟩
                      replace H : (if 0 ≤ (ji27) then (if (ji27) ≤ (l0.length : Int) then (some (x4_3, (l0.drop ((ji27) : Int).toNat), 0)) else (none)) else (none)) = some (r1, r2, r3) := by first | (rw [hji27] at H; exact H) | (simp only [hji27] at H ⊢; exact H)
                      have hji27w : (IntKind.i64.wrap (x3_1 + 1)) = ji27 := (i64_w _).trans hji27
                      by_cases c28 : 0 ≤ (ji27)
                      · rw [if_pos c28] at H
                        have c28b0 := eq_true c28
                        have c28b1 : decide (0 ≤ (ji27)) = true := decide_eq_true c28
                        clear c28
                        by_cases c29 : (ji27) ≤ (l0.length : Int)
                        · rw [if_pos c29] at H
                          have c29b0 := eq_true c29
                          have c29b1 : decide ((ji27) ≤ (l0.length : Int)) = true := decide_eq_true c29
                          clear c29
                          obtain ⟨y174, hy174⟩ : ∃ y_ : List Int, y_ = (l0.drop ((ji27) : Int).toNat) := ⟨_, rfl⟩
                          replace H : (some (x4_3, y174, 0)) = some (r1, r2, r3) := by first | (rw [hy174]; with_reducible exact H) | (have H2_ := (Option.bind_some _ _).symm.trans H; rw [hy174]; with_reducible exact H2_) | (have H2_ := (Option.bind_some _ _).symm.trans H; with_reducible exact H2_) | with_reducible exact H | (rw [hy174]; exact H) | exact H
                          have Ny174 := Aside0.mk hy174
                          clear hy174
                          simp only [Option.some.injEq, Prod.mk.injEq] at H
                          obtain ⟨rfl, rfl, rfl⟩ := H
                          have q30 : ((ji27) : Int) ≤ ((l0.length : Int) : Int) := of_decide_eq_true (by first | (with_reducible assumption) | assumption)
                          obtain ⟨i030, hi030, _, hsz30, _⟩ := info_parts info5
                          have hroom30 : l0.length ≤ c0 := (Kd.V_reads' HO_0.out).2.1
                          have hC30 : Kd.F (Kd.int .u8) _ _ A0 l0.length l0 := (Kd.V_at (base := w.heap.size) HO_0.out).2.2
                          have q030 : (0 : Int) ≤ ((ji27) : Int) := of_decide_eq_true (by first | (with_reducible assumption) | assumption)
                          have hcut30 := cut_from (P := Try.prog) 22 5 .i64 Try.underlying22 hi030 1 hsz30 A0 l0.length c0 (ji27) q030 q30
                          have hr30 := Kd.F_cut (m := ((ji27) : Int).toNat) (c := c0) hC30 (by omega) hroom30
                          obtain ⟨A30, hA30⟩ : ∃ A1, A1 = (if c0 = ((ji27) : Int).toNat then A0 else (A0 : Option Addr).map (·.add (((ji27) : Int).toNat * 1))) := ⟨_, rfl⟩
                          obtain ⟨c30, hc30⟩ : ∃ c1, c1 = c0 - ((ji27) : Int).toNat := ⟨_, rfl⟩
                          have hy30 : y174.length = l0.length - ((ji27) : Int).toNat := (by rw [Ny174.out, List.length_drop] <;> omega)
                          rw [show (l0).drop ((ji27) : Int).toNat = y174 from Ny174.out.symm] at hr30
                          replace hr30 : Kd.F (Kd.int .u8) _ _ A30 y174.length y174 := (by rw [hA30]; exact hr30)
                          rw [← hy30, ← hA30, ← hc30] at hcut30
                          have HO178 := Aside0.mk (show Kd.V (Kd.int .u8) 5 _ w.heap.size _ (.slice A30 y174.length c30) y174 from Kd.V_mk (by rw [hy30, hc30]; exact Nat.sub_le_sub_right hroom30 _) hr30)
                          have HC178 := Aside0.mk (show y174.length ≤ c30 from by rw [hy30, hc30]; exact Nat.sub_le_sub_right hroom30 _)
                          clear hr30 hC30 hroom30 hi030 hsz30 hc30
                          have KY30 := Aside0.mk hy30
                          have KA30 := Aside0.mk hA30
                          clear hy30 hA30
                          replace q30 := eq_true q30
                          have hcz31_0 : wr.cell? ⟨gb168, 0, none⟩ = some (.int .u64 0) := (blk_cell BK168.out 0).trans rfl
                          have hcz31_1 : wr.cell? ⟨gb168, 1, none⟩ = some (.slice none 0 0) := (blk_cell BK168.out 1).trans rfl
                          have hcz31_2 : wr.cell? ⟨gb168, 2, none⟩ = some (.int .i64 0) := (blk_cell BK168.out 2).trans rfl
                          have hfz31_0 := blk_frozen BK168.out 0
                          have hfz31_1 := blk_frozen BK168.out 1
                          have hfz31_2 := blk_frozen BK168.out 2
                          go_wp2
                          refine bodyPost_ret (results_cell_row rfl _ _ gb168 55 #[.int .u64 x4_3, .slice A30 y174.length c30, .int .i64 0] (0, 0) _ rfl (by (with_reducible repeat (first | refine blk_drewN ?_ _ | refine blk_drew ?_ | refine blk_alloc ?_ _)); refine blk_put (cs := #[.int .u64 x4_3, .slice A30 y174.length c30, .int .i64 0]) ?_ 2 _ rfl; (with_reducible repeat (first | refine blk_drewN ?_ _ | refine blk_drew ?_ | refine blk_alloc ?_ _)); refine blk_put (cs := #[.int .u64 x4_3, .slice none 0 0, .int .i64 0]) ?_ 1 _ rfl; (with_reducible repeat (first | refine blk_drewN ?_ _ | refine blk_drew ?_ | refine blk_alloc ?_ _)); refine blk_put (cs := #[.int .u64 0, .slice none 0 0, .int .i64 0]) ?_ 0 _ rfl; (with_reducible repeat (first | refine blk_drewN ?_ _ | refine blk_drew ?_ | refine blk_alloc ?_ _)); exact BK168.out) Try.underlying55 rfl (by kernel_rfl)) rfl ?_
                          exact ⟨_, by first | rfl | (simp [errW_none, errW_some] <;> rfl) | (simp only [← hji27]; first | rfl | (simp [errW_none, errW_some] <;> rfl)) | (simp [*, errW_none, errW_some] <;> rfl), by (with_reducible repeat (first | apply Kd.V_alloc | apply Kd.V_drewN | apply Kd.V_drew)); exact Kd.V_mono (Kd.V_far (p := ⟨gb168, 2, none⟩) (Kd.V_far (p := ⟨gb168, 1, none⟩) (Kd.V_far (p := ⟨gb168, 0, none⟩) (Kd.V_mono HO178.out (fun k_ hk => (⟨hk, hk.2⟩ : _ ∧ k_ ≠ gb168))) (fun _ hk => hk.2) (.int .u64 x4_3)) (fun _ hk => hk.2) (.slice A30 y174.length c30)) (fun _ hk => hk.2) (.int .i64 0)) (fun _ hk => hk.1.1), by repeat (first | (with_reducible first | exact HB.out | apply below_alloc | apply pw_below_drewN | apply below_drew1 | refine below_set ?_ GE168.out) | exact HB.out)⟩
                        · rw [if_neg c29] at H
                          exact absurd H (by simp)
                      · rw [if_neg c28] at H
                        exact absurd H (by simp)

/-! ### tidemillref02_Open: function 13 -/
def tidemillref02_Open.f (k : Nat) (l0 : List Int) : Option (List Int × Int × Int) := (tidemillref01_ReadUint.f k l0).bind fun bt179 => (if bt179.2.2 = 0 then (if bt179.1 > 4096 then (some (([] : List Int), 0, 2)) else (if (bt179.2.1.length : Int) < (wrap64 ((wrap64 (bt179.1)) + 4)) then (some (([] : List Int), 0, 4)) else (if 0 ≤ (wrap64 (bt179.1)) then (if (wrap64 (bt179.1)) ≤ (bt179.2.1.length : Int) then ((some (bt179.2.1.take ((wrap64 (bt179.1)) : Int).toNat : List Int)).bind fun y185 => ((tidemillref02_Frame.f k y185).bind fun bt190 => (if 0 ≤ (bt190.1.length : Int) then (if (bt190.1.length : Int) ≤ (l0.length : Int) then (if (strOfNums bt190.1).toList = (strOfNums (l0.take ((bt190.1.length : Int) : Int).toNat)).toList then (some (y185, (bt190.1.length : Int), 0)) else (some (([] : List Int), 0, 5))) else (none)) else (none)))) else (none)) else (none)))) else (some (([] : List Int), 0, bt179.2.2)))
theorem tidemillref02_Open.mono : ∀ a0 k, LeO (tidemillref02_Open.f k a0) (tidemillref02_Open.f (k + 1) a0) := by
  intro a0 k
  unfold tidemillref02_Open.f
  repeat' first
      | (with_reducible exact tidemillref01_ReadUint.mono _ _)
      | (with_reducible exact tidemillref02_Frame.mono _ _)
      | (with_reducible exact LeO.refl _)
      | (with_reducible exact LeO.none _)
      | (with_reducible refine LeO.ite ?_ ?_)
      | (with_reducible refine LeO.bind ?_ (fun _ => ?_))
      | exact tidemillref01_ReadUint.mono _ _
      | exact tidemillref02_Frame.mono _ _
      | exact LeO.none _
      | refine LeO.ite ?_ ?_
      | refine LeO.bind ?_ (fun _ => ?_)
set_option maxHeartbeats 8000000 in
set_option maxRecDepth 100000 in
theorem tidemillref02_Open.calls (k : Nat) (P0_ : Nat → Prop) (A0 : Option Addr) (c0 : Nat) (l0 : List Int) (r1 : List Int) (r2 : Int) (r3 : Int) (w : World) (hs0 : Kd.V (Kd.int .u8) 5 w w.heap.size (fun k_ => P0_ k_) (.slice A0 l0.length c0) l0) (h : tidemillref02_Open.f k l0 = some (r1, r2, r3)) :
    Calls Try.prog 13 #[.slice A0 l0.length c0] w fun e w' => ∃ v0_ : Value, e = .returned (.tuple #[v0_, .int .i64 r2, .int .i64 r3]) ∧ Kd.V (Kd.int .u8) 5 w' w.heap.size (fun k_ => (P0_ k_ ∨ w.heap.size ≤ k_)) v0_ r1 ∧ Below w.heap.size w w' := by
  unfold tidemillref02_Open.f at h
  obtain ⟨⟨n, R, bad⟩, hr, h⟩ := Option.bind_eq_some_iff.mp h
  simp only at h
  obtain ⟨i5, hi5, hz5, hs5, hb5⟩ := info_parts Pack.info5
  obtain ⟨_, hlc, _⟩ := Kd.V_reads' hs0
  have HS := Lib.hid hs0; have HRD := Lib.hid hr; have HH := Lib.hid h
  clear hs0 hr h
  go_enter Try.func13, Try.ntmps13
  go_wp2_with fail
  refine (tidemillref01_ReadUint.calls k P0_ A0 c0 l0 n R bad w HS.out HRD.out).mono ?_
  rintro e w1 ⟨v1, rfl, hv1, hb1⟩
  obtain ⟨A1, c1, rfl⟩ := Kd.V_slice hv1
  have HV := Lib.hid (Kd.V_alloc hv1 (.cells #[.int .u64 n, .slice A1 R.length c1, .int .i64 bad] 55))
  have HB := Lib.hid (below_alloc hb1 (.cells #[.int .u64 n, .slice A1 R.length c1, .int .i64 bad] 55))
  obtain ⟨_, hRc, _⟩ := Kd.V_reads' hv1
  clear hv1 hb1
  have hnil : ∀ W : World, Kd.V (Kd.int .u8) 5 W w.heap.size (fun k_ => (P0_ k_ ∨ w.heap.size ≤ k_)) (.slice none 0 0) [] := fun W => Kd.V_nil _ _ _ _ _
  have HN := Lib.hid hnil
  clear hnil
  have h := HH.out
  clear HH
  by_cases h1 : bad = 0
  · subst h1
    rw [if_pos rfl] at h
    by_cases h2 : n > 4096
    · rw [if_pos h2] at h
      simp only [Option.some.injEq, Prod.mk.injEq] at h
      obtain ⟨rfl, rfl, rfl⟩ := h
      have h2' : 4096 < n := h2
      clear h2
      go_wp2_with fail
      go_ret3
      exact ⟨.slice none 0 0, rfl, HN.out _, HB.out⟩
    · rw [if_neg h2] at h
      have h2' : decide (4096 < n) = false := decide_eq_false h2
      clear h2
      obtain ⟨q, hq⟩ : ∃ q, wrap64 n = q := ⟨_, rfl⟩
      rw [hq] at h
      have hqw : IntKind.i64.wrap n = q := (i64_w _).trans hq
      obtain ⟨q4, hq4⟩ : ∃ q4, wrap64 (q + 4) = q4 := ⟨_, rfl⟩
      rw [hq4] at h
      by_cases h3 : (R.length : Int) < q4
      · rw [if_pos h3] at h
        simp only [Option.some.injEq, Prod.mk.injEq] at h
        obtain ⟨rfl, rfl, rfl⟩ := h
        have h3' : decide ((R.length : Int) < q4) = true := decide_eq_true h3
        clear h3
        go_wp2_with fail
        go_ret3
        exact ⟨.slice none 0 0, rfl, HN.out _, HB.out⟩
      · rw [if_neg h3] at h
        have h3' : decide ((R.length : Int) < q4) = false := decide_eq_false h3
        clear h3
        by_cases h4 : 0 ≤ q
        · rw [if_pos h4] at h
          by_cases h5 : q ≤ (R.length : Int)
          · rw [if_pos h5] at h
            obtain ⟨y, hy, h⟩ := Option.bind_eq_some_iff.mp h
            injection hy with hy
            obtain ⟨⟨f, fe⟩, hf, h⟩ := Option.bind_eq_some_iff.mp h
            simp only at h
            rw [if_pos (by omega)] at h
            by_cases h6 : (f.length : Int) ≤ (l0.length : Int)
            · rw [if_pos h6] at h
              have hyl : y.length = q.toNat := by rw [← hy, List.length_take]; omega
              have hct := cut_to (P := Try.prog) 22 5 .i64 Try.underlying22 hi5 A1 R.length c1 q h4 h5 hRc
              have hVy : Kd.V (Kd.int .u8) 5 (w1.alloc (.cells #[.int .u64 n, .slice A1 R.length c1, .int .i64 0] 55)) w.heap.size (fun k_ => (P0_ k_ ∨ w.heap.size ≤ k_)) (.slice A1 y.length c1) y :=
                Kd.V_mk (by omega) (by rw [← hy]; exact Kd.F_take (Kd.V_at HV.out).2.2 (by omega))
              rw [← hyl] at hct
              have HVy := Lib.hid hVy; have HF := Lib.hid hf; have HY := Lib.hid hyl; have HH := Lib.hid h
              clear hVy hf hy hyl h
              go_wp2_with fail
              obtain ⟨_, hyc, hyC⟩ := Kd.V_reads' HVy.out
              refine (tidemillref02_Frame.calls k A1 c1 y f fe _ hyC hyc HF.out).mono ?_
              rintro e w2 ⟨v2, rfl, hR2, hb2⟩
              obtain ⟨A2, c2, rfl⟩ := Kd.R_slice hR2
              obtain ⟨_, hfc, hfC⟩ := Kd.R_reads' hR2
              have hB2 := below_step HB.out hb2
              have hVy2 := Kd.V_below HVy.out hb2
              obtain ⟨_, _, hSC⟩ := Kd.V_reads' (Kd.V_below HS.out hB2)
              have hTC := Kd.C_take (m := f.length) hSC (by omega)
              obtain ⟨T, hT⟩ : ∃ T, T = l0.take f.length := ⟨_, rfl⟩
              rw [← hT] at hTC
              have hTl : T.length = f.length := by rw [hT, List.length_take]; omega
              have hh := HH.out
              rw [Int.toNat_natCast, ← hT] at hh
              have hct2 := cut_to (P := Try.prog) 22 5 .i64 Try.underlying22 hi5 A0 l0.length c0 (f.length : Int) (by omega) h6 hlc
              rw [Int.toNat_natCast] at hct2
              rw [hTl] at hTC
              obtain ⟨S0, hS0⟩ : ∃ S, strOfNums f = S := ⟨_, rfl⟩
              obtain ⟨S1, hS1⟩ : ∃ S, strOfNums T = S := ⟨_, rfl⟩
              rw [hS0, hS1] at hh
              have cv0 := Crc.conv_drew (c := c2) hfC S0 hS0
              have cv1 := Crc.conv_drew (c := c0) hTC S1 hS1
              have HB2 := Lib.hid hB2; have HVy2 := Lib.hid hVy2
              obtain ⟨fn, hfn⟩ : ∃ fn, fn = f.length := ⟨_, rfl⟩
              rw [← hfn] at cv0 cv1 hct2 hh h6 ⊢
              have hf0 : (0 : Int) ≤ (fn : Int) := by omega
              clear hR2 hb2 hB2 hVy2 hSC hTC hfC hyC hTl hT hS0 hS1 hfn HH hfc hyc
              by_cases h7 : S0.toList = S1.toList
              · rw [if_pos h7] at hh
                simp only [Option.some.injEq, Prod.mk.injEq] at hh
                obtain ⟨rfl, rfl, rfl⟩ := hh
                have h7' : (S0.toList == S1.toList) = true := beq_iff_eq.2 h7
                clear h7
                go_wp2
                go_cut [45] (fun t wx => t = .bool false ∧ Drawn0 w2 wx)
                case first =>
                  go_quiet (fail)
                  go_wp2
                  go_meet
                  case rel => exact ⟨rfl, (Drawn0.refl w2).step _⟩
                case rest =>
                  obtain ⟨rfl, hd⟩ := hcut
                  have HD := Lib.hid hd
                  clear hd cv0 cv1
                  go_wp2
                  go_ret3
                  exact ⟨_, rfl, Kd.V_below HVy2.out HD.out.below, below_step HB2.out HD.out.below⟩
              · rw [if_neg h7] at hh
                simp only [Option.some.injEq, Prod.mk.injEq] at hh
                obtain ⟨rfl, rfl, rfl⟩ := hh
                have h7' : (S0.toList == S1.toList) = false := beq_eq_false_iff_ne.2 h7
                clear h7
                go_wp2
                go_cut [45] (fun t wx => t = .bool true ∧ Drawn0 w2 wx)
                case first =>
                  go_quiet (fail)
                  go_wp2
                  go_meet
                  case rel => exact ⟨rfl, (Drawn0.refl w2).step _⟩
                case rest =>
                  obtain ⟨rfl, hd⟩ := hcut
                  have HD := Lib.hid hd
                  clear hd cv0 cv1
                  go_wp2
                  go_ret3
                  exact ⟨.slice none 0 0, rfl, HN.out _, below_step HB2.out HD.out.below⟩
            · rw [if_neg h6] at h
              exact absurd h (by simp)
          · rw [if_neg h5] at h
            exact absurd h (by simp)
        · rw [if_neg h4] at h
          exact absurd h (by simp)
  · rw [if_neg h1] at h
    simp only [Option.some.injEq, Prod.mk.injEq] at h
    obtain ⟨rfl, rfl, rfl⟩ := h
    have h1' : (bad != 0) = true := bne_iff_ne.mpr h1
    clear h1
    go_wp2
    go_quiet (fail)
    go_wp2
    go_ret3
    exact ⟨.slice none 0 0, rfl, HN.out _, pw_below_drewN HB.out _⟩

/-! ### crc_Scan: function 14, walked by hand (CrcScan) -/
def crc_Scan.f (l0 : List Int) : Option (List (List Int) × Int) := if Crc.bytesB l0 = true ∧ l0.length ≤ 16777216 then some ((Crc.scanF l0).1, ((Crc.scanF l0).2 : Int)) else none
theorem crc_Scan.calls (A0 : Option Addr) (c0 : Nat) (l0 : List Int) (r1 : List (List Int)) (r2 : Int) (w : World) (hr0 : Kd.C (Kd.int .u8) w A0 l0.length l0) (hc0 : l0.length ≤ c0) (h : crc_Scan.f l0 = some (r1, r2)) :
    Calls Try.prog 14 #[.slice A0 l0.length c0] w fun e w' => ∃ v0_ : Value, e = .returned (.tuple #[v0_, .int .i64 r2]) ∧ Kd.S (Kd.slice 5 (Kd.int .u8)) 22 w' w.heap.size (fun _ => True) v0_ r1 ∧ Below w.heap.size w w' := by
  unfold crc_Scan.f at h
  split at h
  · rename_i hl
    have h := Option.some.inj h
    injection h with h1 h2
    subst h1; subst h2
    exact Crc.scan_calls A0 _ c0 l0 w rfl hc0 hl.2 hr0 (Crc.bytesB_iff.1 hl.1)
  · exact absurd h (by simp)

end Go.Proofs.Yteihfipojnfnfaa.PCrcSums

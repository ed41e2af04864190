import Derived.Test.YtnnahbmhjjamcaaQOwn
/- best: the first of the greatest epoch. -/
namespace Go.Proofs.Ytnnahbmhjjamcaa.Quor
open Go.RowKit Go.Proofs.YtnnahbmhjjamcaaW.PrintWords Go.Proofs.Ytnnahbmhjjamcaa.Cut
theorem cell_lt {w : World} {a : Addr} {v : Value} (h : w.cell? a = some v) : a.block < w.heap.size := by
  unfold World.cell? at h
  by_cases hl : a.block < w.heap.size
  · exact hl
  · rw [Array.getElem?_eq_none (by omega)] at h
    simp at h
theorem cell_step {w W : World} {a : Addr} {v : Value} {row : Option Nat} (h : w.grownBy W row) (c : w.cell? a = some v) (hne : some a.block ≠ row) : W.cell? a = some v := (World.cell?_of_block (h.block _ (cell_lt c) hne)).trans c
theorem take_snoc'' {α : Type} {l : List α} {k : Nat} {x : α} (h : l[k]? = some x) : l.take (k + 1) = l.take k ++ [x] := by
  obtain ⟨hl, rfl⟩ := List.getElem?_eq_some_iff.1 h
  exact List.take_succ_eq_append_getElem hl
def bestF (x : C4) (l : List C4) : C4 := l.foldl (fun x y => if x.ep < y.ep then y else x) x
def bestL : List C4 → C4
  | [] => ⟨0, 0, [], none, 0⟩
  | x :: r => bestF x r
theorem bestF_snoc (x : C4) (l : List C4) (y : C4) : bestF x (l ++ [y]) = if (bestF x l).ep < y.ep then y else bestF x l := by
  unfold bestF; rw [List.foldl_append]; rfl
def agg4 (z : C4) : Value := .agg #[.int .i64 z.at_, .int .i64 z.ep, .slice z.A z.by_.length z.c]
def row4 (z : C4) : Obj := .cells #[.int .i64 z.at_, .int .i64 z.ep, .slice z.A z.by_.length z.c] 28
set_option maxHeartbeats 2000000 in
theorem best_calls (x0 : C4) (r0 : List C4) (A : Option Addr) (c : Nat) (w : World) (hC : K4.C w A (x0 :: r0).length (x0 :: r0)) (hc : (x0 :: r0).length ≤ c) (hn : (x0 :: r0).length ≤ 1000000) :
    Calls Try.prog 18 #[.slice A (x0 :: r0).length c, .func (.func 19) #[] #[]] w fun e w' => e = .returned (agg4 (bestF x0 r0)) ∧ Below w.heap.size w w' := by
  obtain ⟨A', R, hR, hCR, hcR, hrun⟩ := tail_cut (d := K4) 31 28 .i64 Try.underlying31 infoCell rfl hC hc 1 1 rfl (by simp)
  obtain rfl : R = r0 := by simpa using hR
  clear hR
  obtain ⟨ad, z, rfl, hz, a0, a1, a2⟩ := at_K4 hC 0 (by simp)
  obtain rfl : x0 = z := by simpa using hz
  have HC := Lib.hid hCR
  simp only [List.length_cons] at hrun hn ⊢
  obtain ⟨n, hnn⟩ : ∃ n, n = R.length := ⟨_, rfl⟩
  rw [← hnn] at hrun hn HC ⊢
  have HN := Lib.hid hnn
  obtain ⟨xa, xe, xb, xA, xc⟩ := x0
  simp only at a0 a1 a2
  have e0 : ad.add (0 * 3) = ad := by cases ad; rfl
  rw [e0] at a0 a1 a2
  have hb : ad.block < w.heap.size := cell_lt a0
  have hb1 : ad.block ≠ w.heap.size := by omega
  have hb2 : w.heap.size ≠ ad.block := by omega
  clear e0
  clear hC hcR hCR hz hc hnn
  go_enter Try.func18, Try.ntmps18
  go_wp2_with fail
  have H0 : Below w.heap.size w ((w.alloc (.cells #[.int .i64 0, .int .i64 0, .slice none 0 0] 28)).alloc (.cells #[.int .i64 xa, .int .i64 xe, .slice xA xb.length xc] 28)) := ((Below.refl _ _).alloc (Nat.le_refl _) _).alloc (by simp) _
  have r0 : ((w.alloc (.cells #[.int .i64 0, .int .i64 0, .slice none 0 0] 28)).alloc (.cells #[.int .i64 xa, .int .i64 xe, .slice xA xb.length xc] 28)).heap[w.heap.size]? = some (.cells #[.int .i64 0, .int .i64 0, .slice none 0 0] 28 (0, 0)) := ((MapKept.heap_alloc (w.alloc _) _).2 _ (by simp)).trans (MapKept.heap_alloc w _).1
  have r1 : ((w.alloc (.cells #[.int .i64 0, .int .i64 0, .slice none 0 0] 28)).alloc (.cells #[.int .i64 xa, .int .i64 xe, .slice xA xb.length xc] 28)).heap[w.heap.size + 1]? = some (.cells #[.int .i64 xa, .int .i64 xe, .slice xA xb.length xc] 28 (0, 0)) := by
    have h := (MapKept.heap_alloc (w.alloc (.cells #[.int .i64 0, .int .i64 0, .slice none 0 0] 28)) (.cells #[.int .i64 xa, .int .i64 xe, .slice xA xb.length xc] 28)).1
    simpa using h
  go_loopw [14] (fun i wx => ∃ k : Nat, k ≤ n ∧ i = .int .i64 k ∧ Below w.heap.size w wx ∧ wx.heap[w.heap.size]? = some (.cells #[.int .i64 0, .int .i64 0, .slice none 0 0] 28 (0, 0)) ∧ ∃ z, z = bestF ⟨xa, xe, xb, xA, xc⟩ (R.take k) ∧ wx.heap[w.heap.size + 1]? = some (.cells #[.int .i64 z.at_, .int .i64 z.ep, .slice z.A z.by_.length z.c] 28 (0, 0))) (fun i _ => n - (intOf i).toNat)
  case atStart => exact ⟨0, Nat.zero_le _, rfl, H0, r0, _, rfl, r1⟩
  case round =>
    clear H0 r0 r1 a0 a1 a2 hrun
    obtain ⟨k, hk, rfl, hB, hr0, z, hz, hr1⟩ := hrel
    have HZ := Lib.hid hz
    obtain ⟨za, ze, zb, zA, zc⟩ := z
    simp only at hr1
    have z0 := (blk_cell hr1 0).trans rfl
    have z1 := (blk_cell hr1 1).trans rfl
    have z2 := (blk_cell hr1 2).trans rfl
    have hsz : w.heap.size + 2 ≤ wr.heap.size := (Array.getElem?_eq_some_iff.1 hr1).1
    have H1 := Lib.hid (And.intro hB (And.intro hr0 hr1))
    clear hz
    by_cases hlt : k < n
    · have hlti : (k : Int) < (n : Int) := by omega
      have hk0 : (0 : Int) ≤ (k : Int) := by omega
      obtain ⟨ad2, y, rfl, hy, d0, d1, d2⟩ := at_K4 (Kd.C_below HC.out hB) k hlt
      obtain ⟨ya, ye, yb, yA, yc⟩ := y
      simp only at d0 d1 d2
      have HY := Lib.hid hy
      have hol := older_calls ⟨za, ze, zb, zA, zc⟩ ⟨ya, ye, yb, yA, yc⟩ (wr.alloc (.cells #[.int .i64 ya, .int .i64 ye, .slice yA yb.length yc] 28))
      simp only at hol
      clear hy hB hr0 hr1
      have hsn : w.heap.size + 1 ≠ wr.heap.size := by omega
      have hsm : wr.heap.size ≠ w.heap.size + 1 := by omega
      have hsl : w.heap.size + 1 < wr.heap.size := by omega
      have hrY := (MapKept.heap_alloc wr (.cells #[.int .i64 ya, .int .i64 ye, .slice yA yb.length yc] 28)).1
      have hr2 := ((MapKept.heap_alloc wr (.cells #[.int .i64 ya, .int .i64 ye, .slice yA yb.length yc] 28)).2 _ (by omega)).trans H1.out.2.2
      have HB2 := Lib.hid (And.intro (H1.out.1.alloc H1.out.1.size (.cells #[.int .i64 ya, .int .i64 ye, .slice yA yb.length yc] 28)) (((MapKept.heap_alloc wr (.cells #[.int .i64 ya, .int .i64 ye, .slice yA yb.length yc] 28)).2 _ (by omega)).trans H1.out.2.1))
      have HRY := Lib.hid hrY; have HR2 := Lib.hid hr2
      clear hrY hr2
      by_cases hlt2 : ze < ye
      · have t1 : decide (ze < ye) = true := decide_eq_true hlt2
        rw [t1] at hol
        go_wp2_with (go_at_call 19; refine hol.mono ?_; rintro e w2 ⟨rfl, hg2⟩; have q0 := blk_grown HRY.out hg2 (by simp); have q1 := blk_grown HR2.out hg2 (by simp); have c0 := (blk_cell q0 0).trans rfl; have c1 := (blk_cell q0 1).trans rfl; have c2 := (blk_cell q0 2).trans rfl; have f0 := blk_frozen q1 0; have f1 := blk_frozen q1 1; have f2 := blk_frozen q1 2; have y0 := (blk_cell q1 0).trans rfl; have y1 := (blk_cell q1 1).trans rfl; have y2 := (blk_cell q1 2).trans rfl; have HG := Lib.hid (And.intro hg2 q1); clear hg2 q0 q1)
        have b2 := HB2.out.1.grown HG.out.1 HB2.out.1.size (fun j hj => by cases hj)
        have b3 := below_set' (below_set' (below_set' b2 (g := w.heap.size + 1) (by omega) 0 (.int .i64 ya)) (g := w.heap.size + 1) (by omega) 1 (.int .i64 ye)) (g := w.heap.size + 1) (by omega) 2 (.slice yA yb.length yc)
        have b4 := blk_other (blk_other (blk_other (blk_grown HB2.out.2 HG.out.1 (by simp)) (by omega : w.heap.size ≠ w.heap.size + 1) 0 (.int .i64 ya)) (by omega : w.heap.size ≠ w.heap.size + 1) 1 (.int .i64 ye)) (by omega : w.heap.size ≠ w.heap.size + 1) 2 (.slice yA yb.length yc)
        have b5 := blk_put (cs' := #[.int .i64 ya, .int .i64 ye, .slice yA yb.length yc]) (blk_put (blk_put HG.out.2 0 (.int .i64 ya) rfl) 1 (.int .i64 ye) rfl) 2 (.slice yA yb.length yc) (by simp)
        have HF := Lib.hid (And.intro b3 (And.intro b4 b5))
        clear b2 b3 b4 b5 c0 c1 c2 f0 f1 f2 y0 y1 y2
        go_roundw
        case rel =>
          refine ⟨k + 1, by omega, by go_num, HF.out.1, HF.out.2.1, ⟨ya, ye, yb, yA, yc⟩, ?_, HF.out.2.2⟩
          rw [take_snoc'' HY.out, bestF_snoc, ← HZ.out, if_pos hlt2]
        case measure => simp [intOf]; omega
      · have t1 : decide (ze < ye) = false := decide_eq_false hlt2
        rw [t1] at hol
        go_wp2_with (go_at_call 19; refine hol.mono ?_; rintro e w2 ⟨rfl, hg2⟩)
        have b2 := HB2.out.1.grown hg2 HB2.out.1.size (fun j hj => by cases hj)
        have b4 := blk_grown HB2.out.2 hg2 (by simp)
        have b5 := blk_grown HR2.out hg2 (by simp)
        go_roundw
        case rel =>
          refine ⟨k + 1, by omega, by go_num, b2, b4, ⟨za, ze, zb, zA, zc⟩, ?_, b5⟩
          rw [take_snoc'' HY.out, bestF_snoc, ← HZ.out, if_neg (by simp only; omega)]
        case measure => simp [intOf]; omega
    · obtain rfl : k = n := by omega
      have q0 := blk_frozen hr0 0
      have q1 := blk_frozen hr0 1
      have q2 := blk_frozen hr0 2
      have x0 := (blk_cell hr0 0).trans rfl
      have x1 := (blk_cell hr0 1).trans rfl
      have x2 := (blk_cell hr0 2).trans rfl
      clear hB hr0 hr1
      go_wp2_with fail
      refine bodyPost_ret (results_cell_row rfl _ _ w.heap.size 28 #[.int .i64 za, .int .i64 ze, .slice zA zb.length zc] (0, 0) _ rfl ?hp Try.underlying28 rfl (by kernel_rfl)) rfl ?_
      case hp =>
        refine (blk_put (blk_put (blk_put H1.out.2.1 0 _ rfl) 1 _ rfl) 2 _ rfl).trans ?_
        simp
      · have h9 : bestF ⟨xa, xe, xb, xA, xc⟩ R = ⟨za, ze, zb, zA, zc⟩ := by rw [HZ.out, HN.out, List.take_length]
        refine ⟨by rw [h9]; rfl, ?_⟩
        exact below_set' (below_set' (below_set' H1.out.1 (Nat.le_refl _) _ _) (Nat.le_refl _) _ _) (Nat.le_refl _) _ _
end Go.Proofs.Ytnnahbmhjjamcaa.Quor

import Derived.Test.YtdfpcldoakbehaaQCell
import Derived.WalkKit
import Derived.BigQuiet
import Derived.Deep.QuietTactic
import Derived.Deep.RegionWith
import Derived.Deep.DeepCutAuto
import Derived.Deep.CutBlock
import Derived.OwnWalk
import Derived.StillTailTactics
import Derived.RegionTactic
import Derived.BigRegion
import Derived.Maps.AppendAt
import Derived.WalkSpells
/- Clone, copied. -/
namespace Go.Proofs.Ytdfpcldoakbehaa.Quor
open Go.RowKit Go.Proofs.YtdfpcldoakbehaaW.PrintWords Go.Proofs.Ytdfpcldoakbehaa.Cut
theorem grown_of_below {w w' : World} (h : Below w.heap.size w w') : w.grownBy w' none := ⟨h.os, h.tape, h.output, h.size, fun k hk _ => h.block k hk⟩
theorem below_of_grown {w w' : World} (h : w.grownBy w' none) : Below w.heap.size w w' := ⟨h.os, h.tape, h.output, h.size, fun k hk => h.block k hk (by simp)⟩
/-- The bytes of a cell are a row of the call's own. -/
def OwnB (w : World) (base : Nat) (z : C4) : Prop := (Kd.int .u8).R 5 w base (fun _ => True) (.slice z.A z.by_.length z.c) z.by_
theorem grown_below0 {w w' : World} (h : Below w.heap.size w w') : w.grownBy w' none := grown_of_below h
theorem R_set_low {α : Type} {d : Kd α} {e base g : Nat} {w : World} {ok : Nat → Prop} {v : Value} {xs : List α} (h : d.R e w base ok v xs) (hg : g < base) (j : Nat) (u : Value) : d.R e (w.setCell ⟨g, j, none⟩ u) base ok v xs :=
  Kd.R_mono (Kd.R_move (Kd.R_bound h) (fun k hk => Below.heap_setCell w ⟨g, j, none⟩ u k (by have := hk.2.1; simp only; omega))) (fun _ hk => hk.1)
theorem blk_other {w : World} {g i : Nat} {o : Obj} (h : w.heap[g]? = some o) (hn : g ≠ i) (j : Nat) (u : Value) : (w.setCell ⟨i, j, none⟩ u).heap[g]? = some o := (Below.heap_setCell w ⟨i, j, none⟩ u g hn).trans h
theorem below_set' {B g : Nat} {w W : World} (h : Below B w W) (hg : B ≤ g) (j : Nat) (u : Value) : Below B w (W.setCell ⟨g, j, Option.none⟩ u) := h.setCell hg _
set_option maxHeartbeats 1000000 in
theorem clone_calls (A : Option Addr) (c : Nat) (l : List Int) (w : World) (hC : (Kd.int .u8).C w A l.length l) (hn : l.length ≤ 140737488355328) :
    Calls Try.prog 38 #[.slice A l.length c] w fun e w' => ∃ B d, e = .returned (.slice B l.length d) ∧ (Kd.int .u8).R 5 w' w.heap.size (fun _ => True) (.slice B l.length d) l ∧ Below w.heap.size w w' := by
  cases A with
  | none =>
    have h0 : l = [] := by
      rcases Nat.eq_zero_or_pos l.length with h | h
      · exact List.length_eq_zero_iff.1 h
      · obtain ⟨_, _, hc⟩ := hC
        obtain ⟨ad, h2, _⟩ := hc h
        cases h2
    subst h0
    have he := fun (w : World) (n c n' c' : Nat) => @Lib.run_eql_slice_nil Try.prog w 23 5 none n c n' c' Try.underlying23
    clear hC
    go_enter Try.func38, Try.ntmps38
    go_wp2
    go_ret
    exact ⟨none, 0, rfl, Kd.R_nil _ _ _ _ _, Below.refl _ _⟩
  | some ad =>
    have he := fun (w : World) (n c n' c' : Nat) => @Lib.run_eql_slice_nil Try.prog w 23 5 (some ad) n c n' c' Try.underlying23
    have HC := Lib.hid hC
    have hR0 : (Kd.int .u8).R 5 (w.alloc (.cells #[] 5)) w.heap.size (fun _ => True) (.slice (some ⟨w.heap.size, 0, none⟩) 0 0) [] :=
      ⟨fun _ _ => trivial, [], ⟨rfl, .inr ⟨w.heap.size, 0, #[], rfl, Nat.le_refl _, (MapKept.heap_alloc w _).1, Nat.le_refl _, Nat.zero_le _, rfl, rfl⟩⟩, ⟨rfl, fun j p h => by simp at h⟩⟩
    have HR := Lib.hid hR0
    have hb0 := (Below.refl w.heap.size w).alloc (Nat.le_refl _) (.cells #[] 5)
    have HB := Lib.hid hb0
    have hl1 : (([] : List Int).length + l.length) * 1 ≤ 140737488355328 := by simpa using hn
    clear hC hR0 hb0
    go_enter Try.func38, Try.ntmps38
    go_wp2_with (first
      | ((with_reducible refine gate_builtin (b := .append) (xs := #[.tmp 5, .tmp 6]) rfl ?_); at_builtin; refine Kd.R_append_rows (Kd.int .u8) (w0 := w) w.heap.size rfl (.tmp 5) (.tmp 6) 23 5 (.int .u8 0) 1 rfl Try.underlying23 infoB rfl (by decide) (by decide) (.slice (some ⟨w.heap.size, 0, none⟩) 0 0) [] l (some ad) l.length c (fun _ => True) (fun _ => False) rfl rfl HR.out (Kd.C_below HC.out HB.out) (fun x cs h => h) (fun _ hk => hk.elim) (fun _ _ => trivial) HB.out HB.out.size hl1 ?_; intro v1 w1 hR1 hb1 hg1 hat1; obtain ⟨B, d, rfl⟩ := Kd.R_slice hR1)
      | go_in)
    go_ret
    exact ⟨B, d, rfl, hR1, hb1⟩
set_option maxHeartbeats 1000000 in
theorem own_calls (z : C4) (w : World) (hB : RdB w z) (hn : z.by_.length ≤ 140737488355328) :
    Calls Try.prog 26 #[.agg #[.int .i64 z.at_, .int .i64 z.ep, .slice z.A z.by_.length z.c]] w fun e w' => ∃ z' : C4, e = .returned (.agg #[.int .i64 z'.at_, .int .i64 z'.ep, .slice z'.A z'.by_.length z'.c]) ∧ z'.c3 = z.c3 ∧ OwnB w' w.heap.size z' ∧ Below w.heap.size w w' := by
  obtain ⟨a, e0, l, A, c⟩ := z
  have HB := Lib.hid hB
  simp only at hn ⊢
  clear hB
  go_enter Try.func26, Try.ntmps26
  go_wp2_with fail
  have g2 : w.grownBy ((w.alloc (.cells #[.int .i64 a, .int .i64 e0, .slice A l.length c] 34)).alloc (.cells #[.int .i64 0, .int .i64 0, .slice none 0 0] 34)) none := (World.grownBy_alloc _ _ _).trans (World.grownBy_alloc _ _ _)
  have r0 : ((w.alloc (.cells #[.int .i64 a, .int .i64 e0, .slice A l.length c] 34)).alloc (.cells #[.int .i64 0, .int .i64 0, .slice none 0 0] 34)).heap[w.heap.size]? = some (.cells #[.int .i64 a, .int .i64 e0, .slice A l.length c] 34 (0, 0)) := ((MapKept.heap_alloc (w.alloc _) _).2 _ (by simp)).trans (MapKept.heap_alloc w _).1
  have r1 : ((w.alloc (.cells #[.int .i64 a, .int .i64 e0, .slice A l.length c] 34)).alloc (.cells #[.int .i64 0, .int .i64 0, .slice none 0 0] 34)).heap[w.heap.size + 1]? = some (.cells #[.int .i64 0, .int .i64 0, .slice none 0 0] 34 (0, 0)) := by
    have h := (MapKept.heap_alloc (w.alloc (.cells #[.int .i64 a, .int .i64 e0, .slice A l.length c] 34)) (.cells #[.int .i64 0, .int .i64 0, .slice none 0 0] 34)).1
    simpa using h
  generalize (w.alloc (.cells #[.int .i64 a, .int .i64 e0, .slice A l.length c] 34)).alloc (.cells #[.int .i64 0, .int .i64 0, .slice none 0 0] 34) = W at *
  refine (clone_calls A c l W (Kd.C_below HB.out.2 (below_of_grown g2)) hn).mono ?_
  rintro e w1 ⟨B, d, rfl, hR, hb⟩
  have q0 := blk_below r0 hb
  have q1 := blk_below r1 hb
  have z00 := (blk_cell q0 0).trans rfl
  have z01 := (blk_cell q0 1).trans rfl
  have z02 := (blk_cell q0 2).trans rfl
  have z10 := (blk_cell q1 0).trans rfl
  have z11 := (blk_cell q1 1).trans rfl
  have z12 := (blk_cell q1 2).trans rfl
  have y02 := blk_frozen q0 2
  have y10 := blk_frozen q1 0
  have y11 := blk_frozen q1 1
  have y12 := blk_frozen q1 2
  have s1 : w.heap.size + 2 ≤ W.heap.size := by have := (Array.getElem?_eq_some_iff.1 r1).1; omega
  have HF := Lib.hid (And.intro (And.intro q1 hR) (And.intro (And.intro g2 hb) s1))
  clear q0 q1 hR g2 hb s1 r0 r1 HB
  go_wp2
  have hs1 := HF.out.2.2
  have f0 : w.grownBy w1 none := HF.out.2.1.1.trans (grown_below0 HF.out.2.1.2)
  refine bodyPost_ret (results_cell_row rfl _ _ (w.heap.size + 1) 34 #[.int .i64 a, .int .i64 e0, .slice B l.length d] (0, 0) _ rfl ?hp Try.underlying34 rfl (by kernel_rfl)) rfl ?_
  case hp =>
    refine (blk_put (blk_put (blk_put (blk_other HF.out.1.1 (by omega) 2 (.slice B l.length d)) 0 _ rfl) 1 _ rfl) 2 _ rfl).trans ?_
    simp
  · refine ⟨⟨a, e0, l, B, d⟩, rfl, rfl, ?_, ?_⟩
    · exact Kd.R_lower (R_set_low (R_set_low (R_set_low (R_set_low HF.out.1.2 (by omega) _ _) (by omega) _ _) (by omega) _ _) (by omega) _ _) (by omega)
    · exact below_set' (below_set' (below_set' (below_set' (below_of_grown f0) (Nat.le_refl _) _ _) (by omega) _ _) (by omega) _ _) (by omega) _ _
theorem cell_lt {w : World} {a : Addr} {v : Value} (h : w.cell? a = some v) : a.block < w.heap.size := by
  unfold World.cell? at h
  by_cases hl : a.block < w.heap.size
  · exact hl
  · rw [Array.getElem?_eq_none (by omega)] at h
    simp at h
theorem cell_step {w W : World} {a : Addr} {v : Value} {row : Option Nat} (h : w.grownBy W row) (c : w.cell? a = some v) (hne : some a.block ≠ row) : W.cell? a = some v := (World.cell?_of_block (h.block _ (cell_lt c) hne)).trans c
theorem take_snoc'' {α : Type} {l : List α} {k : Nat} {x : α} (h : l[k]? = some x) : l.take (k + 1) = l.take k ++ [x] := by
  obtain ⟨hl, rfl⟩ := List.getElem?_eq_some_iff.1 h
  exact List.take_succ_eq_append_getElem hl
def agg4 (z : C4) : Value := .agg #[.int .i64 z.at_, .int .i64 z.ep, .slice z.A z.by_.length z.c]
def row4 (z : C4) : Obj := .cells #[.int .i64 z.at_, .int .i64 z.ep, .slice z.A z.by_.length z.c] 34
end Go.Proofs.Ytdfpcldoakbehaa.Quor

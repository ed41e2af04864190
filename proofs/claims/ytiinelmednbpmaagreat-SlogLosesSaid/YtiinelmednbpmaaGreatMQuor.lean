import Derived.Test.YtiinelmednbpmaaGreatMState
import Derived.WalkKit
import Derived.BigQuiet
import Derived.Deep.QuietTactic
import Derived.Deep.RegionWith
import Derived.Deep.DeepCutAuto
import Derived.Deep.CutBlock
import Derived.OwnWalk
import Derived.StillTailTactics
import Derived.RegionTactic
import Derived.BigRegion
import Derived.Maps.AppendAt
import Derived.WalkSpells
import Derived.Shelf.SlicesE.Kit
import Derived.Sort.Grow
import Derived.Lib.Hide
import Derived.Test.YtiinelmednbpmaaGreatWWords
import Derived.Shelf.SlSortCmp.NoneTotal
import Derived.Shelf.Lay
import Derived.Ground.SlsfProg
import Derived.Sort.OwnSorted
import Derived.Test.YtiinelmednbpmaaGreatWApart
import Derived.Maps.OwnSet
import Derived.Maps.RangeWalk
import Derived.Maps.Views
import Derived.WalkArith
import Derived.Test.YtiinelmednbpmaaGreatWAt
import Derived.Deep.RegionHeld3
import Derived.Deep.AppendLies
import Derived.StillTactics
/- What replies tell together, in plain lists. -/
namespace Go.Proofs.YtiinelmednbpmaaGreat.Quor
abbrev P3 := Int × Int × List Int
def grp3 (l : List P3) (a : Int) : List P3 := l.filter fun z => decide (z.1 = a)
def best3 (x : P3) (l : List P3) : P3 := l.foldl (fun x y => if x.2.1 < y.2.1 then y else x) x
def bestAt (l : List P3) (a : Int) : Option P3 :=
  match grp3 l a with
  | [] => none
  | x :: r => some (best3 x r)
def insK (a : Int) : List Int → List Int
  | [] => [a]
  | b :: r => if a < b then a :: b :: r else if a = b then b :: r else b :: insK a r
theorem mem_insK {a c : Int} : ∀ {l : List Int}, c ∈ insK a l ↔ c = a ∨ c ∈ l
  | [] => by simp [insK]
  | b :: r => by
    rw [insK]
    split
    · simp
    · split
      · rename_i h
        subst h
        simp
      · simp [mem_insK (l := r)]
        constructor
        · rintro (h | h | h) <;> simp [h]
        · rintro (h | h | h) <;> simp [h]
theorem sorted_insK (a : Int) : ∀ {l : List Int}, l.Pairwise (· < ·) → (insK a l).Pairwise (· < ·)
  | [], _ => by simp [insK]
  | b :: r, h => by
    obtain ⟨h1, h2⟩ := List.pairwise_cons.1 h
    rw [insK]
    split
    · rename_i hc
      refine List.pairwise_cons.2 ⟨fun x hx => ?_, h⟩
      rcases List.mem_cons.1 hx with rfl | hx
      · exact hc
      · exact Int.lt_trans hc (h1 x hx)
    · split
      · exact h
      · refine List.pairwise_cons.2 ⟨fun x hx => ?_, sorted_insK a h2⟩
        rcases mem_insK.1 hx with rfl | hx
        · omega
        · exact h1 x hx
def keysM (l : List P3) : List Int := l.foldr (fun x ks => insK x.1 ks) []
theorem mem_keys {a : Int} : ∀ {l : List P3}, a ∈ keysM l ↔ ∃ x ∈ l, x.1 = a
  | [] => by simp [keysM]
  | y :: r => by
    have ih := mem_keys (a := a) (l := r)
    unfold keysM at ih ⊢
    rw [List.foldr_cons, mem_insK, ih]
    simp
    constructor
    · rintro (h | h)
      · exact .inl h.symm
      · exact .inr h
    · rintro (h | h)
      · exact .inl h.symm
      · exact .inr h
theorem sorted_keys : ∀ (l : List P3), (keysM l).Pairwise (· < ·)
  | [] => List.Pairwise.nil
  | y :: r => by
    have ih := sorted_keys r
    unfold keysM at ih ⊢
    exact sorted_insK _ ih
def mergeM (l : List P3) : List P3 := (keysM l).filterMap (bestAt l)
theorem best3_mem (x : P3) : ∀ (l : List P3), best3 x l ∈ x :: l
  | [] => by simp [best3]
  | y :: r => by
    unfold best3
    rw [List.foldl_cons]
    split
    · have := best3_mem y r
      unfold best3 at this
      exact List.mem_cons_of_mem _ this
    · have := best3_mem x r
      unfold best3 at this
      rcases List.mem_cons.1 this with h | h
      · rw [h]; exact List.mem_cons_self
      · exact List.mem_cons_of_mem _ (List.mem_cons_of_mem _ h)
theorem bestAt_mem {l : List P3} {a : Int} {c : P3} (h : bestAt l a = some c) : c ∈ l ∧ c.1 = a := by
  unfold bestAt at h
  split at h
  · cases h
  · rename_i x r hg
    obtain rfl := Option.some.inj h
    have h1 := best3_mem x r
    rw [← hg] at h1
    have h2 := List.mem_filter.1 h1
    exact ⟨h2.1, of_decide_eq_true h2.2⟩
theorem bestAt_some {l : List P3} {a : Int} (h : ∃ x ∈ l, x.1 = a) : ∃ c, bestAt l a = some c := by
  obtain ⟨x, hx, hxa⟩ := h
  unfold bestAt
  have : x ∈ grp3 l a := List.mem_filter.2 ⟨hx, decide_eq_true hxa⟩
  split
  · rename_i hg
    rw [hg] at this; cases this
  · exact ⟨_, rfl⟩
theorem mem_merge {l : List P3} {c : P3} : c ∈ mergeM l ↔ bestAt l c.1 = some c := by
  unfold mergeM
  rw [List.mem_filterMap]
  constructor
  · rintro ⟨a, _, h⟩
    have := (bestAt_mem h).2
    rw [this]; exact h
  · intro h
    have := bestAt_mem h
    exact ⟨c.1, mem_keys.2 ⟨c, this.1, rfl⟩, h⟩
theorem sorted_merge (l : List P3) : (mergeM l).Pairwise fun a b => a.1 < b.1 := by
  unfold mergeM
  refine (sorted_keys l).filterMap (bestAt l) ?_
  intro a a' h b hb b' hb'
  rw [(bestAt_mem hb).2, (bestAt_mem hb').2]
  exact h
theorem merge_uniq : ∀ {a b : List P3}, a.Pairwise (fun x y => x.1 < y.1) → b.Pairwise (fun x y => x.1 < y.1) → (∀ x, x ∈ a ↔ x ∈ b) → a = b
  | [], [], _, _, _ => rfl
  | [], y :: _, _, _, h => by have := (h y).2 List.mem_cons_self; cases this
  | x :: _, [], _, _, h => by have := (h x).1 List.mem_cons_self; cases this
  | x :: r, y :: s, ha, hb, h => by
    obtain ⟨a1, a2⟩ := List.pairwise_cons.1 ha
    obtain ⟨b1, b2⟩ := List.pairwise_cons.1 hb
    have e : x = y := by
      rcases List.mem_cons.1 ((h x).1 List.mem_cons_self) with e | e
      · exact e
      · rcases List.mem_cons.1 ((h y).2 List.mem_cons_self) with e' | e'
        · exact e'.symm
        · have h1 := b1 _ e
          have h2 := a1 _ e'
          omega
    subst e
    refine congrArg (x :: ·) (merge_uniq a2 b2 fun z => ⟨fun hz => ?_, fun hz => ?_⟩)
    · rcases List.mem_cons.1 ((h z).1 (List.mem_cons_of_mem _ hz)) with e | e
      · subst e; have := a1 _ hz; omega
      · exact e
    · rcases List.mem_cons.1 ((h z).2 (List.mem_cons_of_mem _ hz)) with e | e
      · subst e; have := b1 _ hz; omega
      · exact e
/-- What was collected, sorted: what is merged. -/
theorem merge_of {l out out' : List P3} (h1 : (out.map (·.1)).Nodup) (h2 : ∀ c, c ∈ out ↔ bestAt l c.1 = some c) (hp : out'.Perm out) (hs : out'.Pairwise fun a b => ¬ b.1 < a.1) : out' = mergeM l := by
  refine merge_uniq ?_ (sorted_merge l) fun c => by rw [hp.mem_iff, h2, mem_merge]
  have hn : (out'.map (·.1)).Nodup := ((hp.map _).nodup_iff).2 h1
  have hn2 : out'.Pairwise fun a b => a.1 ≠ b.1 := List.pairwise_map.1 hn
  exact (hn2.and hs).imp fun ⟨a, b⟩ => by omega
end Go.Proofs.YtiinelmednbpmaaGreat.Quor
/- Clone, own, older, best. -/
namespace Go.Proofs.YtiinelmednbpmaaGreat.QuorM
open Go.Proofs.YtiinelmednbpmaaGreat.Quor
open Go.RowKit Go.Proofs.YtiinelmednbpmaaGreatW.PrintWords Go.Proofs.YtiinelmednbpmaaGreat.Cut
theorem grown_of_below {w w' : World} (h : Below w.heap.size w w') : w.grownBy w' none := ⟨h.os, h.tape, h.output, h.size, fun k hk _ => h.block k hk⟩
theorem below_of_grown {w w' : World} (h : w.grownBy w' none) : Below w.heap.size w w' := ⟨h.os, h.tape, h.output, h.size, fun k hk => h.block k hk (by simp)⟩
/-- The bytes of a cell are a row of the call's own. -/
def OwnB (w : World) (base : Nat) (z : C4) : Prop := (Kd.int .u8).R 5 w base (fun _ => True) (.slice z.A z.by_.length z.c) z.by_
theorem grown_below0 {w w' : World} (h : Below w.heap.size w w') : w.grownBy w' none := grown_of_below h
theorem R_set_low {α : Type} {d : Kd α} {e base g : Nat} {w : World} {ok : Nat → Prop} {v : Value} {xs : List α} (h : d.R e w base ok v xs) (hg : g < base) (j : Nat) (u : Value) : d.R e (w.setCell ⟨g, j, none⟩ u) base ok v xs :=
  Kd.R_mono (Kd.R_move (Kd.R_bound h) (fun k hk => Below.heap_setCell w ⟨g, j, none⟩ u k (by have := hk.2.1; simp only; omega))) (fun _ hk => hk.1)
theorem blk_other {w : World} {g i : Nat} {o : Obj} (h : w.heap[g]? = some o) (hn : g ≠ i) (j : Nat) (u : Value) : (w.setCell ⟨i, j, none⟩ u).heap[g]? = some o := (Below.heap_setCell w ⟨i, j, none⟩ u g hn).trans h
theorem below_set' {B g : Nat} {w W : World} (h : Below B w W) (hg : B ≤ g) (j : Nat) (u : Value) : Below B w (W.setCell ⟨g, j, Option.none⟩ u) := h.setCell hg _
set_option maxHeartbeats 1000000 in
theorem clone_calls (A : Option Addr) (c : Nat) (l : List Int) (w : World) (hC : (Kd.int .u8).C w A l.length l) (hn : l.length ≤ 140737488355328) :
    Calls Tryz.prog 86 #[.slice A l.length c] w fun e w' => ∃ B d, e = .returned (.slice B l.length d) ∧ (Kd.int .u8).R 5 w' w.heap.size (fun _ => True) (.slice B l.length d) l ∧ Below w.heap.size w w' := by
  cases A with
  | none =>
    have h0 : l = [] := by
      rcases Nat.eq_zero_or_pos l.length with h | h
      · exact List.length_eq_zero_iff.1 h
      · obtain ⟨_, _, hc⟩ := hC
        obtain ⟨ad, h2, _⟩ := hc h
        cases h2
    subst h0
    have he := fun (w : World) (n c n' c' : Nat) => @Lib.run_eql_slice_nil Tryz.prog w 32 5 none n c n' c' Tryz.underlying32
    clear hC
    go_enter Tryz.func86, Tryz.ntmps86
    go_wp2
    go_ret
    exact ⟨none, 0, rfl, Kd.R_nil _ _ _ _ _, Below.refl _ _⟩
  | some ad =>
    have he := fun (w : World) (n c n' c' : Nat) => @Lib.run_eql_slice_nil Tryz.prog w 32 5 (some ad) n c n' c' Tryz.underlying32
    have HC := Lib.hid hC
    have hR0 : (Kd.int .u8).R 5 (w.alloc (.cells #[] 5)) w.heap.size (fun _ => True) (.slice (some ⟨w.heap.size, 0, none⟩) 0 0) [] :=
      ⟨fun _ _ => trivial, [], ⟨rfl, .inr ⟨w.heap.size, 0, #[], rfl, Nat.le_refl _, (MapKept.heap_alloc w _).1, Nat.le_refl _, Nat.zero_le _, rfl, rfl⟩⟩, ⟨rfl, fun j p h => by simp at h⟩⟩
    have HR := Lib.hid hR0
    have hb0 := (Below.refl w.heap.size w).alloc (Nat.le_refl _) (.cells #[] 5)
    have HB := Lib.hid hb0
    have hl1 : (([] : List Int).length + l.length) * 1 ≤ 140737488355328 := by simpa using hn
    clear hC hR0 hb0
    go_enter Tryz.func86, Tryz.ntmps86
    go_wp2_with (first
      | ((with_reducible refine gate_builtin (b := .append) (xs := #[.tmp 5, .tmp 6]) rfl ?_); at_builtin; refine Kd.R_append_rows (Kd.int .u8) (w0 := w) w.heap.size rfl (.tmp 5) (.tmp 6) 32 5 (.int .u8 0) 1 rfl Tryz.underlying32 infoB rfl (by decide) (by decide) (.slice (some ⟨w.heap.size, 0, none⟩) 0 0) [] l (some ad) l.length c (fun _ => True) (fun _ => False) rfl rfl HR.out (Kd.C_below HC.out HB.out) (fun x cs h => h) (fun _ hk => hk.elim) (fun _ _ => trivial) HB.out HB.out.size hl1 ?_; intro v1 w1 hR1 hb1 hg1 hat1; obtain ⟨B, d, rfl⟩ := Kd.R_slice hR1)
      | go_in)
    go_ret
    exact ⟨B, d, rfl, hR1, hb1⟩
set_option maxHeartbeats 1000000 in
theorem own_calls (z : C4) (w : World) (hB : RdB w z) (hn : z.by_.length ≤ 140737488355328) :
    Calls Tryz.prog 61 #[.agg #[.int .i64 z.at_, .int .i64 z.ep, .slice z.A z.by_.length z.c]] w fun e w' => ∃ z' : C4, e = .returned (.agg #[.int .i64 z'.at_, .int .i64 z'.ep, .slice z'.A z'.by_.length z'.c]) ∧ z'.c3 = z.c3 ∧ OwnB w' w.heap.size z' ∧ Below w.heap.size w w' := by
  obtain ⟨a, e0, l, A, c⟩ := z
  have HB := Lib.hid hB
  simp only at hn ⊢
  clear hB
  go_enter Tryz.func61, Tryz.ntmps61
  go_wp2_with fail
  have g2 : w.grownBy ((w.alloc (.cells #[.int .i64 a, .int .i64 e0, .slice A l.length c] 77)).alloc (.cells #[.int .i64 0, .int .i64 0, .slice none 0 0] 77)) none := (World.grownBy_alloc _ _ _).trans (World.grownBy_alloc _ _ _)
  have r0 : ((w.alloc (.cells #[.int .i64 a, .int .i64 e0, .slice A l.length c] 77)).alloc (.cells #[.int .i64 0, .int .i64 0, .slice none 0 0] 77)).heap[w.heap.size]? = some (.cells #[.int .i64 a, .int .i64 e0, .slice A l.length c] 77 (0, 0)) := ((MapKept.heap_alloc (w.alloc _) _).2 _ (by simp)).trans (MapKept.heap_alloc w _).1
  have r1 : ((w.alloc (.cells #[.int .i64 a, .int .i64 e0, .slice A l.length c] 77)).alloc (.cells #[.int .i64 0, .int .i64 0, .slice none 0 0] 77)).heap[w.heap.size + 1]? = some (.cells #[.int .i64 0, .int .i64 0, .slice none 0 0] 77 (0, 0)) := by
    have h := (MapKept.heap_alloc (w.alloc (.cells #[.int .i64 a, .int .i64 e0, .slice A l.length c] 77)) (.cells #[.int .i64 0, .int .i64 0, .slice none 0 0] 77)).1
    simpa using h
  generalize (w.alloc (.cells #[.int .i64 a, .int .i64 e0, .slice A l.length c] 77)).alloc (.cells #[.int .i64 0, .int .i64 0, .slice none 0 0] 77) = W at *
  refine (clone_calls A c l W (Kd.C_below HB.out.2 (below_of_grown g2)) hn).mono ?_
  rintro e w1 ⟨B, d, rfl, hR, hb⟩
  have q0 := blk_below r0 hb
  have q1 := blk_below r1 hb
  have z00 := (blk_cell q0 0).trans rfl
  have z01 := (blk_cell q0 1).trans rfl
  have z02 := (blk_cell q0 2).trans rfl
  have z10 := (blk_cell q1 0).trans rfl
  have z11 := (blk_cell q1 1).trans rfl
  have z12 := (blk_cell q1 2).trans rfl
  have y02 := blk_frozen q0 2
  have y10 := blk_frozen q1 0
  have y11 := blk_frozen q1 1
  have y12 := blk_frozen q1 2
  have s1 : w.heap.size + 2 ≤ W.heap.size := by have := (Array.getElem?_eq_some_iff.1 r1).1; omega
  have HF := Lib.hid (And.intro (And.intro q1 hR) (And.intro (And.intro g2 hb) s1))
  clear q0 q1 hR g2 hb s1 r0 r1 HB
  go_wp2
  have hs1 := HF.out.2.2
  have f0 : w.grownBy w1 none := HF.out.2.1.1.trans (grown_below0 HF.out.2.1.2)
  refine bodyPost_ret (results_cell_row rfl _ _ (w.heap.size + 1) 77 #[.int .i64 a, .int .i64 e0, .slice B l.length d] (0, 0) _ rfl ?hp Tryz.underlying77 rfl (by kernel_rfl)) rfl ?_
  case hp =>
    refine (blk_put (blk_put (blk_put (blk_other HF.out.1.1 (by omega) 2 (.slice B l.length d)) 0 _ rfl) 1 _ rfl) 2 _ rfl).trans ?_
    simp
  · refine ⟨⟨a, e0, l, B, d⟩, rfl, rfl, ?_, ?_⟩
    · exact Kd.R_lower (R_set_low (R_set_low (R_set_low (R_set_low HF.out.1.2 (by omega) _ _) (by omega) _ _) (by omega) _ _) (by omega) _ _) (by omega)
    · exact below_set' (below_set' (below_set' (below_set' (below_of_grown f0) (Nat.le_refl _) _ _) (by omega) _ _) (by omega) _ _) (by omega) _ _
theorem older_calls (x y : C4) (w : World) : Calls Tryz.prog 63 #[.agg #[.int .i64 x.at_, .int .i64 x.ep, .slice x.A x.by_.length x.c], .agg #[.int .i64 y.at_, .int .i64 y.ep, .slice y.A y.by_.length y.c]] w fun e w' => e = .returned (.bool (decide (x.ep < y.ep))) ∧ w.grownBy w' none := by
  obtain ⟨a, e0, l, A, c⟩ := x
  obtain ⟨a', e0', l', A', c'⟩ := y
  simp only
  go_enter Tryz.func63, Tryz.ntmps63
  go_wp2
  go_ret
  exact ⟨rfl, (World.grownBy_alloc _ _ _).trans (World.grownBy_alloc _ _ _)⟩
end Go.Proofs.YtiinelmednbpmaaGreat.QuorM
/- best: the first of the greatest epoch. -/
namespace Go.Proofs.YtiinelmednbpmaaGreat.QuorM
open Go.Proofs.YtiinelmednbpmaaGreat.Quor
open Go.RowKit Go.Proofs.YtiinelmednbpmaaGreatW.PrintWords Go.Proofs.YtiinelmednbpmaaGreat.Cut
theorem cell_lt {w : World} {a : Addr} {v : Value} (h : w.cell? a = some v) : a.block < w.heap.size := by
  unfold World.cell? at h
  by_cases hl : a.block < w.heap.size
  · exact hl
  · rw [Array.getElem?_eq_none (by omega)] at h
    simp at h
theorem cell_step {w W : World} {a : Addr} {v : Value} {row : Option Nat} (h : w.grownBy W row) (c : w.cell? a = some v) (hne : some a.block ≠ row) : W.cell? a = some v := (World.cell?_of_block (h.block _ (cell_lt c) hne)).trans c
theorem take_snoc'' {α : Type} {l : List α} {k : Nat} {x : α} (h : l[k]? = some x) : l.take (k + 1) = l.take k ++ [x] := by
  obtain ⟨hl, rfl⟩ := List.getElem?_eq_some_iff.1 h
  exact List.take_succ_eq_append_getElem hl
def bestF (x : C4) (l : List C4) : C4 := l.foldl (fun x y => if x.ep < y.ep then y else x) x
def bestL : List C4 → C4
  | [] => ⟨0, 0, [], none, 0⟩
  | x :: r => bestF x r
theorem bestF_snoc (x : C4) (l : List C4) (y : C4) : bestF x (l ++ [y]) = if (bestF x l).ep < y.ep then y else bestF x l := by
  unfold bestF; rw [List.foldl_append]; rfl
def agg4 (z : C4) : Value := .agg #[.int .i64 z.at_, .int .i64 z.ep, .slice z.A z.by_.length z.c]
def row4 (z : C4) : Obj := .cells #[.int .i64 z.at_, .int .i64 z.ep, .slice z.A z.by_.length z.c] 77
set_option maxHeartbeats 2000000 in
theorem best_calls (x0 : C4) (r0 : List C4) (A : Option Addr) (c : Nat) (w : World) (hC : K4.C w A (x0 :: r0).length (x0 :: r0)) (hc : (x0 :: r0).length ≤ c) (hn : (x0 :: r0).length ≤ 1000000) :
    Calls Tryz.prog 62 #[.slice A (x0 :: r0).length c, .func (.func 63) #[] #[]] w fun e w' => e = .returned (agg4 (bestF x0 r0)) ∧ Below w.heap.size w w' := by
  obtain ⟨A', R, hR, hCR, hcR, hrun⟩ := tail_cut (d := K4) 71 77 .i64 Tryz.underlying71 infoCell rfl hC hc 1 1 rfl (by simp)
  obtain rfl : R = r0 := by simpa using hR
  clear hR
  obtain ⟨ad, z, rfl, hz, a0, a1, a2⟩ := at_K4 hC 0 (by simp)
  obtain rfl : x0 = z := by simpa using hz
  have HC := Lib.hid hCR
  simp only [List.length_cons] at hrun hn ⊢
  obtain ⟨n, hnn⟩ : ∃ n, n = R.length := ⟨_, rfl⟩
  rw [← hnn] at hrun hn HC ⊢
  have HN := Lib.hid hnn
  obtain ⟨xa, xe, xb, xA, xc⟩ := x0
  simp only at a0 a1 a2
  have e0 : ad.add (0 * 3) = ad := by cases ad; rfl
  rw [e0] at a0 a1 a2
  have hb : ad.block < w.heap.size := cell_lt a0
  have hb1 : ad.block ≠ w.heap.size := by omega
  have hb2 : w.heap.size ≠ ad.block := by omega
  clear e0
  clear hC hcR hCR hz hc hnn
  go_enter Tryz.func62, Tryz.ntmps62
  go_wp2_with fail
  have H0 : Below w.heap.size w ((w.alloc (.cells #[.int .i64 0, .int .i64 0, .slice none 0 0] 77)).alloc (.cells #[.int .i64 xa, .int .i64 xe, .slice xA xb.length xc] 77)) := ((Below.refl _ _).alloc (Nat.le_refl _) _).alloc (by simp) _
  have r0 : ((w.alloc (.cells #[.int .i64 0, .int .i64 0, .slice none 0 0] 77)).alloc (.cells #[.int .i64 xa, .int .i64 xe, .slice xA xb.length xc] 77)).heap[w.heap.size]? = some (.cells #[.int .i64 0, .int .i64 0, .slice none 0 0] 77 (0, 0)) := ((MapKept.heap_alloc (w.alloc _) _).2 _ (by simp)).trans (MapKept.heap_alloc w _).1
  have r1 : ((w.alloc (.cells #[.int .i64 0, .int .i64 0, .slice none 0 0] 77)).alloc (.cells #[.int .i64 xa, .int .i64 xe, .slice xA xb.length xc] 77)).heap[w.heap.size + 1]? = some (.cells #[.int .i64 xa, .int .i64 xe, .slice xA xb.length xc] 77 (0, 0)) := by
    have h := (MapKept.heap_alloc (w.alloc (.cells #[.int .i64 0, .int .i64 0, .slice none 0 0] 77)) (.cells #[.int .i64 xa, .int .i64 xe, .slice xA xb.length xc] 77)).1
    simpa using h
  go_loopw [14] (fun i wx => ∃ k : Nat, k ≤ n ∧ i = .int .i64 k ∧ Below w.heap.size w wx ∧ wx.heap[w.heap.size]? = some (.cells #[.int .i64 0, .int .i64 0, .slice none 0 0] 77 (0, 0)) ∧ ∃ z, z = bestF ⟨xa, xe, xb, xA, xc⟩ (R.take k) ∧ wx.heap[w.heap.size + 1]? = some (.cells #[.int .i64 z.at_, .int .i64 z.ep, .slice z.A z.by_.length z.c] 77 (0, 0))) (fun i _ => n - (intOf i).toNat)
  case atStart => exact ⟨0, Nat.zero_le _, rfl, H0, r0, _, rfl, r1⟩
  case round =>
    clear H0 r0 r1 a0 a1 a2 hrun
    obtain ⟨k, hk, rfl, hB, hr0, z, hz, hr1⟩ := hrel
    have HZ := Lib.hid hz
    obtain ⟨za, ze, zb, zA, zc⟩ := z
    simp only at hr1
    have z0 := (blk_cell hr1 0).trans rfl
    have z1 := (blk_cell hr1 1).trans rfl
    have z2 := (blk_cell hr1 2).trans rfl
    have hsz : w.heap.size + 2 ≤ wr.heap.size := (Array.getElem?_eq_some_iff.1 hr1).1
    have H1 := Lib.hid (And.intro hB (And.intro hr0 hr1))
    clear hz
    by_cases hlt : k < n
    · have hlti : (k : Int) < (n : Int) := by omega
      have hk0 : (0 : Int) ≤ (k : Int) := by omega
      obtain ⟨ad2, y, rfl, hy, d0, d1, d2⟩ := at_K4 (Kd.C_below HC.out hB) k hlt
      obtain ⟨ya, ye, yb, yA, yc⟩ := y
      simp only at d0 d1 d2
      have HY := Lib.hid hy
      have hol := older_calls ⟨za, ze, zb, zA, zc⟩ ⟨ya, ye, yb, yA, yc⟩ (wr.alloc (.cells #[.int .i64 ya, .int .i64 ye, .slice yA yb.length yc] 77))
      simp only at hol
      clear hy hB hr0 hr1
      have hsn : w.heap.size + 1 ≠ wr.heap.size := by omega
      have hsm : wr.heap.size ≠ w.heap.size + 1 := by omega
      have hsl : w.heap.size + 1 < wr.heap.size := by omega
      have hrY := (MapKept.heap_alloc wr (.cells #[.int .i64 ya, .int .i64 ye, .slice yA yb.length yc] 77)).1
      have hr2 := ((MapKept.heap_alloc wr (.cells #[.int .i64 ya, .int .i64 ye, .slice yA yb.length yc] 77)).2 _ (by omega)).trans H1.out.2.2
      have HB2 := Lib.hid (And.intro (H1.out.1.alloc H1.out.1.size (.cells #[.int .i64 ya, .int .i64 ye, .slice yA yb.length yc] 77)) (((MapKept.heap_alloc wr (.cells #[.int .i64 ya, .int .i64 ye, .slice yA yb.length yc] 77)).2 _ (by omega)).trans H1.out.2.1))
      have HRY := Lib.hid hrY; have HR2 := Lib.hid hr2
      clear hrY hr2
      by_cases hlt2 : ze < ye
      · have t1 : decide (ze < ye) = true := decide_eq_true hlt2
        rw [t1] at hol
        go_wp2_with (go_at_call 63; refine hol.mono ?_; rintro e w2 ⟨rfl, hg2⟩; have q0 := blk_grown HRY.out hg2 (by simp); have q1 := blk_grown HR2.out hg2 (by simp); have c0 := (blk_cell q0 0).trans rfl; have c1 := (blk_cell q0 1).trans rfl; have c2 := (blk_cell q0 2).trans rfl; have f0 := blk_frozen q1 0; have f1 := blk_frozen q1 1; have f2 := blk_frozen q1 2; have y0 := (blk_cell q1 0).trans rfl; have y1 := (blk_cell q1 1).trans rfl; have y2 := (blk_cell q1 2).trans rfl; have HG := Lib.hid (And.intro hg2 q1); clear hg2 q0 q1)
        have b2 := HB2.out.1.grown HG.out.1 HB2.out.1.size (fun j hj => by cases hj)
        have b3 := below_set' (below_set' (below_set' b2 (g := w.heap.size + 1) (by omega) 0 (.int .i64 ya)) (g := w.heap.size + 1) (by omega) 1 (.int .i64 ye)) (g := w.heap.size + 1) (by omega) 2 (.slice yA yb.length yc)
        have b4 := blk_other (blk_other (blk_other (blk_grown HB2.out.2 HG.out.1 (by simp)) (by omega : w.heap.size ≠ w.heap.size + 1) 0 (.int .i64 ya)) (by omega : w.heap.size ≠ w.heap.size + 1) 1 (.int .i64 ye)) (by omega : w.heap.size ≠ w.heap.size + 1) 2 (.slice yA yb.length yc)
        have b5 := blk_put (cs' := #[.int .i64 ya, .int .i64 ye, .slice yA yb.length yc]) (blk_put (blk_put HG.out.2 0 (.int .i64 ya) rfl) 1 (.int .i64 ye) rfl) 2 (.slice yA yb.length yc) (by simp)
        have HF := Lib.hid (And.intro b3 (And.intro b4 b5))
        clear b2 b3 b4 b5 c0 c1 c2 f0 f1 f2 y0 y1 y2
        go_roundw
        case rel =>
          refine ⟨k + 1, by omega, by go_num, HF.out.1, HF.out.2.1, ⟨ya, ye, yb, yA, yc⟩, ?_, HF.out.2.2⟩
          rw [take_snoc'' HY.out, bestF_snoc, ← HZ.out, if_pos hlt2]
        case measure => simp [intOf]; omega
      · have t1 : decide (ze < ye) = false := decide_eq_false hlt2
        rw [t1] at hol
        go_wp2_with (go_at_call 63; refine hol.mono ?_; rintro e w2 ⟨rfl, hg2⟩)
        have b2 := HB2.out.1.grown hg2 HB2.out.1.size (fun j hj => by cases hj)
        have b4 := blk_grown HB2.out.2 hg2 (by simp)
        have b5 := blk_grown HR2.out hg2 (by simp)
        go_roundw
        case rel =>
          refine ⟨k + 1, by omega, by go_num, b2, b4, ⟨za, ze, zb, zA, zc⟩, ?_, b5⟩
          rw [take_snoc'' HY.out, bestF_snoc, ← HZ.out, if_neg (by simp only; omega)]
        case measure => simp [intOf]; omega
    · obtain rfl : k = n := by omega
      have q0 := blk_frozen hr0 0
      have q1 := blk_frozen hr0 1
      have q2 := blk_frozen hr0 2
      have x0 := (blk_cell hr0 0).trans rfl
      have x1 := (blk_cell hr0 1).trans rfl
      have x2 := (blk_cell hr0 2).trans rfl
      clear hB hr0 hr1
      go_wp2_with fail
      refine bodyPost_ret (results_cell_row rfl _ _ w.heap.size 77 #[.int .i64 za, .int .i64 ze, .slice zA zb.length zc] (0, 0) _ rfl ?hp Tryz.underlying77 rfl (by kernel_rfl)) rfl ?_
      case hp =>
        refine (blk_put (blk_put (blk_put H1.out.2.1 0 _ rfl) 1 _ rfl) 2 _ rfl).trans ?_
        simp
      · have h9 : bestF ⟨xa, xe, xb, xA, xc⟩ R = ⟨za, ze, zb, zA, zc⟩ := by rw [HZ.out, HN.out, List.take_length]
        refine ⟨by rw [h9]; rfl, ?_⟩
        exact below_set' (below_set' (below_set' H1.out.1 (Nat.le_refl _) _ _) (Nat.le_refl _) _ _) (Nat.le_refl _) _ _
end Go.Proofs.YtiinelmednbpmaaGreat.QuorM
/- The closure that compares two cells by their slots. -/
namespace Go.Proofs.YtiinelmednbpmaaGreat.QuorM
open Go.Proofs.YtiinelmednbpmaaGreat.Quor
open Go.RowKit Go.Lib Go.Sort
def cf4 (x y : C4) : Int := if x.at_ < y.at_ then -1 else 1
theorem cf4_lt (x y : C4) : cf4 x y < 0 ↔ x.at_ < y.at_ := by unfold cf4; split <;> simp_all
set_option maxHeartbeats 1000000 in
theorem clo_calls (x y : C4) (W : World) : Calls Tryz.prog 64 #[.agg #[.int .i64 x.at_, .int .i64 x.ep, .slice x.A x.by_.length x.c], .agg #[.int .i64 y.at_, .int .i64 y.ep, .slice y.A y.by_.length y.c]] W fun e w' => e = .returned (.int .i64 (cf4 x y)) ∧ ∃ q os', w' = grow (W.drewN q) os' := by
  obtain ⟨x1, x2, x3, x4, x5⟩ := x
  obtain ⟨y1, y2, y3, y4, y5⟩ := y
  simp only
  have fin : ∃ q os', (W.alloc (.cells #[.int .i64 x1, .int .i64 x2, .slice x4 x3.length x5] 77)).alloc (.cells #[.int .i64 y1, .int .i64 y2, .slice y4 y3.length y5] 77) = grow (W.drewN q) os' := ⟨0, _, by rw [alloc_eq_grow, alloc_eq_grow, grow_grow]; rfl⟩
  have F := Lib.hid fin
  clear fin
  by_cases h1 : x1 < y1
  · rw [show cf4 ⟨x1, x2, x3, x4, x5⟩ ⟨y1, y2, y3, y4, y5⟩ = -1 from if_pos h1]
    go_enter Tryz.func64, Tryz.ntmps64
    go_wp2
    go_ret
    exact ⟨rfl, F.out⟩
  · rw [show cf4 ⟨x1, x2, x3, x4, x5⟩ ⟨y1, y2, y3, y4, y5⟩ = 1 from if_neg h1]
    go_enter Tryz.func64, Tryz.ntmps64
    go_wp2
    go_ret
    exact ⟨rfl, F.out⟩
end Go.Proofs.YtiinelmednbpmaaGreat.QuorM
/- The sort of cells: what it leaves, in a row of the call's own. -/
namespace Go.Proofs.YtiinelmednbpmaaGreat.QuorM
open Go.Proofs.YtiinelmednbpmaaGreat.Quor
open Go.Shelf Go.RowKit Go.Lib Go.Sort Go.Proofs Go.Proofs.YtiinelmednbpmaaGreatW.PrintWords
shelf_lay_g SlLaysF0.n6 Slsf 6 at Tryz 59 as Tryz.sortCell
theorem K4_M (w : World) (base : Nat) (ok : Nat → Prop) (x : C4) : K4.M w base ok x (enc4 x) := rfl
theorem fm_len (l : List C4) : (l.flatMap enc4).length = l.length * 3 := by
  induction l with
  | nil => rfl
  | cons x r ih => rw [List.flatMap_cons, List.length_append, ih, enc4_len, List.length_cons]; omega
theorem fm_get : ∀ (l : List C4) (t : Nat), (l.flatMap enc4)[t]? = (l[t / 3]?).bind fun x => (enc4 x)[t % 3]?
  | [], t => by simp
  | x :: r, t => by
    rw [List.flatMap_cons]
    by_cases h : t < 3
    · rw [List.getElem?_append_left (by rw [enc4_len]; exact h), Nat.div_eq_of_lt h, Nat.mod_eq_of_lt h]; rfl
    · rw [List.getElem?_append_right (by rw [enc4_len]; omega), enc4_len, fm_get r (t - 3)]
      have e1 : (t - 3) / 3 = t / 3 - 1 := by omega
      have e2 : (t - 3) % 3 = t % 3 := by omega
      have e3 : t / 3 = (t / 3 - 1) + 1 := by omega
      rw [e1, e2]
      conv => rhs; rw [e3, List.getElem?_cons_succ]
theorem fm_drop : ∀ (l : List C4) (j : Nat) (p : C4), l[j]? = some p → ((l.flatMap enc4).drop (j * 3)).take 3 = enc4 p
  | [], j, p, h => by simp at h
  | x :: r, 0, p, h => by
    obtain rfl : x = p := by simpa using h
    rw [List.flatMap_cons, Nat.zero_mul, List.drop_zero]
    exact List.take_left' (enc4_len x)
  | x :: r, j + 1, p, h => by
    rw [List.flatMap_cons, Nat.succ_mul, Nat.add_comm, ← List.drop_drop, List.drop_left' (enc4_len x)]
    exact fm_drop r j p (by simpa using h)
theorem reps (w : World) (base : Nat) (ok : Nat → Prop) (l : List C4) : Reps (K4.M w base ok) 3 l (l.flatMap enc4) :=
  ⟨fm_len l, fun j p h => by rw [fm_drop l j p h]; exact K4_M _ _ _ _⟩
theorem own_R {w : World} {base : Nat} {v : Value} {l : List C4} (h : w.ownsRow base 77 3 v l.length (l.flatMap enc4)) : K4.R 77 w base (fun _ => True) v l :=
  ⟨fun _ _ => trivial, _, h, reps _ _ _ _⟩
theorem flat_list (d : Array C4) : (flatK enc4 3 d).toList = d.toList.flatMap enc4 := by
  apply List.ext_getElem?
  intro t
  rw [fm_get]
  by_cases h : t < d.size * 3
  · have h2' : t / 3 < d.size := by omega
    have hm : t % 3 < 3 := Nat.mod_lt _ (by decide)
    rw [List.getElem?_eq_getElem (l := d.toList) (by rw [Array.length_toList]; exact h2'), Option.bind_some]
    have e : (flatK enc4 3 d).toList[t]? = some ((enc4 d[t / 3]!)[t % 3]!) := by
      simp [flatK, h]
    rw [e, getElem!_pos d (t / 3) h2', getElem!_pos _ (t % 3) (by rw [enc4_len]; exact hm), List.getElem?_eq_getElem (by rw [enc4_len]; exact hm)]
    rfl
  · rw [List.getElem?_eq_none (by simp; omega), List.getElem?_eq_none (l := d.toList) (by simp; omega)]; rfl
theorem flat_size (d : Array C4) : (flatK enc4 3 d).size = d.size * 3 := size_flatK _ _ _
theorem holds2_ {w : World} {g : Nat} {cur : Array Value} {e : TypeId} {l : List C4} (hb : w.heap[g]? = some (.cells cur e (0, 0))) (ht : cur.toList.take (l.length * 3) = l.flatMap enc4) : HoldsK enc4 3 w g 0 l.toArray := by
  intro j hj
  have hj' : j < l.length * 3 := by rw [flat_size] at hj; simpa using hj
  refine ⟨?_, by simp [World.frozen?, hb]⟩
  have h1 : (cur.toList.take (l.length * 3))[j]? = (flatK enc4 3 l.toArray).toList[j]? := by rw [ht, flat_list]
  rw [List.getElem?_take_of_lt hj', List.getElem?_eq_getElem (l := (flatK enc4 3 l.toArray).toList) (by simpa using hj)] at h1
  simp only [World.cell?, hb, Nat.zero_add]
  simp only [Option.isSome_none, Bool.false_eq_true, if_false]
  rw [← Array.getElem?_toList, h1, getElem!_pos _ j hj]
  rfl
theorem heap2_ {w : World} {g n : Nat} {os : Array Obj} {cur : Array Value} {e : TypeId} {fr : Nat × Nat} (d : Array C4) (hb : w.heap[g]? = some (.cells cur e fr)) :
    (sortWorldK enc4 3 w g 0 n d os).heap[g]? = some (.cells (putCells id 0 (flatK enc4 3 d) cur) e fr) := by
  have hg : g < w.heap.size := (Array.getElem?_eq_some_iff.1 hb).1
  unfold sortWorldK putRowK
  rw [heap_grow_old _ _ (by simpa using hg)]
  simp [putRow, mapBlock, Sort.ahead, Array.getElem?_modify, hb, onCells]
theorem grown2_ {w : World} {g n : Nat} {os : Array Obj} (d : Array C4) : w.grownBy (sortWorldK enc4 3 w g 0 n d os) (some g) := by
  unfold sortWorldK putRowK
  refine ⟨rfl, rfl, rfl, by simp, fun k hk hne => ?_⟩
  rw [heap_grow_old _ _ (by simpa using hk)]
  have : g ≠ k := fun e => hne (by rw [e])
  simp [putRow, mapBlock, Sort.ahead, Array.getElem?_modify, this]
theorem take2_ (cur : Array Value) (ys : List Value) (F : Array Value) (hF : F.toList = ys) (h : ys.length ≤ cur.size) : (putCells id 0 F cur).toList.take ys.length = ys := by
  subst hF
  apply List.ext_getElem?
  intro j
  by_cases hj : j < F.size
  · rw [List.getElem?_take_of_lt (by simpa using hj), Array.getElem?_toList]
    simp at h
    simp [putCells, hj, show j < cur.size by omega]
  · rw [List.getElem?_take_eq_none (by simp; omega), List.getElem?_eq_none (by simp; omega)]
theorem own2_ {w : World} {base g cap n : Nat} {e : TypeId} {os : Array Obj} {cur : Array Value} {m : Nat} (d : Array C4) (hd : d.size = m) (hbase : base ≤ g) (hb : w.heap[g]? = some (.cells cur e (0, 0))) (h1 : m ≤ cap) (h2 : cap ≤ maxLen) (h3 : cur.size = cap * 3) :
    (sortWorldK enc4 3 w g 0 n d os).ownsRow base e 3 (.slice (some ⟨g, 0, none⟩) m cap) m (d.toList.flatMap enc4) := by
  have hl : (d.toList.flatMap enc4).length = m * 3 := by rw [fm_len]; simp [hd]
  refine ⟨hl, .inr ⟨g, cap, _, rfl, hbase, heap2_ d hb, h1, h2, by simp [putCells, h3], ?_⟩⟩
  rw [← hl]
  exact take2_ cur _ _ (flat_list d) (by rw [hl, h3]; exact Nat.mul_le_mul_right _ h1)
theorem lt4 (x y : C4) : ltOf cf4 x y = decide (x.at_ < y.at_) := by
  unfold ltOf
  by_cases h : x.at_ < y.at_
  · rw [decide_eq_true h, decide_eq_true ((cf4_lt x y).2 h)]
  · rw [decide_eq_false h, decide_eq_false (fun h' => h ((cf4_lt x y).1 h'))]
theorem swo4 : SWO (ltOf cf4) where
  irrefl x := by rw [lt4]; exact decide_eq_false (Int.lt_irrefl _)
  trans x y z h1 h2 := by
    rw [lt4] at *
    exact decide_eq_true (Int.lt_trans (of_decide_eq_true h1) (of_decide_eq_true h2))
  ntrans x y z h1 h2 := by
    rw [lt4] at *
    have h1 := of_decide_eq_false h1
    have h2 := of_decide_eq_false h2
    exact decide_eq_false (by omega)
theorem perm2_ {d d' : Array C4} (h : PermIn 0 d.size d d') : d'.size = d.size ∧ d'.toList.Perm d.toList := by
  obtain ⟨h1, _, h3⟩ := h
  refine ⟨h1, ?_⟩
  have e : d'.extract 0 d.size = d' := by rw [← h1]; exact Array.extract_size
  rwa [e, Array.extract_size] at h3
theorem sorted2_ {d' : Array C4} {n : Nat} (hn : d'.size = n) (h : SortedIn (ltOf cf4) 0 n d') : d'.toList.Pairwise fun a b => ¬ b.at_ < a.at_ := by
  rw [List.pairwise_iff_getElem]
  intro i j hi hj hij
  have hi' : i < d'.size := by simpa using hi
  have hj' : j < d'.size := by simpa using hj
  have := h i j (Nat.zero_le _) hij (by omega)
  rw [lt4, getElem!_pos d' i hi', getElem!_pos d' j hj'] at this
  exact of_decide_eq_false this
theorem isAggC (w : World) : (isAgg 77).run Tryz.prog w = .ok true w := by have h := Tryz.isAgg77; exact h w
theorem sizeC_ (w : World) : (Go.sizeOf 77).run Tryz.prog w = .ok 3 w := by have h := Tryz.sizeOf77; exact h w
/-- The sort at a row of the call's own. -/
theorem sort_calls (v : Value) (out : List C4) (w : World) (base : Nat) (hown : w.ownsRow base 77 3 v out.length (out.flatMap enc4)) (hn : out.length ≤ 1000000) :
    Calls Tryz.prog 59 #[v, .func (.func 64) #[] #[]] w fun e w' => e = .returned (.tuple #[]) ∧ ∃ out' : List C4, out'.Perm out ∧ (out'.Pairwise fun a b => ¬ b.at_ < a.at_) ∧ w'.ownsRow base 77 3 v out'.length (out'.flatMap enc4) ∧ w.grownBy w' v.ownBlock := by
  obtain ⟨hlen, hown⟩ := hown
  rcases hown with ⟨rfl, h0⟩ | ⟨g, cap, cur, rfl, hbase, hb, h1, h2, h3, h4⟩
  · have hnil : out = [] := List.length_eq_zero_iff.1 h0
    subst hnil
    have hcon := AnyF.slices_SortFunc_none { Tryz.sortCell with } none 0 (.func (.func 64) #[] #[]) w
    refine hcon.mono ?_
    rintro e w' ⟨rfl, rfl⟩
    exact ⟨rfl, [], .refl _, .nil, ⟨rfl, .inl ⟨rfl, rfl⟩⟩, World.grownBy.refl _ _⟩
  · have eg : ∀ args w, (callFunc 64 args).run Tryz.prog w = .ok (.enter 64 args) w := enters_of Tryz.func64 (by kernel_rfl) rfl
    have hg : g < w.heap.size := (Array.getElem?_eq_some_iff.1 hb).1
    have hsz : out.toArray.size = out.length := by simp
    have hcon := AnyQ.slices_SortFunc Tryz.sortCell 3 isAggC sizeC_ enc4 enc4_len enc4_one cf4 swo4 64 #[] g 0 cap out.toArray w eg (fun _ _ _ _ x y => clo_calls x y _) (holds2_ hb h4) hg (by rw [hsz]; omega)
    rw [hsz] at hcon
    refine hcon.mono ?_
    rintro e w' ⟨rfl, d', n, os, hp, hs, rfl⟩
    have hp' : PermIn 0 out.toArray.size out.toArray d' := by rw [hsz]; exact hp
    obtain ⟨q1, q2⟩ := perm2_ hp'
    rw [hsz] at q1
    have ho := own2_ (w := w) (n := n) (os := os) (base := base) d' q1 hbase hb h1 h2 h3
    have q3 : d'.toList.length = out.length := by simpa using q1
    refine ⟨rfl, d'.toList, by simpa using q2, sorted2_ q1 hs, ?_, grown2_ d'⟩
    rw [q3]; exact ho
end Go.Proofs.YtiinelmednbpmaaGreat.QuorM
/- A map of groups of cells, by their slots. -/
namespace Go.Proofs.YtiinelmednbpmaaGreat.QuorM
open Go.Proofs.YtiinelmednbpmaaGreat.Quor
open Go.RowKit Go.Maps Go.Proofs.YtiinelmednbpmaaGreatW.PrintWords
abbrev W64 (a : Int) : Prop := (Lit.int .i64 a).wf = true
def RV : Value → Option (DataW Value × List MemPlace)
  | .slice A n c => some (.held (.slice A n c), [])
  | _ => none
theorem RV_mk (A : Option Addr) (n c : Nat) : RV (.slice A n c) = some (.held (.slice A n c), []) := rfl
theorem RV_inv {v : Value} {z : DataW Value × List MemPlace} (h : RV v = some z) : ∃ A n c, v = .slice A n c ∧ z = (.held v, []) := by
  unfold RV at h
  split at h
  · rename_i A n c
    exact ⟨A, n, c, rfl, (Option.some.inj h).symm⟩
  · cases h
theorem keyedI : Keyed Tryz.prog 3 := int_keyed Tryz.underlying3
theorem keyOf_I {a : Int} (h : W64 a) : keyOf Tryz.prog 3 (.int .i64 a) = some (.int .i64 a) := keyOf_int_mk Tryz.underlying3 h
theorem isKeyI {a : Int} (h : W64 a) : WideAt.IsKeyLit (.int .i64 a) := keyedI.key (keyOf_I h)
def grp (l : List C4) (a : Int) : List C4 := l.filter fun z => decide (z.at_ = a)
theorem grp_snoc_same {l : List C4} {x : C4} : grp (l ++ [x]) x.at_ = grp l x.at_ ++ [x] := by simp [grp]
theorem grp_snoc_other {l : List C4} {x : C4} {a : Int} (h : a ≠ x.at_) : grp (l ++ [x]) a = grp l a := by
  have : ¬ x.at_ = a := fun e => h e.symm
  simp [grp, this]
structure Grp (w : World) (base b : Nat) (l : List C4) (D : DataW Value) (V : Int → Value) : Prop where
  map : w.ownsMap Tryz.prog 3 RV b l.length D
  at_ : ∀ a, W64 a → D.atKey (.int .i64 a) (.held (.slice none 0 0)) = .held (V a) ∧ Maps.has D (.int .i64 a) = decide (grp l a ≠ [])
  row : ∀ a, W64 a → K4.R 77 w base (fun k => some k = (V a).ownBlock) (V a) (grp l a)
  apart : ∀ a a' k, W64 a → W64 a' → a ≠ a' → (V a).ownBlock = some k → (V a').ownBlock ≠ some k
theorem Grp.start (w : World) (base : Nat) : Grp (w.alloc (.map #[] 0)) base w.heap.size [] (.map []) (fun _ => .slice none 0 0) where
  map := World.ownsMap_made _ _ _ _
  at_ := fun a _ => ⟨rfl, rfl⟩
  row := fun a _ => Kd.R_nil _ _ _ _ _
  apart := fun a a' k _ _ _ h => by simp [Value.ownBlock] at h
theorem row_move {w w' : World} {base : Nat} {v : Value} {xs : List C4} (h : K4.R 77 w base (fun k => some k = v.ownBlock) v xs) {row : Option Nat} (hg : w.grownBy w' row) (hne : row = none ∨ row ≠ v.ownBlock) : K4.R 77 w' base (fun k => some k = v.ownBlock) v xs :=
  Kd.R_grown h hg (fun k hk e => by
    rcases hne with h1 | h1
    · rw [h1] at e; cases e
    · exact h1 (e ▸ hk))
theorem map_ne_row {w : World} {base n b : Nat} {v : Value} {xs : List C4} {D : DataW Value} {ok : Nat → Prop} (hm : w.ownsMap Tryz.prog 3 RV b n D) (h : K4.R 77 w base ok v xs) : some b ≠ v.ownBlock := by
  obtain ⟨_, _, hb, _⟩ := hm
  intro e
  obtain ⟨cells, hc⟩ := Kd.R_typed h b e.symm
  rw [hb] at hc
  cases hc
theorem Grp.grown {w w' : World} {base b : Nat} {l : List C4} {D : DataW Value} {V : Int → Value} (h : Grp w base b l D V) (hg : w.grownBy w' none) : Grp w' base b l D V where
  map := h.map.kept hg (by simp)
  at_ := h.at_
  row := fun a ha => row_move (h.row a ha) hg (.inl rfl)
  apart := h.apart
theorem Grp.snoc {w w1 w2 : World} {base b : Nat} {l : List C4} {D : DataW Value} {V : Int → Value} (h : Grp w base b l D V) {x : C4} (hx : W64 x.at_) {v1 : Value}
    (hr : K4.R 77 w1 base (fun _ => True) v1 (grp l x.at_ ++ [x])) (hg : w.grownBy w1 (V x.at_).ownBlock) (hat : v1.ownBlock = (V x.at_).ownBlock ∨ ∃ k, v1.ownBlock = some k ∧ w.heap.size ≤ k)
    (hm : w2.ownsMap Tryz.prog 3 RV b (l.length + 1) (D.put (.int .i64 x.at_) (.held v1))) (hg2 : w1.grownBy w2 (some b)) :
    Grp w2 base b (l ++ [x]) (D.put (.int .i64 x.at_) (.held v1)) (fun a => if a = x.at_ then v1 else V a) where
  map := by rw [List.length_append, List.length_singleton]; exact hm
  at_ := fun a ha => by
    by_cases e : a = x.at_
    · subst e
      rw [if_pos rfl, Maps.atKey_put_same h.map.isMap (isKeyI ha), Maps.has_put_same h.map.isMap (isKeyI ha)]
      exact ⟨rfl, by rw [grp_snoc_same]; simp⟩
    · have hne : (Lit.int .i64 a) ≠ .int .i64 x.at_ := fun h' => e (by injection h')
      rw [if_neg e, Maps.atKey_put_other hne, Maps.has_put_other hne, grp_snoc_other e]
      exact h.at_ a ha
  row := fun a ha => by
    have hb1 : some b ≠ v1.ownBlock := map_ne_row (h.map.kept hg (map_ne_row h.map (h.row _ hx))) hr
    by_cases e : a = x.at_
    · subst e
      simp only [if_true]
      rw [grp_snoc_same]
      exact row_move (Kd.R_tight rfl hr) hg2 (.inr hb1)
    · simp only [if_neg e]
      rw [grp_snoc_other e]
      have h1 := row_move (h.row a ha) hg (by
        cases hk : (V x.at_).ownBlock with
        | none => exact .inl rfl
        | some k => exact .inr fun e' => h.apart _ _ k hx ha (fun e'' => e e''.symm) hk e'.symm)
      exact row_move h1 hg2 (.inr (map_ne_row (h.map.kept hg (map_ne_row h.map (h.row _ hx))) h1))
  apart := fun a a' k ha ha' hne hk => by
    by_cases e : a = x.at_
    · subst e
      have e' : a' ≠ x.at_ := fun e' => hne e'.symm
      simp only [if_true] at hk
      simp only [if_neg e']
      intro hk'
      have hlt := Kd.R_lt (h.row a' ha') k hk'
      rcases hat with h1 | ⟨k', h1, h2⟩
      · rw [h1] at hk
        exact h.apart _ _ k hx ha' hne hk hk'
      · rw [h1] at hk
        have := Option.some.inj hk
        omega
    · simp only [if_neg e] at hk
      have hlt := Kd.R_lt (h.row a ha) k hk
      by_cases e' : a' = x.at_
      · subst e'
        simp only [if_true]
        intro hk'
        rcases hat with h1 | ⟨k', h1, h2⟩
        · rw [h1] at hk'
          exact h.apart _ _ k ha hx hne hk hk'
        · rw [h1] at hk'
          have := Option.some.inj hk'
          omega
      · simp only [if_neg e']
        exact h.apart _ _ k ha ha' hne hk
end Go.Proofs.YtiinelmednbpmaaGreat.QuorM
/- What Merge gathers. -/
namespace Go.Proofs.YtiinelmednbpmaaGreat.QuorM
open Go.Proofs.YtiinelmednbpmaaGreat.Quor
open Go.RowKit Go.Maps Go.Proofs.YtiinelmednbpmaaGreatW.PrintWords Go.Proofs.YtiinelmednbpmaaGreat.Cut
/-- What was gathered so far. -/
def Gath (w0 w : World) (cs : List C3) : Prop := ∃ zs D V, zs.map C4.c3 = cs ∧ (∀ z ∈ zs, RdB w0 z ∧ W64 z.at_) ∧ Grp w w0.heap.size w0.heap.size zs D V ∧ Below w0.heap.size w0 w
theorem Gath.len {w0 w : World} {cs : List C3} (h : Gath w0 w cs) : w0.heap.size ≤ w.heap.size := by
  obtain ⟨_, _, _, _, _, _, hb⟩ := h
  exact hb.size
theorem grown_drew {a b : World} {row : Option Nat} (h : a.grownBy b row) : a.grownBy b.drew row := ⟨h.os, h.tape, h.output, h.size, h.block⟩
set_option maxRecDepth 100000 in
theorem Grp.look {w : World} {base b : Nat} {l : List C4} {D : DataW Value} {V : Int → Value} (h : Grp w base b l D V) {a : Int} (ha : W64 a) :
    (Instr.lookup 122 (.map (some b)) (.int .i64 a) false).run Tryz.prog w = .ok (V a) w := by
  obtain ⟨v, ps, hrun, hv⟩ := h.map.lookup keyedI Tryz.underlying122 (z := .slice none 0 0) (by kernel_rfl) (RV_mk _ _ _) (keyOf_I ha)
  rw [(h.at_ a ha).1] at hv
  obtain ⟨A, n, c, rfl, e⟩ := RV_inv hv
  have e1 : V a = .slice A n c := by
    injection e with e _
    injection e
  rw [e1]; exact hrun
theorem Grp.slice {w : World} {base b : Nat} {l : List C4} {D : DataW Value} {V : Int → Value} (h : Grp w base b l D V) {a : Int} (ha : W64 a) : ∃ A c, V a = .slice A (grp l a).length c := Kd.R_slice (h.row a ha)
theorem reps_flat {w : World} {base : Nat} {ok : Nat → Prop} {xs : List C4} {a : List Value} (h : Reps (K4.M w base ok) 3 xs a) : a = xs.flatMap enc4 := by
  obtain ⟨hl, hp⟩ := h
  apply List.ext_getElem?
  intro t
  rw [fm_get]
  by_cases ht : t < xs.length * 3
  · have h3 : t / 3 < xs.length := by omega
    have h4 := hp (t / 3) xs[t / 3] (List.getElem?_eq_getElem h3)
    have h5 : (a.drop (t / 3 * 3)).take 3 = enc4 xs[t / 3] := h4
    rw [List.getElem?_eq_getElem h3, Option.bind_some, ← h5, List.getElem?_take_of_lt (Nat.mod_lt _ (by decide)), List.getElem?_drop]
    congr 1
    omega
  · rw [List.getElem?_eq_none (by omega), List.getElem?_eq_none (l := xs) (by omega)]; rfl
theorem K4_inner {w : World} {base : Nat} {v : Value} {xs : List C4} {ok : Nat → Prop} (h : K4.R 77 w base ok v xs) : w.ownsRow base 77 3 v xs.length (xs.flatMap enc4) := by
  obtain ⟨_, inner, ho, hr⟩ := h
  have : inner = xs.flatMap enc4 := reps_flat hr
  rw [← this]; exact ho
theorem K4_of {w : World} {base : Nat} {v : Value} {xs : List C4} (h : w.ownsRow base 77 3 v xs.length (xs.flatMap enc4)) : K4.R 77 w base (fun _ => True) v xs := own_R h
theorem gath_step {w W1 w1 w2 : World} {b : Nat} {cs : List C3} {zs : List C4} {D : DataW Value} {V : Int → Value} {z : C4} {vA : Option Addr} {vc gg cap : Nat} (hb : w.heap.size = b) (hz : zs.map C4.c3 = cs) (hrd : ∀ z ∈ zs, RdB w z ∧ W64 z.at_) (hR : RdB w z) (hw : W64 z.at_)
    (hG : Grp W1 b b zs D V) (hB : Below b w W1) (hV : V z.at_ = .slice vA (grp zs z.at_).length vc)
    (hown : w1.ownsRow b 77 3 (.slice (some ⟨gg, 0, none⟩) ((grp zs z.at_).length + 1) cap) ((grp zs z.at_).length + 1) ((grp zs z.at_).flatMap enc4 ++ enc4 z)) (hg : W1.grownBy w1 (Value.slice vA (grp zs z.at_).length vc).ownBlock)
    (hat : (Value.slice vA (grp zs z.at_).length vc).ownBlock = some gg ∨ gg = W1.heap.size + 1)
    (hm : w2.ownsMap Tryz.prog 3 RV b (zs.length + 1) (D.put (.int .i64 z.at_) (.held (.slice (some ⟨gg, 0, none⟩) ((grp zs z.at_).length + 1) cap)))) (hg2 : w1.grownBy w2 (some b)) : Gath w w2 (cs ++ [z.c3]) := by
  have hrow := K4_inner (hG.row _ hw)
  rw [hV] at hrow
  refine ⟨zs ++ [z], D.put (.int .i64 z.at_) (.held (.slice (some ⟨gg, 0, none⟩) ((grp zs z.at_).length + 1) cap)), fun a => if a = z.at_ then .slice (some ⟨gg, 0, none⟩) ((grp zs z.at_).length + 1) cap else V a, by rw [List.map_append, hz]; rfl, ?_, ?_, ?_⟩
  · intro y hy
    rcases List.mem_append.1 hy with hy | hy
    · exact hrd y hy
    · obtain rfl : y = z := by simpa using hy
      exact ⟨hR, hw⟩
  · rw [hb]
    refine hG.snoc hw (v1 := .slice (some ⟨gg, 0, none⟩) ((grp zs z.at_).length + 1) cap) ?_ (by rw [hV]; exact hg) ?_ hm hg2
    · refine K4_of ?_
      rw [List.length_append, List.length_singleton, List.flatMap_append]
      simpa using hown
    · rw [hV]
      rcases hat with h | h
      · exact .inl h.symm
      · exact .inr ⟨gg, rfl, by omega⟩
  · rw [hb]
    have h1 := hB.grown hg (by have := hB.size; omega) (fun j hj => own_base hrow j hj)
    exact h1.grown hg2 (by have := h1.size; omega) (fun j hj => by cases hj; exact Nat.le_refl _)
theorem flat_le {ls : List (List C3)} {l : List C3} {k j : Nat} (h : ls[k]? = some l) : ((ls.take k).flatten ++ l.take j).length ≤ ls.flatten.length := by
  obtain ⟨hl, rfl⟩ := List.getElem?_eq_some_iff.1 h
  have e : ls.flatten = (ls.take k).flatten ++ (ls[k] ++ (ls.drop (k + 1)).flatten) := by
    conv => lhs; rw [← List.take_append_drop k ls, List.drop_eq_getElem_cons hl]
    rw [List.flatten_append, List.flatten_cons]
  rw [e, List.length_append, List.length_append, List.length_append]
  have : (List.take j ls[k]).length ≤ ls[k].length := by rw [List.length_take]; exact Nat.min_le_right _ _
  omega
theorem grp_len (l : List C4) (a : Int) : (grp l a).length ≤ l.length := List.length_filter_le _ _
end Go.Proofs.YtiinelmednbpmaaGreat.QuorM
/- What Merge collects of the groups. -/
namespace Go.Proofs.YtiinelmednbpmaaGreat.QuorM
open Go.Proofs.YtiinelmednbpmaaGreat.Quor
open Go.RowKit Go.Maps Go.Proofs.YtiinelmednbpmaaGreatW.PrintWords Go.Proofs.YtiinelmednbpmaaGreat.Cut
theorem grp_c3 (zs : List C4) (a : Int) : (grp zs a).map C4.c3 = grp3 (zs.map C4.c3) a := by
  unfold grp grp3
  rw [List.filter_map]; rfl
theorem bestF_c3 : ∀ (r : List C4) (x : C4), (bestF x r).c3 = best3 x.c3 (r.map C4.c3)
  | [], x => rfl
  | y :: r, x => by
    have h : bestF x (y :: r) = bestF (if x.ep < y.ep then y else x) r := rfl
    have h2 : best3 x.c3 ((y :: r).map C4.c3) = best3 (if x.ep < y.ep then y.c3 else x.c3) (r.map C4.c3) := rfl
    rw [h, h2, bestF_c3 r]
    by_cases e : x.ep < y.ep
    · rw [if_pos e, if_pos e]
    · rw [if_neg e, if_neg e]
theorem bestAt_grp {zs : List C4} {a : Int} {x : C4} {r : List C4} (h : grp zs a = x :: r) : bestAt (zs.map C4.c3) a = some (bestF x r).c3 := by
  unfold bestAt
  rw [← grp_c3, h, List.map_cons, bestF_c3]
theorem bestF_mem : ∀ (r : List C4) (x : C4), bestF x r ∈ x :: r
  | [], x => by simp [bestF]
  | y :: r, x => by
    have h : bestF x (y :: r) = bestF (if x.ep < y.ep then y else x) r := rfl
    rw [h]
    have := bestF_mem r (if x.ep < y.ep then y else x)
    rcases List.mem_cons.1 this with e | e
    · rw [e]; split <;> simp
    · exact List.mem_cons_of_mem _ (List.mem_cons_of_mem _ e)
def Coll (zs : List C4) (left : Lit → Bool) (out : List C4) : Prop :=
  (out.map C4.at_).Nodup ∧ ∀ c : C3, c ∈ out.map C4.c3 ↔ bestAt (zs.map C4.c3) c.1 = some c ∧ left (.int .i64 c.1) = false
theorem Coll.start {w : World} {base b : Nat} {zs : List C4} {D : DataW Value} {V : Int → Value} (h : Grp w base b zs D V) (hw : ∀ z ∈ zs, W64 z.at_) : Coll zs (Maps.has D) [] := by
  refine ⟨List.nodup_nil, fun c => ⟨fun h => (by cases h), fun ⟨h1, h2⟩ => ?_⟩⟩
  obtain ⟨m1, m2⟩ := bestAt_mem h1
  obtain ⟨z, hz, hzc⟩ := List.mem_map.1 m1
  have hwc : W64 c.1 := by rw [← hzc]; exact hw z hz
  rw [(h.at_ _ hwc).2] at h2
  have hne : grp zs c.1 ≠ [] := by
    intro e
    have : z ∈ grp zs c.1 := List.mem_filter.2 ⟨hz, decide_eq_true (by rw [← hzc]; rfl)⟩
    rw [e] at this; cases this
  simp [hne] at h2
theorem same_int {a c : Int} (ha : W64 a) (hc : W64 c) : (Lit.int .i64 c).sameKey (.int .i64 a) = decide (c = a) := by
  by_cases h : c = a
  · subst h; rw [WideAt.sameKey_self (isKeyI hc), decide_eq_true rfl]
  · rw [decide_eq_false h]
    exact Maps.sameKey_ne fun e => h (by injection e)
theorem Coll.step {zs : List C4} {left : Lit → Bool} {out : List C4} (h : Coll zs left out) (hw : ∀ z ∈ zs, W64 z.at_) {a : Int} (ha : W64 a) {x : C4} {r : List C4} (hg : grp zs a = x :: r) (hl : left (.int .i64 a) = true) {z : C4} (hz : z.c3 = (bestF x r).c3) :
    Coll zs (fun k => left k && !k.sameKey (.int .i64 a)) (out ++ [z]) := by
  have hb := bestAt_grp hg
  have hza : z.at_ = a := by
    have h1 := (bestAt_mem hb).2
    rw [← hz] at h1; exact h1
  have hnot : ∀ c ∈ out.map C4.c3, c.1 ≠ a := by
    intro c hc e
    have := ((h.2 c).1 hc).2
    rw [e, hl] at this; cases this
  refine ⟨?_, fun c => ?_⟩
  · rw [List.map_append]
    refine List.nodup_append.2 ⟨h.1, by simp, fun p hp q hq => ?_⟩
    obtain rfl : q = z.at_ := by simpa using hq
    obtain ⟨y, hy, rfl⟩ := List.mem_map.1 hp
    rw [hza]
    exact hnot y.c3 (List.mem_map_of_mem hy)
  · rw [List.map_append, List.mem_append, h.2 c]
    constructor
    · rintro (⟨h1, h2⟩ | hc)
      · exact ⟨h1, by simp [h2]⟩
      · obtain rfl : c = z.c3 := by simpa using hc
        have e : z.c3.1 = a := hza
        rw [e, hz]
        refine ⟨hb, ?_⟩
        simp only [same_int ha ha, decide_true, Bool.not_true, Bool.and_false]
    · rintro ⟨h1, h2⟩
      obtain ⟨m1, _⟩ := bestAt_mem h1
      obtain ⟨y, hy, hyc⟩ := List.mem_map.1 m1
      have hwc : W64 c.1 := by rw [← hyc]; exact hw y hy
      by_cases e : c.1 = a
      · rw [e, hb] at h1
        right
        rw [← Option.some.inj h1, ← hz]
        simp
      · left
        simp only [same_int ha hwc, decide_eq_false e, Bool.not_false, Bool.and_true] at h2
        exact ⟨h1, h2⟩
theorem Coll.done {zs : List C4} {left : Lit → Bool} {out out' : List C4} (h : Coll zs left out) (hl : ∀ k, left k = false) (hp : out'.Perm out) (hs : out'.Pairwise fun a b => ¬ b.at_ < a.at_) : out'.map C4.c3 = mergeM (zs.map C4.c3) := by
  refine merge_of (out := out.map C4.c3) ?_ (fun c => ?_) (hp.map _) (List.pairwise_map.2 hs)
  · rw [List.map_map]; exact h.1
  · rw [h.2 c]
    exact ⟨fun h => h.1, fun h => ⟨h, hl _⟩⟩
theorem OwnB.kept {w w' : World} {base base' : Nat} {z : C4} {v : Value} {xs : List C4} {ok : Nat → Prop} (h : OwnB w base z) (hv : K4.R 77 w base' ok v xs) (hg : w.grownBy w' v.ownBlock) : OwnB w' base z := by
  refine Kd.R_mono (Kd.R_grown (Kd.R_tight rfl h) hg (fun k hk e => ?_)) (fun _ _ => trivial)
  obtain ⟨c1, h1⟩ := Kd.R_typed h k hk.symm
  obtain ⟨c2, h2⟩ := Kd.R_typed hv k e.symm
  rw [h1] at h2
  injection h2 with h2
  injection h2 with _ h2
  exact absurd h2 (by decide)
theorem OwnB.below {w w' : World} {base : Nat} {z : C4} (h : OwnB w base z) (hb : Below w.heap.size w w') : OwnB w' base z := Kd.R_below h hb
theorem OwnB.low {w : World} {base base' : Nat} {z : C4} (h : OwnB w base z) (hb : base' ≤ base) : OwnB w base' z := Kd.R_lower h hb
theorem R_grown_obj {α : Type} {d : Kd α} {e base b : Nat} {w w' : World} {ok : Nat → Prop} {v : Value} {xs : List α} {o : Obj} (hE : d.E = []) (h : d.R e w base ok v xs) (hb : w.heap[b]? = some o) (ho : ∀ c t f, o ≠ .cells c t f) (hg : w.grownBy w' (some b)) : d.R e w' base (fun _ => True) v xs := by
  refine Kd.R_mono (Kd.R_grown (Kd.R_tight hE h) hg (fun k hk e1 => ?_)) (fun _ _ => trivial)
  obtain ⟨c1, h1⟩ := Kd.R_typed h k hk.symm
  have := Option.some.inj e1
  subst this
  rw [hb] at h1
  exact ho _ _ _ (Option.some.inj h1)
theorem iter_obj {w : World} {b r n : Nat} {D : DataW Value} {left : Lit → Bool} {cnt : Nat} (h : w.ranges Tryz.prog 3 RV b r n D left cnt) : ∃ o, w.heap[r]? = some o ∧ ∀ c t f, o ≠ .cells c t f := by
  obtain ⟨_, _, _, _, _, _, _, _, _, hit, _⟩ := h
  exact ⟨_, hit, fun _ _ _ => by intro h; cases h⟩
theorem iter_ne_row {w : World} {b r n base : Nat} {D : DataW Value} {left : Lit → Bool} {cnt : Nat} {v : Value} {xs : List C4} {ok : Nat → Prop} (h : w.ranges Tryz.prog 3 RV b r n D left cnt) (hr : K4.R 77 w base ok v xs) : some r ≠ v.ownBlock := by
  obtain ⟨o, ho, hn⟩ := iter_obj h
  intro e
  obtain ⟨cells, hc⟩ := Kd.R_typed hr r e.symm
  rw [ho] at hc
  exact hn _ _ _ (Option.some.inj hc)
end Go.Proofs.YtiinelmednbpmaaGreat.QuorM
/- The walk of Merge: the walk of Merge. -/
namespace Go.Proofs.YtiinelmednbpmaaGreat.QuorM
open Go.Proofs.YtiinelmednbpmaaGreat.Quor
open Go.RowKit Go.Maps Go.Proofs.YtiinelmednbpmaaGreatW.PrintWords Go.Proofs.YtiinelmednbpmaaGreat.Cut
structure II where
  a : Int
structure SS where
  A : Option Addr
  n : Nat
  c : Nat
set_option maxRecDepth 100000 in
set_option maxHeartbeats 8000000 in
theorem merge_calls (ls : List (List C3)) (A : Option Addr) (c : Nat) (w : World) (hC : (Kd.slice 77 KC).C w A ls.length ls) (hW : ∀ l ∈ ls, ∀ x ∈ l, W64 x.1 ∧ x.2.2.length ≤ 140737488355328) (hn : ls.flatten.length ≤ 1000000) :
    Calls Tryz.prog 31 #[.slice A ls.length c] w fun e w' => ∃ v out, e = .returned v ∧ K4.R 77 w' w.heap.size (fun _ => True) v out ∧ (∀ z ∈ out, OwnB w' w.heap.size z) ∧ out.map C4.c3 = mergeM ls.flatten ∧ Below w.heap.size w w' := by
  have hmm := @run_makeMap Tryz.prog
  have HC := Lib.hid hC
  have HW := Lib.hid hW
  have hlm : ls.length ≤ 9223372036854775807 := hC.2.1
  obtain ⟨n, hnl⟩ : ∃ n, n = ls.length := ⟨_, rfl⟩
  rw [← hnl] at HC hlm ⊢
  have HN := Lib.hid hnl
  have HT := Lib.hid hn
  clear hC hW hnl hn
  go_enter Tryz.func31, Tryz.ntmps31
  go_wp2
  go_loopw [14] (fun i wx => ∃ k : Nat, k ≤ n ∧ i = .int .i64 k ∧ Gath w wx (ls.take k).flatten) (fun i _ => n - (intOf i).toNat)
  case atStart => exact ⟨0, Nat.zero_le _, rfl, [], _, _, rfl, by simp, Grp.start w _, (Below.refl _ _).alloc (Nat.le_refl _) _⟩
  case round =>
    obtain ⟨k, hk, rfl, hG⟩ := hrel
    have HG := Lib.hid hG
    by_cases hlt : k < n
    · have hlti : (k : Int) < (n : Int) := by omega
      have hk0 : (0 : Int) ≤ (k : Int) := by omega
      obtain ⟨zs0, D0, V0, hz0, hz1, hz2, hB⟩ := hG
      obtain ⟨ad, l, B, d, rfl, hl, a0, hlc, hCl⟩ := at_KR HC.out k hlt
      have a0 := cell_step (grown_of_below hB) a0 (by simp)
      have HL := Lib.hid (And.intro hl hCl)
      have hlm2 : l.length ≤ 9223372036854775807 := hCl.2.1
      obtain ⟨m, hm⟩ : ∃ m, m = l.length := ⟨_, rfl⟩
      rw [← hm] at hlc a0 hlm2
      have HM := Lib.hid hm
      clear hz0 hz1 hz2 hB hl hCl hm hlc
      go_wp2_with fail
      go_loopw [20] (fun i wx => ∃ j : Nat, j ≤ m ∧ i = .int .i64 j ∧ Gath w wx ((ls.take k).flatten ++ l.take j)) (fun i _ => m - (intOf i).toNat)
      case atStart => exact ⟨0, Nat.zero_le _, rfl, by rw [List.take_zero, List.append_nil]; exact HG.out⟩
      case round =>
        clear HG a0
        obtain ⟨j, hj, rfl, hG⟩ := hrel
        by_cases hlj : j < m
        · have hji : (j : Int) < (m : Int) := by omega
          have hj0 : (0 : Int) ≤ (j : Int) := by omega
          obtain ⟨zs, D, V, hz, hrd, hgrp, hB⟩ := hG
          obtain ⟨ad2, z, rfl, hzl, hRd, d0, d1, d2⟩ := at_KC (by have := HL.out.2; rw [← HM.out] at this; exact this) j hlj
          have d0 := cell_step (grown_of_below hB) d0 (by simp)
          have d1 := cell_step (grown_of_below hB) d1 (by simp)
          have d2 := cell_step (grown_of_below hB) d2 (by simp)
          obtain ⟨za, ze, zb, zA, zc⟩ := z
          simp only at d0 d1 d2
          go_upto_block 3 with fail
          go_cut [33] (fun _ wx => Gath w wx ((ls.take k).flatten ++ l.take (j + 1)))
          case first =>
            have hza : W64 za ∧ zb.length ≤ 140737488355328 := HW.out l (List.mem_of_getElem? HL.out.1) _ (List.mem_of_getElem? hzl)
            have HE := Lib.hid (And.intro hz (And.intro hrd (And.intro hRd (And.intro hza hzl))))
            have hbl : w.heap.size < wr.heap.size := hgrp.map.lt
            have hgne : some wr.heap.size ≠ (V za).ownBlock := fun e => by
              have := Kd.R_lt (hgrp.row za hza.1) _ e.symm
              omega
            have hg1 := hgrp.grown (World.grownBy_alloc wr (.cells #[.int .i64 za, .int .i64 ze, .slice zA zb.length zc] 77) none)
            have hb1 := hB.alloc hB.size (.cells #[.int .i64 za, .int .i64 ze, .slice zA zb.length zc] 77)
            have hr1 := (MapKept.heap_alloc wr (.cells #[.int .i64 za, .int .i64 ze, .slice zA zb.length zc] 77)).1
            clear hz hrd hgrp hB hRd
            go_upto_region 8 with fail
            clear d0 d1 d2
            generalize wr.alloc (.cells #[.int .i64 za, .int .i64 ze, .slice zA zb.length zc] 77) = W1 at *
            generalize wr.heap.size = g at *
            generalize hb : w.heap.size = b at *
            have z0 := (blk_cell hr1 0).trans rfl
            have z1 := (blk_cell hr1 1).trans rfl
            have z2 := (blk_cell hr1 2).trans rfl
            obtain ⟨vA, vc, hV⟩ := hg1.slice hza.1
            have hlk : ∀ W row, W1.grownBy W row → some b ≠ row → (Instr.lookup 122 (.map (some b)) (.int .i64 za) false).run Tryz.prog W = .ok (.slice vA (grp zs za).length vc) W := by
              intro W row h1 h2
              have h3 := (World.ownsMap.kept hg1.map h1 h2).lookup keyedI Tryz.underlying122 (z := .slice none 0 0) (by kernel_rfl) (RV_mk _ _ _) (keyOf_I hza.1)
              obtain ⟨v, ps, hrun, hv⟩ := h3
              rw [(hg1.at_ za hza.1).1, hV] at hv
              obtain ⟨A, n, c, rfl, e⟩ := RV_inv hv
              injection e with e _
              injection e with e
              rw [e]; exact hrun
            have hzl2 : zs.length ≤ 1000000 := by
              have h1 := flat_le (j := j) HL.out.1
              have h2 := HT.out
              have h3 := congrArg List.length HE.out.1
              rw [List.length_map] at h3
              omega
            have hgl := grp_len zs za
            have hrow := K4_inner (hg1.row za hza.1)
            rw [hV] at hrow
            have hne := map_ne_row hg1.map (hg1.row za hza.1)
            rw [hV] at hne hgne
            have HG1 := Lib.hid (And.intro hg1 (And.intro hb1 hr1))
            have HHB := Lib.hid hb
            have HHV := Lib.hid hV
            have L1 := Lib.hid (hlk W1.drew none (grown_drew (World.grownBy.refl _ _)) (by simp))
            have L2 := Lib.hid (hlk (W1.alloc (.cells #[.int .i64 za, .int .i64 ze, .slice zA zb.length zc] 77)).drew none (grown_drew (World.grownBy_alloc _ _ _)) (by simp))
            have HLK := Lib.hid hlk
            obtain ⟨i0, hi0, hq0, hq1, hq2⟩ := info_parts infoCell
            have HZL := Lib.hid hzl
            have hgz : g < W1.heap.size := (Array.getElem?_eq_some_iff.1 hr1).1
            have hbs : b ≤ W1.heap.size := by omega
            clear hlk hg1 hb1 hr1 hb hV a0 d0 d1 d2 hzl
            have hl3 : (grp zs za).length + 1 ≤ maxLen := by unfold maxLen; omega
            have hl4 : ((grp zs za).length + 1) * 40 ≤ 140737488355328 := by omega
            have gl1 : g < W1.heap.size := (Array.getElem?_eq_some_iff.1 HG1.out.2.2).1
            have gl2 : g ≠ W1.heap.size := by omega
            have gl3 : W1.heap.size ≠ g := by omega
            have HST := Lib.hid (fun w1 w2 gg cap h1 h2 h3 h4 h5 => by
              have h := gath_step (w1 := w1) (w2 := w2) (gg := gg) (cap := cap) (z := ⟨za, ze, zb, zA, zc⟩) HHB.out HE.out.1 HE.out.2.1 HE.out.2.2.1 hza.1 HG1.out.1 HG1.out.2.1 HHV.out h1 h2 h3 h4 h5
              rw [List.append_assoc, ← take_snoc'' HZL.out] at h
              exact h)
            have l1 := L1.out
            have l2 := L2.out
            go_region_law (first
              | (refine step_append_lies _ (by rfl) _ _ _ (by rfl) b 77 i0 _ 3 40 Tryz.underlying71 hi0 hq0 hq1 hq2 rfl (by omega) (.slice vA (grp zs za).length vc) (grp zs za).length _ (by rfl) ((hrow.alloc _).drew) ⟨W1.heap.size, 0, none⟩ 1 1 [.int .i64 za, .int .i64 ze, .slice zA zb.length zc] (by rfl) (by rfl) (World.news_of_block (cs := #[.int .i64 za, .int .i64 ze, .slice zA zb.length zc]) (t := 77) (fr := (0, 0)) (heap_alloc_new W1 _)) (by simp [Value.oneCell']) (by omega) hl3 hl4 (by simp; omega) (W1.heap.size + 1) (by simp) ?_; intro gg cap w1 hown1 hgrow hat hlt1; have hgA := ((grown_drew (World.grownBy_alloc W1 (.cells #[.int .i64 za, .int .i64 ze, .slice zA zb.length zc] 77) none)).but (Value.slice vA (grp zs za).length vc).ownBlock).trans hgrow; have k0 := cell_step hgA z0 hgne; have k1 := cell_step hgA z1 hgne; have k2 := cell_step hgA z2 hgne; have k3 := HLK.out w1 _ hgA hne; obtain ⟨w2, hrun, hown2, hg2⟩ := (World.ownsMap.kept HG1.out.1.map hgA hne).update keyedI Tryz.underlying122 (by unfold maxLen; omega) (keyOf_I hza.1) (RV_mk (some ⟨gg, 0, none⟩) ((grp zs za).length + 1) cap); have HX := Lib.hid (HST.out w1 w2 gg cap hown1 hgA hat hown2 hg2); clear hown1 hgrow hat hlt1 hgA hown2 hg2))
            all_goals
              clear hrun k0 k1 k2 k3
              go_wp2_with fail
              go_meet
              case rel => exact HX.out
          case rest =>
            have HX2 := Lib.hid hcut
            clear hcut
            go_wp2_with fail
            go_roundw
            case rel => exact ⟨j + 1, by omega, by go_num, HX2.out⟩
            case measure => simp [intOf]; omega
        · obtain rfl : j = m := by omega
          have e2 : l.take j = l := List.take_of_length_le (by rw [HM.out]; exact Nat.le_refl _)
          rw [e2] at hG
          have e1 : (ls.take (k + 1)).flatten = (ls.take k).flatten ++ l := by
            rw [take_snoc'' HL.out.1, List.flatten_append]; simp
          rw [← e1] at hG
          have HG2 := Lib.hid hG
          clear hG e1 e2
          go_wp2
          go_roundw
          case rel => exact ⟨k + 1, by omega, by go_num, HG2.out⟩
          case measure => simp [intOf]; omega
    · obtain rfl : k = n := by omega
      rw [List.take_of_length_le (by rw [HN.out]; exact Nat.le_refl _)] at hG
      obtain ⟨zs, D, V, hz, hrd, hgrp, hB⟩ := hG
      have hown := hgrp.map
      have hbz : w.heap.size < wr.heap.size := hgrp.map.lt
      have hzn : zs.length ≤ 1000000 := by rw [← List.length_map (f := C4.c3), hz]; exact HT.out
      have hwz : ∀ z ∈ zs, W64 z.at_ ∧ z.by_.length ≤ 140737488355328 := by
        intro z hzm
        have h1 : z.c3 ∈ ls.flatten := by rw [← hz]; exact List.mem_map_of_mem hzm
        obtain ⟨l, hl, hx⟩ := List.mem_flatten.1 h1
        exact HW.out l hl _ hx
      have HZ := Lib.hid (And.intro hz (And.intro hrd hwz))
      have HGR := Lib.hid (And.intro hgrp hB)
      clear hz hrd hwz hgrp hB HG
      go_wp2_with (first
        | (at_range; refine wpList_range_own _ rfl _ 122 rfl 3 71 keyedI Tryz.underlying122 RV w.heap.size zs.length D rfl hown ?_; intro w0 hrg0 hg0 hs0)
        | go_in)
      go_frame
      have hB0 := Lib.hid (show Below wr.heap.size wr w0 from (Below.refl _ _).grown hg0 (Nat.le_refl _) (fun j hj => by cases hj))
      obtain ⟨r, hr⟩ : ∃ r, wr.heap.size = r := ⟨_, rfl⟩
      rw [hr] at hrg0 hB0 ⊢
      have HR := Lib.hid hr
      go_loopw [8] (fun v wx => ∃ (left : Lit → Bool) (cnt : Nat) (out : List C4), wx.ranges Tryz.prog 3 RV w.heap.size r zs.length D left cnt ∧ cnt + out.length ≤ zs.length ∧ K4.R 77 wx r (fun _ => True) v out ∧ (∀ z ∈ out, OwnB wx r z) ∧ Coll zs left out ∧ Below r wr wx) (fun _ wx => wx.rangeLeft w.heap.size r)
      case atStart => exact ⟨_, _, [], hrg0, by have := hown.size_le; simpa using this, Kd.R_nil _ _ _ _ _, by simp, Coll.start HGR.out.1 (fun z hz => (HZ.out.2.2 z hz).1), hB0.out⟩
      case round =>
        clear hg0 hs0 hrg0 hown hB0
        obtain ⟨left, cnt, out, hrel⟩ := hrel
        have HRel := Lib.hid hrel
        have hrg := hrel.1
        clear hrel
        go_wp2_with (first
          | (at_next; refine wpList_next_ranges _ rfl _ rfl 3 keyedI RV (fun x : II => .int .i64 x.a) (fun x : SS => .slice x.A x.n x.c) (fun _ _ h => by obtain ⟨x, hx, _⟩ := keyOf_int_inv Tryz.underlying3 h; exact ⟨⟨x⟩, hx⟩) (fun _ _ h => by obtain ⟨A, n, c, hx, _⟩ := RV_inv h; exact ⟨⟨A, n, c⟩, hx⟩) w.heap.size r zs.length D left cnt rfl hrg ?_ ?_)
          | go_in)
        · intro hc0 hl0
          obtain ⟨_, hcn, hrow, hown, hcoll, hb⟩ := HRel.out
          have HX := Lib.hid (And.intro (And.intro hcoll hl0) (And.intro hrow (And.intro hown hb)))
          have hon : out.length ≤ 1000000 := by omega
          clear hrg hcn hrow hown hcoll hb HRel hl0 hr
          go_wp2_with (go_at_call 59; refine (sort_calls u8 out _ r (K4_inner HX.out.2.1) hon).mono ?_; rintro e w' ⟨rfl, out', hp, hs, hown', hg'⟩)
          have he := HX.out.1.1.done HX.out.1.2 hp (hs.imp (fun h => by omega))
          rw [HZ.out.1] at he
          have hb1 : Below r _ w' := HX.out.2.2.2.grown hg' (by rw [← HR.out]; exact HX.out.2.2.2.size) (fun j hj => Kd.R_base HX.out.2.1 j hj)
          have hlow : w.heap.size ≤ r := by rw [← HR.out]; exact Nat.le_of_lt hbz
          have hfin : Below w.heap.size w w' := below_then HGR.out.2 HGR.out.2.size (by rw [HR.out]; exact hb1)
          have hob : ∀ z ∈ out', OwnB w' w.heap.size z := fun z hz => ((HX.out.2.2.1 z (hp.mem_iff.1 hz)).kept HX.out.2.1 hg').low hlow
          have hkr : K4.R 77 w' w.heap.size (fun _ => True) u8 out' := Kd.R_lower (K4_of hown') hlow
          have HF := Lib.hid (And.intro hkr (And.intro hob (And.intro he hfin)))
          clear hp hs hown' hg' hfin hob hkr he hb1
          go_ret
          exact ⟨u8, out', by simp, HF.out.1, HF.out.2.1, HF.out.2.2.1, HF.out.2.2.2⟩
        · intro ⟨a⟩ ⟨vA, vn, vc⟩ kl y yp w1 cnt1 hkey hlk hv hat hrg1 hlt1 hg1 hs1 hen
          try simp only at hkey hv hen
          obtain ⟨a', ea, rfl, hwa⟩ := keyOf_int_inv Tryz.underlying3 hkey
          obtain rfl : a = a' := by injection ea
          rw [RV_mk] at hv
          have hv := Option.some.inj hv
          injection hv with hv1 hv2
          subst hv1; subst hv2
          have hVa : V a = .slice vA vn vc := by
            have h1 := hat (.held (.slice none 0 0))
            rw [(HGR.out.1.at_ a hwa).1] at h1
            injection h1
          have hne : grp zs a ≠ [] := by
            have h1 := (HGR.out.1.at_ a hwa).2
            rw [has_true_of_atKey hat] at h1
            exact of_decide_eq_true h1.symm
          obtain ⟨x, rs, hxr⟩ : ∃ x rs, grp zs a = x :: rs := by
            cases h : grp zs a with
            | nil => exact absurd h hne
            | cons x rs => exact ⟨x, rs, rfl⟩
          obtain ⟨hrg, hcn, hrow, hown, hcoll, hb⟩ := HRel.out
          have hR0 := HGR.out.1.row a hwa
          rw [hVa, hxr] at hR0
          obtain ⟨A1, c1, e1, hle1, hC1⟩ := Kd.R_reads hR0
          injection e1 with e1 e2 e3
          subst e1; subst e3
          have hb1 : Below r _ w1 := hb.grown hg1 (by rw [← HR.out]; exact hb.size) (fun j hj => by cases hj; exact Nat.le_refl _)
          have hC2 := Kd.C_below hC1 (by rw [HR.out]; exact hb1)
          have hzn2 : (x :: rs).length ≤ 1000000 := by rw [← hxr]; exact Nat.le_trans (grp_len zs a) hzn
          have hbest := best_calls x rs vA vc w1 hC2 hle1 hzn2
          rw [← e2] at hbest
          have hmz : bestF x rs ∈ zs := by
            have h1 := bestF_mem rs x
            rw [← hxr] at h1
            exact (List.mem_filter.1 h1).1
          obtain ⟨o, ho, hon⟩ := iter_obj hrg
          have hrow1 := R_grown_obj (d := K4) rfl hrow ho hon hg1
          have hown1 : ∀ z ∈ out, OwnB w1 r z := fun z hz => R_grown_obj (d := Kd.int .u8) rfl (hown z hz) ho hon hg1
          have HX := Lib.hid (And.intro (And.intro hrg1 (And.intro hlt1 hrg.left_eq)) (And.intro (And.intro hrow1 hown1) (And.intro hb1 (And.intro hcn hcoll))))
          have HY := Lib.hid (And.intro hwa (And.intro hxr (And.intro hlk hmz)))
          have hRd := RdB.below (HZ.out.2.1 _ hmz).1 HGR.out.2
          have hRd1 := RdB.below hRd (by rw [HR.out]; exact hb1)
          have HRd := Lib.hid hRd1
          have hbl := (HZ.out.2.2 _ hmz).2
          unfold agg4 at hbest
          generalize hzq : bestF x rs = z at *
          have HZQ := Lib.hid hzq
          clear hzq e2
          obtain ⟨za, ze, zb, zA, zc⟩ := z
          simp only at hbest hbl
          clear hrg hcn hrow hown hcoll hb hR0 hC1 hC2 hb1 hrow1 hown1 hrg1 hlt1 hg1 hs1 hkey hlk hat HRel hRd hRd1 hxr hne hVa hmz ho hon hle1 ea
          go_wp2_with fail
          refine hbest.mono ?_
          rintro e w2 ⟨rfl, hb2⟩
          have HB2 := Lib.hid hb2
          have how := own_calls ⟨za, ze, zb, zA, zc⟩ w2 (RdB.below HRd.out hb2) hbl
          simp only at how
          clear hbest hb2
          go_wp2_with fail
          refine how.mono ?_
          rintro e w3 ⟨z', rfl, hz3, hoz, hb3⟩
          obtain ⟨ya, ye, yb, yA, yc⟩ := z'
          simp only
          have hB3 := below_then HB2.out HB2.out.size hb3
          have hrow3 := Kd.R_below HX.out.2.1.1 hB3
          have hown3 : ∀ z ∈ out, OwnB w3 r z := fun z hz => (HX.out.2.1.2 z hz).below hB3
          have hrs : r ≤ w1.heap.size := by have h1 := HX.out.2.2.1.size; have h2 := HR.out; omega
          have hoz3 : OwnB w3 r ⟨ya, ye, yb, yA, yc⟩ := hoz.low (Nat.le_trans hrs HB2.out.size)
          have hrg3 := HX.out.1.1.kept (grown_of_below hB3) (by simp) (by simp)
          have hb33 : Below r _ w3 := HX.out.2.2.1.grown (grown_of_below hB3) (by have h1 := HX.out.2.2.1.size; have h2 := HR.out; omega) (fun j hj => by cases hj)
          have H3 := Lib.hid (And.intro hrow3 (And.intro hown3 (And.intro hoz3 (And.intro hrg3 hb33))))
          have HZ3 := Lib.hid hz3
          have hrs3 : r ≤ w3.heap.size := Nat.le_trans hrs hB3.size
          have hl40 : (out.length + 1) * 40 ≤ 140737488355328 := by have := HX.out.2.2.2.1; omega
          clear how hz3 hoz hb3 hB3 hrow3 hown3 hoz3 hrg3 hb33 hr
          go_wp2_with (first
            | ((with_reducible refine gate_builtin (b := .append) (xs := #[.tmp 42, .tmp 46]) rfl ?_); at_builtin; refine Kd.R_append K4 (w0 := w3) r rfl (.tmp 42) (.tmp 46) 71 77 (.agg #[.int .i64 0, .int .i64 0, .slice none 0 0]) 40 rfl Tryz.underlying71 infoCell rfl (by decide) (by decide) u8 out ⟨ya, ye, yb, yA, yc⟩ (enc4 ⟨ya, ye, yb, yA, yc⟩) (fun _ => True) (fun _ => False) rfl rfl rfl (fun _ hk => hk.elim) (fun _ _ => trivial) H3.out.1 (Below.refl _ _) hrs3 hl40 ?_; intro v1 w4 hR4 hb4 hg4 hat4)
            | go_in)
          have hrg4 := H3.out.2.2.2.1.kept hg4 (map_ne_row H3.out.2.2.2.1.owns H3.out.1) (iter_ne_row H3.out.2.2.2.1 H3.out.1)
          refine ⟨⟨_, cnt1, out ++ [⟨ya, ye, yb, yA, yc⟩], hrg4, ?_, hR4, ?_, ?_, ?_⟩, ?_⟩
          · have h1 := HX.out.2.2.2.1; have h2 := HX.out.1.2.1; rw [List.length_append, List.length_singleton]; omega
          · intro z hz
            rcases List.mem_append.1 hz with hz | hz
            · exact (H3.out.2.1 z hz).kept H3.out.1 hg4
            · obtain rfl : z = ⟨ya, ye, yb, yA, yc⟩ := by simpa using hz
              exact H3.out.2.2.1.kept H3.out.1 hg4
          · exact HX.out.2.2.2.2.step (fun z hz => (HZ.out.2.2 z hz).1) HY.out.1 HY.out.2.1 HY.out.2.2.1 (by rw [HZ3.out, HZQ.out])
          · exact H3.out.2.2.2.2.grown hg4 (by have h1 := H3.out.2.2.2.2.size; have h2 := HR.out; omega) (fun j hj => Kd.R_base H3.out.1 j hj)
          · rw [hrg4.left_eq, HX.out.1.2.2]; exact HX.out.1.2.1
end Go.Proofs.YtiinelmednbpmaaGreat.QuorM

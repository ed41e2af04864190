import Derived.Test.YtanhibhcmfmeeaaExVal3
import Derived.Laws.Pointers
/- The walk of Eval. -/
namespace Go.Proofs.Ytanhibhcmfmeeaa.Ex
open Go.RowKit Go.Proofs.YtanhibhcmfmeeaaW.PrintWords Go.Proofs.Ytanhibhcmfmeeaa.Cut Go.Proofs.Ytanhibhcmfmeeaa.Fr
theorem catch_panicking (p p' : Addr) (x y : Int) (w : World) (hc : w.cell? p = some (.int .i64 x)) (hz : w.frozen? p = false) (hc' : w.cell? p' = some (.int .i64 y)) (hz' : w.frozen? p' = false) (hne : p ≠ p') :
    CallsD Try.prog 34 #[.pointer (some p), .pointer (some p')] (.panicking ({ v := .iface 25 (.int .i64 10), recovered := false } :: [])) w fun e u' w' =>
      e = .returned (.tuple #[]) ∧ u' = .panicking ({ v := .iface 25 (.int .i64 10), recovered := true } :: []) ∧ w' = (w.setCell p (.int .i64 0)).setCell p' (.int .i64 10) := by
  have hc2 : ((w.setCell p (.int .i64 0)).cell? p') = some (.int .i64 y) := by rw [World.cell?_setCell_other _ _ _ _ hne]; exact hc'
  have hz2 : (w.setCell p (.int .i64 0)).frozen? p' = false := by simpa using hz'
  have hta : ∀ w : World, (Instr.typeAssert (.iface 25 (.int .i64 10)) 20 25 true).run Try.prog w = .ok (.tuple #[.int .i64 10, .bool true]) w := fun _ => by kernel_rfl
  refine callsD_of_wpS Try.func34 rfl fun c₀ cs hu => ?_
  apply wpS_seq
  apply wpS_region
  simp [wpOpsS, go_sem, recoverD, hu, Try.ntmps34, Exit.thenS, hta]
  apply wpS_seq
  apply wpS_region
  simp [wpOpsS, go_sem, Exit.thenS]
  refine wpS_cond (t := true) (by simp [Act.eval, Array.replicate]) ?_
  simp only [if_true]
  apply wpS_region
  simp [wpOpsS, go_sem, hc, hz, hc2, hz2, bodyPostS, results, Try.results34]
theorem catch_idle (p p' : Addr) (w : World) : CallsD Try.prog 34 #[.pointer (some p), .pointer (some p')] .returning w fun e u' w' => e = .returned (.tuple #[]) ∧ u' = .returning ∧ w' = w := by
  have hta : ∀ w : World, (Instr.typeAssert .nilIface 20 25 true).run Try.prog w = .ok (.tuple #[.int .i64 0, .bool false]) w := fun _ => by kernel_rfl
  refine callsD_of_wpS Try.func34 rfl fun c₀ cs hu => ?_
  apply wpS_seq
  apply wpS_region
  simp [wpOpsS, go_sem, recoverD, hu, Try.ntmps34, Exit.thenS, hta]
  apply wpS_seq
  apply wpS_region
  simp [wpOpsS, go_sem, Exit.thenS]
  refine wpS_cond (t := false) (by simp [Act.eval, Array.replicate]) ?_
  simp only [Bool.false_eq_true, if_false]
  refine wpS_of_wp (wp_skip ?_)
  cases c₀
  simp_all [bodyPostS, results, Try.results34]
theorem four (w : World) (a b c d : Obj) : ∃ W, W = (((w.alloc a).alloc b).alloc c).alloc d ∧ Below w.heap.size w W ∧ W.heap[w.heap.size]? = some a ∧ W.heap[w.heap.size + 1]? = some b ∧ W.heap[w.heap.size + 1 + 1]? = some c ∧ W.heap[w.heap.size + 1 + 1 + 1]? = some d := by
  refine ⟨_, rfl, below_alloc (below_alloc (below_alloc (below_alloc (Below.refl _ _) _) _) _) _, ?_⟩
  have o1 := fun (w : World) (o : Obj) (k : Nat) (h : k < w.heap.size) => (Go.MapKept.heap_alloc w o).2 k h
  refine ⟨?_, ?_, ?_, ?_⟩
  · rw [o1 _ _ _ (by simp; omega), o1 _ _ _ (by simp; omega), o1 _ _ _ (by simp), (Go.MapKept.heap_alloc w a).1]
  · rw [o1 _ _ _ (by simp), o1 _ _ _ (by simp)]
    simpa using (Go.MapKept.heap_alloc (w.alloc a) b).1
  · rw [o1 _ _ _ (by simp)]
    simpa using (Go.MapKept.heap_alloc ((w.alloc a).alloc b) c).1
  · simpa using (Go.MapKept.heap_alloc (((w.alloc a).alloc b).alloc c) d).1
def evalF (q : Ask) (x : Ex) : Int × Int := if mayE x = true then (match valF q x with | some v => (v, 0) | none => (0, 10)) else (0, 1)
theorem eval_cells {w w1 : World} {g h : Nat} {a b : Int} (k2 : w1.heap[g]? = some (.cells #[.int .i64 a] 2 (0, 0))) (k3 : w1.heap[h]? = some (.cells #[.int .i64 b] 25 (0, 0))) (hB : Below w.heap.size w w1) (hg : w.heap.size ≤ g) (hh : w.heap.size ≤ h) (x y : Int) :
    ((w1.setCell ⟨g, 0, none⟩ (.int .i64 x)).setCell ⟨h, 0, none⟩ (.int .i64 y)).cell? ⟨g, 0, none⟩ = some (.int .i64 x) ∧ ((w1.setCell ⟨g, 0, none⟩ (.int .i64 x)).setCell ⟨h, 0, none⟩ (.int .i64 y)).cell? ⟨h, 0, none⟩ = some (.int .i64 y) ∧ Below w.heap.size w ((w1.setCell ⟨g, 0, none⟩ (.int .i64 x)).setCell ⟨h, 0, none⟩ (.int .i64 y)) := by
  have hne : g ≠ h := blk_ne k2 k3 (by decide)
  have m2 := blk_set k2 0 (.int .i64 x)
  have m3 : (w1.setCell ⟨g, 0, none⟩ (.int .i64 x)).heap[h]? = some (.cells #[.int .i64 b] 25 (0, 0)) := (Below.heap_setCell w1 ⟨g, 0, none⟩ _ h (fun e => hne e.symm)).trans k3
  have n3 := blk_set m3 0 (.int .i64 y)
  have n2 : ((w1.setCell ⟨g, 0, none⟩ (.int .i64 x)).setCell ⟨h, 0, none⟩ (.int .i64 y)).heap[g]? = some (.cells (#[Value.int .i64 a].setIfInBounds 0 (.int .i64 x)) 2 (0, 0)) := (Below.heap_setCell _ ⟨h, 0, none⟩ _ g hne).trans m2
  exact ⟨(blk_cell n2 0).trans rfl, (blk_cell n3 0).trans rfl, (hB.setCell hg _).setCell hh _⟩
set_option maxHeartbeats 4000000 in
theorem eval_calls (q : Ask) (x : Ex) (v : Value) (w : World) (hv : ExV w x v) :
    Calls Try.prog 23 #[v, .agg #[.int .i64 q.key, .int .i64 q.val, .int .i64 q.time], .int .i64 q.acc] w fun e w' => e = .returned (.tuple #[.int .i64 (evalF q x).1, .int .i64 (evalF q x).2]) ∧ Below w.heap.size w w' := by
  have hmf : ∀ (fn : Fn) (first cap : Array Value) (w : World), (Instr.makeFunc fn first cap).run Try.prog w = .ok (.func fn first cap) w := fun _ _ _ _ => rfl
  have hM := fun W (hW : Below w.heap.size w W) => May_calls x v W (hv.below hW)
  have hVl := fun h W (hW : Below w.heap.size w W) => value_any q x h v W (hv.below hW)
  obtain ⟨A, c, rfl, _⟩ := hv.out
  obtain ⟨W, hW, hB, r0, r1, r2, r3⟩ := four w (.cells #[.int .i64 x.op, .int .i64 x.n, .slice A x.kids.length c] 31) (.cells #[.int .i64 q.key, .int .i64 q.val, .int .i64 q.time] 36) (.cells #[.int .i64 0] 2) (.cells #[.int .i64 0] 25)
  have hsz : W.heap.size = w.heap.size + 4 := by rw [hW]; simp
  replace hM := hM W hB
  have HW := Lib.hid hW
  cases hm : mayE x with
  | false =>
    rw [hm] at hM
    rw [show evalF q x = (0, 1) from by unfold evalF; rw [hm]; rfl]
    clear hVl hW hm hv
    go_enter_defers Try.func23, Try.ntmps23
    go_wp2_with fail
    rw [← HW.out]
    refine hM.mono ?_
    rintro e w1 ⟨rfl, hB1⟩
    have k2 := (hB1.block (w.heap.size + 1 + 1) (by omega)).trans r2
    have k3 := (hB1.block (w.heap.size + 1 + 1 + 1) (by omega)).trans r3
    have g2 : w1.cell? ⟨w.heap.size + 1 + 1, 0, none⟩ = some (.int .i64 0) := (blk_cell k2 0).trans rfl
    have g3 : w1.cell? ⟨w.heap.size + 1 + 1 + 1, 0, none⟩ = some (.int .i64 0) := (blk_cell k3 0).trans rfl
    have f2 := blk_frozen k2 0
    have f3 := blk_frozen k3 0
    have HB := Lib.hid (below_then hB hB.size hB1)
    have HK := Lib.hid (And.intro k2 k3)
    clear hB hB1 r0 r1 r2 r3 hM k2 k3
    go_wp2_with fail
    obtain ⟨z1, z2, z3⟩ := eval_cells HK.out.1 HK.out.2 HB.out (by omega) (by omega) 0 1
    simp [bodyPostD, Leaves, results, Try.results23, go_sem, z1, z2]
    exact z3
  | true =>
    rw [hm] at hM
    replace hVl := hVl hm
    cases hva : valF q x with
    | some n =>
      simp only [hva, endV] at hVl
      rw [show evalF q x = (n, 0) from by unfold evalF; rw [hm, hva]; rfl]
      clear hW hm hv hva
      go_enter_defers Try.func23, Try.ntmps23
      go_wp2_with fail
      rw [← HW.out]
      refine hM.mono ?_
      rintro e w1 ⟨rfl, hB1⟩
      have k0 := (hB1.block w.heap.size (by omega)).trans r0
      have k1 := (hB1.block (w.heap.size + 1) (by omega)).trans r1
      have k2 := (hB1.block (w.heap.size + 1 + 1) (by omega)).trans r2
      have k3 := (hB1.block (w.heap.size + 1 + 1 + 1) (by omega)).trans r3
      have g0 : w1.cell? ⟨w.heap.size, 0, none⟩ = some (.int .i64 x.op) := (blk_cell k0 0).trans rfl
      have g0' : w1.cell? ⟨w.heap.size, 1, none⟩ = some (.int .i64 x.n) := (blk_cell k0 1).trans rfl
      have g0'' : w1.cell? ⟨w.heap.size, 2, none⟩ = some (.slice A x.kids.length c) := (blk_cell k0 2).trans rfl
      have g1 : w1.cell? ⟨w.heap.size + 1, 0, none⟩ = some (.int .i64 q.key) := (blk_cell k1 0).trans rfl
      have g1' : w1.cell? ⟨w.heap.size + 1, 1, none⟩ = some (.int .i64 q.val) := (blk_cell k1 1).trans rfl
      have g1'' : w1.cell? ⟨w.heap.size + 1, 2, none⟩ = some (.int .i64 q.time) := (blk_cell k1 2).trans rfl
      have hB2 := below_then hB hB.size hB1
      have hV := hVl w1 hB2
      have HB := Lib.hid hB2
      have HK := Lib.hid (And.intro k2 k3)
      have hs1 : w.heap.size + 1 + 1 + 1 < w1.heap.size := by have := hB1.size; omega
      clear hB hB1 r0 r1 r2 r3 hM k0 k1 k2 k3 hB2 hVl
      unfold askV at hV
      go_wp2_with fail
      refine hV.mono ?_
      rintro e w2 ⟨rfl, hB2⟩
      have k2 := (hB2.block (w.heap.size + 1 + 1) (by omega)).trans HK.out.1
      have k3 := (hB2.block (w.heap.size + 1 + 1 + 1) (by omega)).trans HK.out.2
      have g2 : w2.cell? ⟨w.heap.size + 1 + 1, 0, none⟩ = some (.int .i64 0) := (blk_cell k2 0).trans rfl
      have g3 : w2.cell? ⟨w.heap.size + 1 + 1 + 1, 0, none⟩ = some (.int .i64 0) := (blk_cell k3 0).trans rfl
      have f2 := blk_frozen k2 0
      have f3 := blk_frozen k3 0
      have HB := Lib.hid (below_then HB.out HB.out.size hB2)
      have HK := Lib.hid (And.intro k2 k3)
      clear hB2 hV k2 k3
      go_wp2_with fail
      obtain ⟨z1, z2, z3⟩ := eval_cells HK.out.1 HK.out.2 HB.out (by omega) (by omega) n 0
      refine leaves_cons (f := 34) (args := #[.pointer (some ⟨w.heap.size + 1 + 1, 0, none⟩), .pointer (some ⟨w.heap.size + 1 + 1 + 1, 0, none⟩)]) (by simp) (by simp [go_sem]) ?_
      refine (catch_idle _ _ _).mono ?_
      rintro e u' w'' ⟨rfl, rfl, rfl⟩
      simp [Leaves, settle, results, Try.results23, go_sem, z1, z2]
      exact z3
    | none =>
      simp only [hva, endV] at hVl
      rw [show evalF q x = (0, 10) from by unfold evalF; rw [hm, hva]; rfl]
      clear hW hm hv hva
      go_enter_defers Try.func23, Try.ntmps23
      go_wp2_with fail
      rw [← HW.out]
      refine hM.mono ?_
      rintro e w1 ⟨rfl, hB1⟩
      have k0 := (hB1.block w.heap.size (by omega)).trans r0
      have k1 := (hB1.block (w.heap.size + 1) (by omega)).trans r1
      have k2 := (hB1.block (w.heap.size + 1 + 1) (by omega)).trans r2
      have k3 := (hB1.block (w.heap.size + 1 + 1 + 1) (by omega)).trans r3
      have g0 : w1.cell? ⟨w.heap.size, 0, none⟩ = some (.int .i64 x.op) := (blk_cell k0 0).trans rfl
      have g0' : w1.cell? ⟨w.heap.size, 1, none⟩ = some (.int .i64 x.n) := (blk_cell k0 1).trans rfl
      have g0'' : w1.cell? ⟨w.heap.size, 2, none⟩ = some (.slice A x.kids.length c) := (blk_cell k0 2).trans rfl
      have g1 : w1.cell? ⟨w.heap.size + 1, 0, none⟩ = some (.int .i64 q.key) := (blk_cell k1 0).trans rfl
      have g1' : w1.cell? ⟨w.heap.size + 1, 1, none⟩ = some (.int .i64 q.val) := (blk_cell k1 1).trans rfl
      have g1'' : w1.cell? ⟨w.heap.size + 1, 2, none⟩ = some (.int .i64 q.time) := (blk_cell k1 2).trans rfl
      have hB2 := below_then hB hB.size hB1
      have hV := hVl w1 hB2
      have HB := Lib.hid hB2
      have HK := Lib.hid (And.intro k2 k3)
      have hs1 : w.heap.size + 1 + 1 + 1 < w1.heap.size := by have := hB1.size; omega
      clear hB hB1 r0 r1 r2 r3 hM k0 k1 k2 k3 hB2 hVl
      unfold askV at hV
      go_wp2_with fail
      refine hV.mono ?_
      rintro e w2 ⟨rfl, hB2⟩
      have k2 := (hB2.block (w.heap.size + 1 + 1) (by omega)).trans HK.out.1
      have k3 := (hB2.block (w.heap.size + 1 + 1 + 1) (by omega)).trans HK.out.2
      have g2 : w2.cell? ⟨w.heap.size + 1 + 1, 0, none⟩ = some (.int .i64 0) := (blk_cell k2 0).trans rfl
      have g3 : w2.cell? ⟨w.heap.size + 1 + 1 + 1, 0, none⟩ = some (.int .i64 0) := (blk_cell k3 0).trans rfl
      have f2 := blk_frozen k2 0
      have f3 := blk_frozen k3 0
      have HB := Lib.hid (below_then HB.out HB.out.size hB2)
      have HK := Lib.hid (And.intro k2 k3)
      clear hB2 hV k2 k3
      obtain ⟨z1, z2, z3⟩ := eval_cells HK.out.1 HK.out.2 HB.out (by omega) (by omega) 0 10
      refine leaves_cons (f := 34) (args := #[.pointer (some ⟨w.heap.size + 1 + 1, 0, none⟩), .pointer (some ⟨w.heap.size + 1 + 1 + 1, 0, none⟩)]) (by simp) (by simp [go_sem]) ?_
      refine (catch_panicking _ _ 0 0 _ g2 f2 g3 f3 (by simp)).mono ?_
      rintro e u' w'' ⟨rfl, rfl, rfl⟩
      simp [Leaves, settle, results, Try.results23, go_sem, z1, z2]
      exact z3
end Go.Proofs.Ytanhibhcmfmeeaa.Ex

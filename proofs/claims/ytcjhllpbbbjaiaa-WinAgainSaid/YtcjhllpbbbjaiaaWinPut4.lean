import Derived.Test.YtcjhllpbbbjaiaaWinPut3
/- Put: what is put. -/
namespace Go.Proofs.Ytcjhllpbbbjaiaa.Win
open Go.RowKit Go.Maps Go.Proofs.YtcjhllpbbbjaiaaW.PrintWords Go.Proofs.Ytcjhllpbbbjaiaa.Cut
theorem zrow_facts {W : World} {i : Nat} (h : W.heap[i]? = some (.cells #[.int .i64 0, .int .i64 0, .int .i64 0, .int .i64 0, .bool false] 30 (0, 0))) :
    W.cell? ⟨i, 0, none⟩ = some (.int .i64 0) ∧ W.cell? ⟨i, 1, none⟩ = some (.int .i64 0) ∧ W.cell? ⟨i, 2, none⟩ = some (.int .i64 0) ∧ W.cell? ⟨i, 3, none⟩ = some (.int .i64 0) ∧ W.cell? ⟨i, 4, none⟩ = some (.bool false) ∧
    W.frozen? ⟨i, 0, none⟩ = false ∧ W.frozen? ⟨i, 1, none⟩ = false ∧ W.frozen? ⟨i, 2, none⟩ = false ∧ W.frozen? ⟨i, 3, none⟩ = false ∧ W.frozen? ⟨i, 4, none⟩ = false ∧ i < W.heap.size :=
  ⟨(blk_cell h 0).trans rfl, (blk_cell h 1).trans rfl, (blk_cell h 2).trans rfl, (blk_cell h 3).trans rfl, (blk_cell h 4).trans rfl, blk_frozen h 0, blk_frozen h 1, blk_frozen h 2, blk_frozen h 3, blk_frozen h 4, (Array.getElem?_eq_some_iff.1 h).1⟩
theorem cell_lt {w : World} {a : Addr} {v : Value} (h : w.cell? a = some v) : a.block < w.heap.size := by
  unfold World.cell? at h
  by_cases hl : a.block < w.heap.size
  · exact hl
  · rw [Array.getElem?_eq_none (by omega)] at h
    simp at h
theorem Own.lt {w : World} {s : Nat} {room size : Int} {b : Nat} {m : St} (h : Own w s room size b m) : s < w.heap.size ∧ b < w.heap.size ∧ s ≠ b := by
  obtain ⟨D, hD, _⟩ := h.map
  refine ⟨(Array.getElem?_eq_some_iff.1 h.row).1, hD.lt, fun e => ?_⟩
  obtain ⟨es, clock, hb, _⟩ := hD
  rw [← e, h.row] at hb
  cases hb
theorem World.grownBy.set {w W : World} {row : Option Nat} (h : w.grownBy W row) {i : Nat} (hp : w.heap.size ≤ i) (j : Nat) (u : Value) : w.grownBy (W.setCell ⟨i, j, none⟩ u) row :=
  ⟨h.os, h.tape, h.output, by have := h.size; simpa [World.setCell] using this, fun k hk hne => (Below.heap_setCell W ⟨i, j, none⟩ u k (by simp only; omega)).trans (h.block k hk hne)⟩
theorem Own.setCell {w : World} {s : Nat} {room size : Int} {b : Nat} {m : St} (h : Own w s room size b m) {i : Nat} (h1 : s ≠ i) (h2 : b ≠ i) (j : Nat) (u : Value) : Own (w.setCell ⟨i, j, none⟩ u) s room size b m :=
  h.kept (row := some i) ⟨rfl, rfl, rfl, by simp [World.setCell], fun k _ hne => Below.heap_setCell w ⟨i, j, none⟩ u k (fun e => hne (by rw [e]))⟩ (by simpa using h1) (by simpa using h2)
set_option maxHeartbeats 4000000 in
theorem put_ok {w : World} {s : Nat} {room size : Int} {b : Nat} {m : St} (h : Own w s room size b m) (key time val : Int) (hk : W64 key) (hv : W64 val) (hw : W64 (startF size time)) (hf : 0 ≤ startF size time) (hm : look m (startF size time, key) = none → (m.length : Int) < room) :
    Calls Try.prog 10 #[.pointer (some ⟨s, 0, none⟩), .int .i64 key, .int .i64 time, .int .i64 val] w fun e w' => e = .returned (.tuple #[chg size (startF size time, key) val false, .int .i64 0]) ∧ Own w' s room size b (put (startF size time, key) val m) ∧ w.grownBy w' (some b) := by
  have hst := start_calls (h.kept (World.grownBy_alloc w (.cells #[.int .i64 0, .int .i64 0, .int .i64 0, .int .i64 0, .bool false] 30) none) (by simp) (by simp)) time
  have hd := put_head h (startF size time) key
  have hfb : startF size time ≤ 1099511627776 := startF_le h.rng.2.2.1
  have hid := startF_idem h.rng.2.2.1 hf
  generalize startF size time = f at hf hst hm hd hw hfb hid ⊢
  obtain ⟨hs0, hb0, hsb⟩ := h.lt
  have hfit : ((put (f, key) val m).length : Int) ≤ room := by
    rw [put_len _ _ h.sorted]
    split
    · exact h.fits
    · rename_i hn
      have := hm (by cases hq : look m (f, key) <;> simp_all)
      omega
  clear h
  have nf : ¬ f < 0 := by omega
  cases hlk0 : look m (f, key)
  all_goals
    go_enter Try.func10, Try.ntmps10
    go_upto_region 6 with (go_at_call 12; refine hst.mono ?_; rintro e w' ⟨rfl, rfl⟩)
    generalize (w.alloc (.cells #[.int .i64 0, .int .i64 0, .int .i64 0, .int .i64 0, .bool false] 30)).alloc (.cells #[.int .i64 f, .int .i64 key] 54) = W at hd ⊢
    obtain ⟨hO, hg, hrow, d0, d1⟩ := hd
    obtain ⟨c0, c1, c2⟩ := hO.cells
    have hlk := fun n => (hO.drewN n).lookup (p := (f, key)) ⟨hw, hk⟩
    rw [hlk0] at hlk
    simp only [val2, mkP, Option.getD_none, Option.isSome_none, Option.getD_some, Option.isSome_some] at hlk
    obtain ⟨D, hD, hA⟩ := hO.map
    have hln := fun n ty => World.ownsMap.len (w := W.drewN n) hD Try.underlying50 ty
    rw [hA.2.1] at hln
    try have t1 : decide (room ≤ (m.length : Int)) = false := decide_eq_false (by have := hm hlk0; omega)
    have HO := Lib.hid hO
    clear hD hA hO hst hlk0
    go_quiet (fail)
    rename Nat => n1
    go_wp2_with fail
    go_quiet (fail)
    go_wp2_with fail
    have HO2 : Own ((W.drewN n1).drewN nq) s room size b m := (HO.out.drewN n1).drewN nq
    have HG2 : w.grownBy ((W.drewN n1).drewN nq) none := grown_drewN (grown_drewN hg _) _
    have HR2 : ((W.drewN n1).drewN nq).heap[w.heap.size]? = some (.cells #[.int .i64 0, .int .i64 0, .int .i64 0, .int .i64 0, .bool false] 30 (0, 0)) := hrow
    have D0 : ((W.drewN n1).drewN nq).cell? ⟨w.heap.size + 1, 0, none⟩ = some (.int .i64 f) := d0
    have D1 : ((W.drewN n1).drewN nq).cell? ⟨w.heap.size + 1, 1, none⟩ = some (.int .i64 key) := d1
    clear hlk hln d0 d1 c0 c1 c2 hrow hg HO
    generalize (W.drewN n1).drewN nq = X at *
    clear n1 W
    obtain ⟨w2, hrun, hO3, hg3⟩ := Own.store (HO2.drewN 1) (p := (f, key)) ⟨hw, hk⟩ ⟨hf, hid⟩ val hv hfit
    obtain ⟨c0, c1, c2⟩ := HO2.cells
    go_still_tail 6, (by kernel_rfl)
    change wpList _ _ _ _ _ (X.drewN 1)
    have hrow3 : w2.heap[w.heap.size]? = some (.cells #[.int .i64 0, .int .i64 0, .int .i64 0, .int .i64 0, .bool false] 30 (0, 0)) := (hg3.block _ (Array.getElem?_eq_some_iff.1 HR2).1 (by intro e; have := Option.some.inj e; omega)).trans HR2
    have hcell := fun j u (hu : X.cell? ⟨w.heap.size + 1, j, none⟩ = some u) => show w2.cell? ⟨w.heap.size + 1, j, none⟩ = some u from
      (World.cell?_of_block (hg3.block (w.heap.size + 1) (cell_lt hu) (by intro e; have := Option.some.inj e; omega))).trans hu
    have e0 := hcell _ _ D0
    have e1 := hcell _ _ D1
    have hch := change_calls hO3 (f, key) ⟨hf, hfb⟩
    have HO3 := Lib.hid (And.intro hO3 ((HG2.but (some b)).trans (⟨hg3.os, hg3.tape, hg3.output, hg3.size, hg3.block⟩ : X.grownBy w2 (some b))))
    simp only [val2, mkP] at hrun
    simp only [chg] at hch ⊢
    clear hid hO3 hg3 HO2 HG2 HR2 D0 D1 hcell hm hfit
    go_wp2_with (go_at_call 18; refine hch.mono ?_; rintro e w4 ⟨rfl, hg4⟩; have hrow4 := (hg4.block _ (Array.getElem?_eq_some_iff.1 hrow3).1 (by simp)).trans hrow3; obtain ⟨z0, z1, z2, z3, z4, y0, y1, y2, y3, y4, ylt⟩ := zrow_facts hrow4)
    have HG4 := Lib.hid hg4
    clear hrun hch hg4
    refine bodyPost_ret (results_ct rfl _ _ w.heap.size 30 #[.int .i64 key, .int .i64 f, .int .i64 (f + size), .int .i64 val, .bool false] (0, 0) _ rfl ?hp Try.underlying30 rfl (by kernel_rfl)) rfl ?_
    case hp =>
      refine ((MapKept.heap_alloc _ _).2 _ (by simpa using ylt)).trans ((blk_put (blk_put (blk_put (blk_put (blk_put hrow4 0 _ rfl) 1 _ rfl) 2 _ rfl) 3 _ rfl) 4 _ rfl).trans ?_)
      simp
    · have n1 : s ≠ w.heap.size := by omega
      have n2 : b ≠ w.heap.size := by omega
      refine ⟨rfl, ?_, ?_⟩
      · exact (((((((HO3.out.1.kept HG4.out (by simp) (by simp)).setCell n1 n2 _ _).setCell n1 n2 _ _).setCell n1 n2 _ _).setCell n1 n2 _ _).setCell n1 n2 _ _).kept (World.grownBy_alloc _ _ none) (by simp) (by simp))
      · have g4 := HO3.out.2.trans (HG4.out.but (some b))
        refine World.grownBy.trans ?_ (World.grownBy_alloc _ _ _)
        repeat (first | exact g4 | refine World.grownBy.set ?_ (Nat.le_refl _) _ _)
end Go.Proofs.Ytcjhllpbbbjaiaa.Win

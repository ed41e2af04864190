import Derived.Test.YtcjhllpbbbjaiaaWinStore
import Derived.Test.YtcjhllpbbbjaiaaCut
import Derived.Deep.DeepCutAuto
import Derived.Deep.CutBlock
import Derived.OwnWalk
import Derived.StillTailTactics
import Derived.RegionTactic
import Derived.BigRegion
/- Get, and the change of a place. -/
namespace Go.Proofs.Ytcjhllpbbbjaiaa.Win
open Go.RowKit Go.Maps Go.Proofs.YtcjhllpbbbjaiaaW.PrintWords Go.Proofs.Ytcjhllpbbbjaiaa.Cut
theorem grown_drew {a b : World} {row : Option Nat} (h : a.grownBy b row) : a.grownBy b.drew row := ⟨h.os, h.tape, h.output, h.size, h.block⟩
theorem Own.drewN {w : World} {s : Nat} {room size : Int} {b : Nat} {m : St} (h : Own w s room size b m) (n : Nat) : Own (w.drewN n) s room size b m := ⟨h.row, h.map, h.sorted, h.wf, h.rng, h.fits⟩
/-- Other blocks were written, new ones made. -/
theorem Own.kept {w w' : World} {s : Nat} {room size : Int} {b : Nat} {m : St} (h : Own w s room size b m) {row : Option Nat} (hg : w.grownBy w' row) (h1 : some s ≠ row) (h2 : some b ≠ row) : Own w' s room size b m := by
  obtain ⟨D, hD, hA⟩ := h.map
  have hs : s < w.heap.size := (Array.getElem?_eq_some_iff.1 h.row).1
  exact ⟨(hg.block s hs h1).trans h.row, ⟨D, hD.kept hg h2, hA⟩, h.sorted, h.wf, h.rng, h.fits⟩
theorem Own.lookup {w : World} {s : Nat} {room size : Int} {b : Nat} {m : St} (h : Own w s room size b m) {p : P2} (hp : W2 p) :
    (Instr.lookup 50 (.map (some b)) (val2 p) true).run Try.prog w = .ok (.tuple #[.int .i64 ((look m p).getD 0), .bool (look m p).isSome]) w := by
  obtain ⟨D, hD, hA⟩ := h.map
  obtain ⟨v, ps, hrun, hv⟩ := hD.look_ok keyedP Try.underlying50 (z := .int .i64 0) (by kernel_rfl) (plainElem_int Try.underlying2 (by decide)) (keyOf_2 hp)
  obtain ⟨c, rfl, hc, _⟩ := plainElem_int_inv Try.underlying2 hv
  have h1 : D.atKey (kl2 p) (.lit (.int .i64 0)) = .lit (.int .i64 c) := congrArg Prod.fst hc
  rw [(hA.2.2 p hp).1] at h1
  rw [(hA.2.2 p hp).2] at hrun
  have h2 : (look m p).getD 0 = c := by injection h1 with h1; injection h1
  rw [h2]; exact hrun
set_option maxHeartbeats 1000000 in
theorem get_calls {w : World} {s : Nat} {room size : Int} {b : Nat} {m : St} (h : Own w s room size b m) (key time : Int) (hk : W64 key) (ht : W64 (startF size time)) :
    Calls Try.prog 11 #[.pointer (some ⟨s, 0, none⟩), .int .i64 key, .int .i64 time] w fun e w' => e = .returned (.tuple #[.int .i64 ((look m (startF size time, key)).getD 0), .bool (look m (startF size time, key)).isSome]) ∧ ∃ q, w' = w.drewN q := by
  have hlen := len_calls h
  by_cases h0 : m = []
  · subst h0
    go_enter Try.func11, Try.ntmps11
    go_wp2_with (go_at_call 17; refine hlen.mono ?_; rintro e w' ⟨rfl, rfl⟩)
    go_ret2
    exact ⟨rfl, 0, rfl⟩
  · have hl : (m.length : Int) ≠ 0 := by
      cases m with
      | nil => exact absurd rfl h0
      | cons x r => simp; omega
    have hst := fun n => start_calls (h.drewN n) time
    have hlk := fun n => (h.drewN n).lookup (p := (startF size time, key)) ⟨ht, hk⟩
    obtain ⟨c0, c1, c2⟩ := h.cells
    generalize startF size time = f at hst hlk ⊢
    simp only [val2, mkP] at hlk
    generalize look m (f, key) = lk at hlk ⊢
    have b1 : ((m.length : Int) == 0) = false := beq_eq_false_iff_ne.2 hl
    clear h h0
    go_enter Try.func11, Try.ntmps11
    go_wp2_with (go_at_call 17; refine hlen.mono ?_; rintro e w' ⟨rfl, rfl⟩)
    go_quiet (first | (go_at_call 12; refine Calls.quiet_of_same (hst _)))
    go_wp2
    go_ret2
    exact ⟨rfl, _, rfl⟩
set_option maxHeartbeats 1000000 in
theorem get_nil (key time : Int) (w : World) : Calls Try.prog 11 #[.pointer none, .int .i64 key, .int .i64 time] w fun e w' => e = .returned (.tuple #[.int .i64 0, .bool false]) ∧ w' = w := by
  have hl := len_nil w
  go_enter Try.func11, Try.ntmps11
  go_wp2_with (go_at_call 17; refine hl.mono ?_; rintro e w' ⟨rfl, rfl⟩)
  go_ret2
  exact ⟨rfl, rfl⟩
def chg (size : Int) (p : P2) (v : Int) (d : Bool) : Value := .agg #[.int .i64 p.2, .int .i64 p.1, .int .i64 (p.1 + size), .int .i64 v, .bool d]
set_option maxHeartbeats 1000000 in
/-- The change of a place: new blocks alone. -/
theorem change_calls {w : World} {s : Nat} {room size : Int} {b : Nat} {m : St} (h : Own w s room size b m) (p : P2) (hp : 0 ≤ p.1 ∧ p.1 ≤ 1099511627776) :
    Calls Try.prog 18 #[.pointer (some ⟨s, 0, none⟩), .agg #[.int .i64 p.1, .int .i64 p.2]] w fun e w' => e = .returned (chg size p 0 false) ∧ w.grownBy w' none := by
  obtain ⟨f, key⟩ := p
  have hr := h.rng
  have hw : wrap64 (f + size) = f + size := by simp only at hp; unfold wrap64; omega
  have hs : s < w.heap.size := (Array.getElem?_eq_some_iff.1 h.row).1
  have hs1 : s ≠ w.heap.size := by omega
  obtain ⟨c0, c1, c2⟩ := h.cells
  unfold chg
  simp only at hp ⊢
  clear h
  go_enter Try.func18, Try.ntmps18
  go_wp2
  go_region
  go_wp2
  have hV : ((w.alloc (.cells #[.int .i64 f, .int .i64 key] 54)).alloc (.cells #[.int .i64 key, .int .i64 f, .int .i64 (f + size), .int .i64 0, .bool false] 30)).heap[w.heap.size + 1]? = some (.cells #[.int .i64 key, .int .i64 f, .int .i64 (f + size), .int .i64 0, .bool false] 30 (0, 0)) := by
    have h := (MapKept.heap_alloc (w.alloc (.cells #[.int .i64 f, .int .i64 key] 54)) (.cells #[.int .i64 key, .int .i64 f, .int .i64 (f + size), .int .i64 0, .bool false] 30)).1
    simpa using h
  refine bodyPost_ret (results_cell_row rfl _ _ (w.heap.size + 1) 30 #[.int .i64 key, .int .i64 f, .int .i64 (f + size), .int .i64 0, .bool false] (0, 0) _ rfl hV Try.underlying30 rfl (by kernel_rfl)) rfl ?_
  exact ⟨rfl, grown_drew ((World.grownBy_alloc _ _ _).trans (World.grownBy_alloc _ _ _))⟩
end Go.Proofs.Ytcjhllpbbbjaiaa.Win

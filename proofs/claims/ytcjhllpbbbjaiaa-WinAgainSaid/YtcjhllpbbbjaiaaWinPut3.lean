import Derived.Test.YtcjhllpbbbjaiaaWinPut2
/- Put: what is put. -/
namespace Go.Proofs.Ytcjhllpbbbjaiaa.Win
open Go.RowKit Go.Maps Go.Proofs.YtcjhllpbbbjaiaaW.PrintWords Go.Proofs.Ytcjhllpbbbjaiaa.Cut
/-- The store of a value: what the operation does, in any world that draws have made of W. -/
theorem Own.store {w : World} {s : Nat} {room size : Int} {b : Nat} {m : St} (h : Own w s room size b m) {p : P2} (hp : W2 p) (hp2 : 0 ≤ p.1 ∧ startF size p.1 = p.1) (v : Int) (hv : W64 v) (hfit : ((put p v m).length : Int) ≤ room) :
    ∃ w2, (Instr.mapUpdate 50 (.map (some b)) (val2 p) (.int .i64 v)).run Try.prog w = .ok () w2 ∧ Own w2 s room size b (put p v m) ∧ w.grownBy w2 (some b) := by
  obtain ⟨D, hD, hA⟩ := h.map
  have hr := h.rng
  have hfi := h.fits
  obtain ⟨w2, hrun, hD2, hg⟩ := hD.update keyedP Try.underlying50 (by unfold maxLen; omega) (keyOf_2 hp) (plainElem_int Try.underlying2 hv)
  have hA2 := hA.put h.sorted hp v
  refine ⟨w2, hrun, ⟨?_, ⟨_, ?_, hA2⟩, sorted_put p v h.sorted, ?_, hr, hfit⟩, hg⟩
  · have hs : s < w.heap.size := (Array.getElem?_eq_some_iff.1 h.row).1
    refine (hg.block s hs ?_).trans h.row
    intro e
    have e := Option.some.inj e
    obtain ⟨es, clock, hb, _⟩ := hD
    rw [← e, h.row] at hb
    cases hb
  · have hsz := hA2.2.1
    obtain ⟨es, clock, hb, F, _, hDe⟩ := hD2
    refine ⟨es, clock, hb, F, ?_, hDe⟩
    rw [hDe] at hsz
    rw [← hsz, Maps.size_eq, length_sorted]
    simp
  · intro x hx
    rcases mem_put hx with rfl | hx
    · exact ⟨hp, hv, hp2⟩
    · exact h.wf x hx
end Go.Proofs.Ytcjhllpbbbjaiaa.Win

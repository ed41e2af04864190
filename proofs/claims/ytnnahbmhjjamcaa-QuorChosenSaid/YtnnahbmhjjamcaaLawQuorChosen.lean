/- QuorChosen answers true for all numbers and cells, in whatever memory. No condition beyond the row's own reach. -/
import Derived.Test.YtnnahbmhjjamcaaRows
import Derived.Test.YtnnahbmhjjamcaaOpen
import Derived.Test.YtnnahbmhjjamcaaQCho
import Derived.WalkKit
import Derived.ProofKit
import Derived.OpenShut
import Derived.ShutString
import Derived.ChangeOld
import Derived.Below
import Derived.SizedLaws
import Derived.Carry
namespace Go.Proofs.Ytnnahbmhjjamcaa.quorChosen
open Go.ChangeShapes Go.WideShapes Go.ChangeAt Go.RowKit Go.Proofs.Ytnnahbmhjjamcaa.Open Go.Proofs.YtnnahbmhjjamcaaW.PrintWords Go.Proofs.Ytnnahbmhjjamcaa.Quor
open Go.ChangeMaps (open_string shut_string)
theorem own : ownKnob Try.prog.godebug = none := by kernel_rfl
theorem laidOut : laidOutB Try.prog = true := by kernel_rfl
theorem opensCell : Opens Try.prog 28 KC (fun x => (Lit.int .i64 x.1).wf = true ∧ (Lit.int .i64 x.2.1).wf = true ∧ (x.2.2.length * 1 ≤ 140737488351232 ∧ ∀ a ∈ x.2.2, (Lit.int .u8 a).wf = true)) :=
  opens_struct Try.underlying28 (by kernel_rfl) (opens_cons rfl (by kernel_rfl) (opens_int Try.underlying3) (opens_cons rfl (by kernel_rfl) (opens_int Try.underlying3) (opens_last rfl (by kernel_rfl) (opens_slice Try.underlying26 (by kernel_rfl) (by kernel_rfl) (opens_int Try.underlying5) (bytes := 1)))))
theorem KC_open {w : World} {x : C3} {cs : List Value} (h : KC.K w x cs) : ∃ A c, cs = [.int .i64 x.1, .int .i64 x.2.1, .slice A x.2.2.length c] ∧ x.2.2.length ≤ c ∧ (Kd.int .u8).C w A x.2.2.length x.2.2 := by
  obtain ⟨_, _, rfl, rfl, ⟨_, _, rfl, rfl, ⟨A2, c2, rfl, l2, g2⟩⟩⟩ := h
  exact ⟨A2, c2, rfl, l2, g2⟩
set_option maxRecDepth 100000 in
theorem lifted (os : Os) (started : os.Started) (H : Type) (enc : TypeId × Value → H) :
    ReturnsInHanded {} Try.checked os 6 .any (Rows.quorChosenSpec.pre6 enc Try.prog Try.f6 Rows.quorChosenRow.domain false) (Rows.quorChosenSpec.post enc Try.prog Try.f6 false true false false) := by
  refine returnsInHanded_of_change_sized (C := Try.checked) own started (by kernel_rfl) Try.func6
    (ChangeSpec.witness6 (enc := enc) (C := Try.checked) false ⟨#[], #[.int .u8 0, .int .u8 0, .agg #[.int .i64 0, .int .i64 0, .slice none 0 0], .agg #[.int .i64 0, .int .i64 0, .slice none 0 0]], []⟩ 8 (by kernel_rfl) (by kernel_rfl) (by kernel_rfl) (by kernel_rfl)) ?_
  intro W base args ds gs before hval0 hW hcnd hsz0 _
  have hsz : (DataW.weightsEach Try.prog (Try.f6.params.toList ++ Rows.quorChosenSpec.plain.varTypes Try.prog) (ds ++ gs)).all (· ≤ reachBytes) = true := hsz0
  have hval : ∀ (j : Nat) t v, Try.f6.params[j]? = some t → args[j]? = some v → Value.okWide Try.prog W .any base t v := hval0
  have hW' := hW
  obtain ⟨p, q, hA0, hV, rfl, hfz, hnd⟩ := hW
  have hA : DataW.TrodAll enc Try.prog W 0 (fun _ => true) true Try.f6.params.toList args.toList ds p := hA0
  rw [Try.params6] at hA hval hsz
  obtain ⟨v0, vs0, d0, ds0, p0, q0, hargs, rfl, rfl, h0, r0⟩ := trodAll_cons hA
  obtain ⟨v1, vs1, d1, ds1, p1, q1, rfl, rfl, rfl, h1, r1⟩ := trodAll_cons r0
  obtain ⟨v2, vs2, d2, ds2, p2, q2, rfl, rfl, rfl, h2, r2⟩ := trodAll_cons r1
  obtain ⟨v3, vs3, d3, ds3, p3, q3, rfl, rfl, rfl, h3, r3⟩ := trodAll_cons r2
  obtain ⟨rfl, rfl, rfl⟩ := trodAll_nil r3
  obtain rfl : args = #[v0, v1, v2, v3] := by cases args; simp_all
  obtain ⟨rfl, rfl⟩ := trodVars_none hV
  obtain ⟨a0, rfl, rfl, rfl, B0⟩ := open_int Try.underlying5 (hval 0 5 v0 rfl rfl) h0
  obtain ⟨a1, rfl, rfl, rfl, B1⟩ := open_int Try.underlying5 (hval 1 5 v1 rfl rfl) h1
  have k2 := h2
  have lt2 : ∀ x ∈ p2, x.block < W.heap.size := by obtain ⟨m, hm⟩ := k2; exact DataW.trod_lt m _ _ _ hm
  obtain ⟨⟨cs2⟩, rfl, _⟩ := okWide_struct Try.underlying28 (hval 2 28 v2 rfl rfl)
  obtain ⟨x2, hx2, B2⟩ := Opens.at_ opensCell hsz (j := 2) (t := 28) rfl rfl h2
  obtain ⟨A2, c2, rfl, hl2, K2⟩ := KC_open (show _ from hx2)
  have k3 := h3
  have lt3 : ∀ x ∈ p3, x.block < W.heap.size := by obtain ⟨m, hm⟩ := k3; exact DataW.trod_lt m _ _ _ hm
  obtain ⟨⟨cs3⟩, rfl, _⟩ := okWide_struct Try.underlying28 (hval 3 28 v3 rfl rfl)
  obtain ⟨x3, hx3, B3⟩ := Opens.at_ opensCell hsz (j := 3) (t := 28) rfl rfl h3
  obtain ⟨A3, c3, rfl, hl3, K3⟩ := KC_open (show _ from hx3)
  clear hA0 hval0 hsz0 hsz
  refine (chosenLaw_walk a0 a1 (wf_u8 B0).1 (wf_u8 B0).2 (wf_u8 B1).1 (wf_u8 B1).2 ⟨x2.1, x2.2.1, x2.2.2, A2, c2⟩ ⟨x3.1, x3.2.1, x3.2.2, A3, c3⟩ W ⟨⟨hl2, K2⟩, B2.1, by have := B2.2.2.1; show x2.2.2.length ≤ 140737488355328; omega⟩ ⟨⟨hl3, K3⟩, B3.1, by have := B3.2.2.1; show x3.2.2.length ≤ 140737488355328; omega⟩).mono fun e W' ⟨he, bel⟩ => ?_
  subst he
  exact ⟨_, rfl, _, _, _, [], _, [], hW', trodAll_mk1 (shut_bool Try.underlying4 _), (trodAll_cons_mk (shut_int Try.underlying5 B0) (trodAll_cons_mk (shut_int Try.underlying5 B1) (trodAll_cons_mk (Below.trod laidOut (by kernel_rfl) (of_decide_eq_true (by kernel_rfl)) k2 bel lt2) (trodAll_cons_mk (Below.trod laidOut (by kernel_rfl) (of_decide_eq_true (by kernel_rfl)) k3 bel lt3) trodAll_mk0)))), rfl, bel.frame _, fun h => by cases h⟩
theorem over : Rows.quorChosenRow.holds Try.pinned (OpenSpec.ofChange Rows.quorChosenSpec) :=
  OpenClaim.holds_of_wide 6 Try.f6 rfl rfl rfl rfl rfl rfl rfl ⟨rfl, rfl, rfl, rfl, rfl⟩ rfl rfl rfl rfl rfl (by kernel_rfl) Try.func6 (by kernel_rfl)
    (of_decide_eq_true (by kernel_rfl)) (by unfold Func.isWrapper; first | (rw [if_pos (by decide +kernel)]; kernel_rfl) | (rw [if_neg (by decide +kernel)]; exact ⟨rfl, rfl⟩))
    (fun os started H enc _ => lifted os started H enc)
theorem proved : Rows.QuorChosenSaid := over
#print axioms proved
end Go.Proofs.Ytnnahbmhjjamcaa.quorChosen
namespace Go.Proofs.Ytnnahbmhjjamcaa
/-- The row, under a short name, for the claim. -/
theorem quorChosen_holds : Rows.QuorChosenSaid := quorChosen.proved
end Go.Proofs.Ytnnahbmhjjamcaa

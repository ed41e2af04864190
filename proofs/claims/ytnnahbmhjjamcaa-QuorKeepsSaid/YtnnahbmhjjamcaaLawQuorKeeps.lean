/- QuorKeeps answers true for every number, cell, list of others' cells and list of bools, in whatever memory. No condition beyond the row's own reach. -/
import Derived.Test.YtnnahbmhjjamcaaRows
import Derived.Test.YtnnahbmhjjamcaaOpen
import Derived.Test.YtnnahbmhjjamcaaQKeep
import Derived.WalkKit
import Derived.ProofKit
import Derived.OpenShut
import Derived.ShutString
import Derived.ChangeOld
import Derived.Below
import Derived.SizedLaws
import Derived.Carry
namespace Go.Proofs.Ytnnahbmhjjamcaa.quorKeeps
open Go.ChangeShapes Go.WideShapes Go.ChangeAt Go.RowKit Go.Proofs.Ytnnahbmhjjamcaa.Open Go.Proofs.YtnnahbmhjjamcaaW.PrintWords Go.Proofs.Ytnnahbmhjjamcaa.Quor
open Go.ChangeMaps (open_string shut_string)
theorem own : ownKnob Try.prog.godebug = none := by kernel_rfl
theorem laidOut : laidOutB Try.prog = true := by kernel_rfl
theorem opensCell : Opens Try.prog 28 KC (fun x => (Lit.int .i64 x.1).wf = true ∧ (Lit.int .i64 x.2.1).wf = true ∧ (x.2.2.length * 1 ≤ 140737488351232 ∧ ∀ a ∈ x.2.2, (Lit.int .u8 a).wf = true)) :=
  opens_struct Try.underlying28 (by kernel_rfl) (opens_cons rfl (by kernel_rfl) (opens_int Try.underlying3) (opens_cons rfl (by kernel_rfl) (opens_int Try.underlying3) (opens_last rfl (by kernel_rfl) (opens_slice Try.underlying26 (by kernel_rfl) (by kernel_rfl) (opens_int Try.underlying5) (bytes := 1)))))
theorem KC_open {w : World} {x : C3} {cs : List Value} (h : KC.K w x cs) : ∃ A c, cs = [.int .i64 x.1, .int .i64 x.2.1, .slice A x.2.2.length c] ∧ x.2.2.length ≤ c ∧ (Kd.int .u8).C w A x.2.2.length x.2.2 := by
  obtain ⟨_, _, rfl, rfl, ⟨_, _, rfl, rfl, ⟨A2, c2, rfl, l2, g2⟩⟩⟩ := h
  exact ⟨A2, c2, rfl, l2, g2⟩
set_option maxRecDepth 100000 in
theorem lifted (os : Os) (started : os.Started) (H : Type) (enc : TypeId × Value → H) :
    ReturnsInHanded {} Try.checked os 4 .any (Rows.quorKeepsSpec.pre6 enc Try.prog Try.f4 Rows.quorKeepsRow.domain false) (Rows.quorKeepsSpec.post enc Try.prog Try.f4 false true false false) := by
  refine returnsInHanded_of_change_sized (C := Try.checked) own started (by kernel_rfl) Try.func4
    (ChangeSpec.witness6 (enc := enc) (C := Try.checked) false ⟨#[], #[.int .u8 0, .agg #[.int .i64 0, .int .i64 0, .slice none 0 0], .slice none 0 0, .slice none 0 0], []⟩ 8 (by kernel_rfl) (by kernel_rfl) (by kernel_rfl) (by kernel_rfl)) ?_
  intro W base args ds gs before hval0 hW hcnd hsz0 _
  have hsz : (DataW.weightsEach Try.prog (Try.f4.params.toList ++ Rows.quorKeepsSpec.plain.varTypes Try.prog) (ds ++ gs)).all (· ≤ reachBytes) = true := hsz0
  have hval : ∀ (j : Nat) t v, Try.f4.params[j]? = some t → args[j]? = some v → Value.okWide Try.prog W .any base t v := hval0
  have hW' := hW
  obtain ⟨p, q, hA0, hV, rfl, hfz, hnd⟩ := hW
  have hA : DataW.TrodAll enc Try.prog W 0 (fun _ => true) true Try.f4.params.toList args.toList ds p := hA0
  rw [Try.params4] at hA hval hsz
  obtain ⟨v0, vs0, d0, ds0, p0, q0, hargs, rfl, rfl, h0, r0⟩ := trodAll_cons hA
  obtain ⟨v1, vs1, d1, ds1, p1, q1, rfl, rfl, rfl, h1, r1⟩ := trodAll_cons r0
  obtain ⟨v2, vs2, d2, ds2, p2, q2, rfl, rfl, rfl, h2, r2⟩ := trodAll_cons r1
  obtain ⟨v3, vs3, d3, ds3, p3, q3, rfl, rfl, rfl, h3, r3⟩ := trodAll_cons r2
  obtain ⟨rfl, rfl, rfl⟩ := trodAll_nil r3
  obtain rfl : args = #[v0, v1, v2, v3] := by cases args; simp_all
  obtain ⟨rfl, rfl⟩ := trodVars_none hV
  obtain ⟨a0, rfl, rfl, rfl, B0⟩ := open_int Try.underlying5 (hval 0 5 v0 rfl rfl) h0
  have k1 := h1
  have lt1 : ∀ x ∈ p1, x.block < W.heap.size := by obtain ⟨m, hm⟩ := k1; exact DataW.trod_lt m _ _ _ hm
  obtain ⟨⟨cs1⟩, rfl, _⟩ := okWide_struct Try.underlying28 (hval 1 28 v1 rfl rfl)
  obtain ⟨x1, hx1, B1⟩ := Opens.at_ opensCell hsz (j := 1) (t := 28) rfl rfl h1
  obtain ⟨A1, c1, rfl, hl1, K1⟩ := KC_open (show _ from hx1)
  have k2 := h2
  have lt2 : ∀ x ∈ p2, x.block < W.heap.size := by obtain ⟨m, hm⟩ := k2; exact DataW.trod_lt m _ _ _ hm
  obtain ⟨b2, len2, cap2, rfl⟩ := okWide_slice Try.underlying29 (hval 2 29 v2 rfl rfl)
  obtain ⟨x2, ⟨A2, c2, hx2, hl2, K2⟩, B2⟩ := Opens.at_ (opens_slice Try.underlying29 (by kernel_rfl) (by kernel_rfl) (opens_slice Try.underlying31 (by kernel_rfl) (by kernel_rfl) opensCell (bytes := 40)) (bytes := 24)) hsz (j := 2) (t := 29) rfl rfl h2
  obtain ⟨rfl, rfl, rfl⟩ : b2 = A2 ∧ len2 = x2.length ∧ cap2 = c2 := by simpa [Value.cells] using hx2
  have k3 := h3
  have lt3 : ∀ x ∈ p3, x.block < W.heap.size := by obtain ⟨m, hm⟩ := k3; exact DataW.trod_lt m _ _ _ hm
  obtain ⟨b3, len3, cap3, rfl⟩ := okWide_slice Try.underlying30 (hval 3 30 v3 rfl rfl)
  obtain ⟨x3, ⟨A3, c3, hx3, hl3, K3⟩, B3⟩ := Opens.at_ (opens_slice Try.underlying30 (by kernel_rfl) (by kernel_rfl) (opens_bool Try.underlying4) (bytes := 1)) hsz (j := 3) (t := 30) rfl rfl h3
  obtain ⟨rfl, rfl, rfl⟩ : b3 = A3 ∧ len3 = x3.length ∧ cap3 = c3 := by simpa [Value.cells] using hx3
  clear hA0 hval0 hsz0 hsz
  refine (keeps_walk a0 (wf_u8 B0).1 (wf_u8 B0).2 ⟨x1.1, x1.2.1, x1.2.2, A1, c1⟩ x2 _ _ x3 _ _ W ⟨⟨hl1, K1⟩, B1.1, by have := B1.2.2.1; show x1.2.2.length ≤ 140737488355328; omega⟩ K2 (fun l hl x hx => ⟨((B2.2 l hl).2 x hx).1, by have := ((B2.2 l hl).2 x hx).2.2.1; omega⟩) K3).mono fun e W' ⟨he, bel⟩ => ?_
  subst he
  exact ⟨_, rfl, _, _, _, [], _, [], hW', trodAll_mk1 (shut_bool Try.underlying4 _), (trodAll_cons_mk (shut_int Try.underlying5 B0) (trodAll_cons_mk (Below.trod laidOut (by kernel_rfl) (of_decide_eq_true (by kernel_rfl)) k1 bel lt1) (trodAll_cons_mk (Below.trod laidOut (by kernel_rfl) (of_decide_eq_true (by kernel_rfl)) k2 bel lt2) (trodAll_cons_mk (Below.trod laidOut (by kernel_rfl) (of_decide_eq_true (by kernel_rfl)) k3 bel lt3) trodAll_mk0)))), rfl, bel.frame _, fun h => by cases h⟩
theorem over : Rows.quorKeepsRow.holds Try.pinned (OpenSpec.ofChange Rows.quorKeepsSpec) :=
  OpenClaim.holds_of_wide 4 Try.f4 rfl rfl rfl rfl rfl rfl rfl ⟨rfl, rfl, rfl, rfl, rfl⟩ rfl rfl rfl rfl rfl (by kernel_rfl) Try.func4 (by kernel_rfl)
    (of_decide_eq_true (by kernel_rfl)) (by unfold Func.isWrapper; first | (rw [if_pos (by decide +kernel)]; kernel_rfl) | (rw [if_neg (by decide +kernel)]; exact ⟨rfl, rfl⟩))
    (fun os started H enc _ => lifted os started H enc)
theorem proved : Rows.QuorKeepsSaid := over
#print axioms proved
end Go.Proofs.Ytnnahbmhjjamcaa.quorKeeps
namespace Go.Proofs.Ytnnahbmhjjamcaa
/-- The row, under a short name, for the claim. -/
theorem quorKeeps_holds : Rows.QuorKeepsSaid := quorKeeps.proved
end Go.Proofs.Ytnnahbmhjjamcaa

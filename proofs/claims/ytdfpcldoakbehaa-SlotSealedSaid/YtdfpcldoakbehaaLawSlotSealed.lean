/- SlotSealed answers true for every list of deeds, in whatever memory. No condition beyond the row's own reach. -/
import Derived.Test.YtdfpcldoakbehaaRows
import Derived.Test.YtdfpcldoakbehaaOpen
import Derived.Test.YtdfpcldoakbehaaSSld
import Derived.WalkKit
import Derived.ProofKit
import Derived.OpenShut
import Derived.ShutString
import Derived.ChangeOld
import Derived.Below
import Derived.SizedLaws
import Derived.Carry
namespace Go.Proofs.Ytdfpcldoakbehaa.slotSealed
open Go.ChangeShapes Go.WideShapes Go.ChangeAt Go.RowKit Go.Proofs.Ytdfpcldoakbehaa.Open Go.Proofs.YtdfpcldoakbehaaW.PrintWords Go.Proofs.Ytdfpcldoakbehaa.Slot
open Go.ChangeMaps (open_string shut_string)
theorem own : ownKnob Try.prog.godebug = none := by kernel_rfl
theorem laidOut : laidOutB Try.prog = true := by kernel_rfl
set_option maxRecDepth 100000 in
theorem opensDeed : Opens Try.prog 46 deedK (fun x => (Lit.int .i64 x.1).wf = true ∧ (Lit.int .i64 x.2.1).wf = true ∧ (Lit.int .i64 x.2.2.1).wf = true ∧ (Lit.int .i64 x.2.2.2.1).wf = true ∧ (Lit.int .i64 x.2.2.2.2.1).wf = true ∧ (x.2.2.2.2.2.length * 1 ≤ 140737488351232 ∧ ∀ a ∈ x.2.2.2.2.2, (Lit.int .u8 a).wf = true)) :=
  opens_struct Try.underlying46 (by kernel_rfl) (opens_cons rfl (by kernel_rfl) (opens_int Try.underlying3) (opens_cons rfl (by kernel_rfl) (opens_int Try.underlying3) (opens_cons rfl (by kernel_rfl) (opens_int Try.underlying3) (opens_cons rfl (by kernel_rfl) (opens_int Try.underlying3) (opens_cons rfl (by kernel_rfl) (opens_int Try.underlying3) (opens_last rfl (by kernel_rfl) (opens_slice Try.underlying23 (by kernel_rfl) (by kernel_rfl) (opens_int Try.underlying5) (bytes := 1))))))))
set_option maxRecDepth 100000 in
theorem lifted (os : Os) (started : os.Started) (H : Type) (enc : TypeId × Value → H) :
    ReturnsInHanded {} Try.checked os 5 .any (Rows.slotSealedSpec.pre6 enc Try.prog Try.f5 Rows.slotSealedRow.domain false) (Rows.slotSealedSpec.post enc Try.prog Try.f5 false true false false) := by
  refine returnsInHanded_of_change_sized (C := Try.checked) own started (by kernel_rfl) Try.func5
    (ChangeSpec.witness6 (enc := enc) (C := Try.checked) false ⟨#[], #[.slice none 0 0], []⟩ 8 (by kernel_rfl) (by kernel_rfl) (by kernel_rfl) (by kernel_rfl)) ?_
  intro W base args ds gs before hval0 hW hcnd hsz0 _
  have hsz : (DataW.weightsEach Try.prog (Try.f5.params.toList ++ Rows.slotSealedSpec.plain.varTypes Try.prog) (ds ++ gs)).all (· ≤ reachBytes) = true := hsz0
  have hval : ∀ (j : Nat) t v, Try.f5.params[j]? = some t → args[j]? = some v → Value.okWide Try.prog W .any base t v := hval0
  have hW' := hW
  obtain ⟨p, q, hA0, hV, rfl, hfz, hnd⟩ := hW
  have hA : DataW.TrodAll enc Try.prog W 0 (fun _ => true) true Try.f5.params.toList args.toList ds p := hA0
  rw [Try.params5] at hA hval hsz
  obtain ⟨v0, vs0, d0, ds0, p0, q0, hargs, rfl, rfl, h0, r0⟩ := trodAll_cons hA
  obtain ⟨rfl, rfl, rfl⟩ := trodAll_nil r0
  obtain rfl : args = #[v0] := by cases args; simp_all
  obtain ⟨rfl, rfl⟩ := trodVars_none hV
  have k0 := h0
  have lt0 : ∀ x ∈ p0, x.block < W.heap.size := by obtain ⟨m, hm⟩ := k0; exact DataW.trod_lt m _ _ _ hm
  obtain ⟨b0, len0, cap0, rfl⟩ := okWide_slice Try.underlying44 (hval 0 44 v0 rfl rfl)
  obtain ⟨x0, ⟨A0, c0, hx0, hl0, K0⟩, B0⟩ := Opens.at_ (opens_slice Try.underlying44 (by kernel_rfl) (by kernel_rfl) opensDeed (bytes := 64)) hsz (j := 0) (t := 44) rfl rfl h0
  obtain ⟨rfl, rfl, rfl⟩ : b0 = A0 ∧ len0 = x0.length ∧ cap0 = c0 := by simpa [Value.cells] using hx0
  clear hA0 hval0 hsz0 hsz
  refine (sealed_calls _ _ x0 W K0 (fun d hd x hx => wf_u8 ((B0.2 d hd).2.2.2.2.2.2 x hx)) (fun d hd => by have := (B0.2 d hd).2.2.2.2.2.1; omega) (fun d hd => (B0.2 d hd).2.2.1)).mono fun e W' ⟨he, bel⟩ => ?_
  subst he
  exact ⟨_, rfl, _, _, _, [], _, [], hW', trodAll_mk1 (shut_bool Try.underlying4 _), (trodAll_cons_mk (Below.trod laidOut (by kernel_rfl) (of_decide_eq_true (by kernel_rfl)) k0 bel lt0) trodAll_mk0), rfl, bel.frame _, fun h => by cases h⟩
theorem over : Rows.slotSealedRow.holds Try.pinned (OpenSpec.ofChange Rows.slotSealedSpec) :=
  OpenClaim.holds_of_wide 5 Try.f5 rfl rfl rfl rfl rfl rfl rfl ⟨rfl, rfl, rfl, rfl, rfl⟩ rfl rfl rfl rfl rfl (by kernel_rfl) Try.func5 (by kernel_rfl)
    (of_decide_eq_true (by kernel_rfl)) (by unfold Func.isWrapper; first | (rw [if_pos (by decide +kernel)]; kernel_rfl) | (rw [if_neg (by decide +kernel)]; exact ⟨rfl, rfl⟩))
    (fun os started H enc _ => lifted os started H enc)
theorem proved : Rows.SlotSealedSaid := over
#print axioms proved
end Go.Proofs.Ytdfpcldoakbehaa.slotSealed
namespace Go.Proofs.Ytdfpcldoakbehaa
/-- The row, under a short name, for the claim. -/
theorem slotSealed_holds : Rows.SlotSealedSaid := slotSealed.proved
end Go.Proofs.Ytdfpcldoakbehaa

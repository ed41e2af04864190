/- AsgnGives answers true for every number of tasks, every list of who is alive and every list of who had them, in whatever memory. No condition beyond the row's own reach. -/
import Derived.Test.YtjngkndiokfibaaRows
import Derived.Test.YtjngkndiokfibaaOpen
import Derived.Test.YtjngkndiokfibaaAsgnPureGives
import Derived.WalkKit
import Derived.ProofKit
import Derived.OpenShut
import Derived.ShutString
import Derived.ChangeOld
import Derived.Below
import Derived.SizedLaws
import Derived.Carry
namespace Go.Proofs.Ytjngkndiokfibaa.asgnGives
open Go.ChangeShapes Go.WideShapes Go.ChangeAt Go.RowKit Go.Proofs.Ytjngkndiokfibaa.Open Go.Proofs.YtjngkndiokfibaaW.PrintWords Go.Proofs.Ytjngkndiokfibaa.PAsgnGives
open Go.ChangeMaps (open_string shut_string)
theorem own : ownKnob Try.prog.godebug = none := by kernel_rfl
theorem laidOut : laidOutB Try.prog = true := by kernel_rfl
set_option maxRecDepth 100000 in
theorem lifted (os : Os) (started : os.Started) (H : Type) (enc : TypeId × Value → H) :
    ReturnsInHanded {} Try.checked os 5 .any (Rows.asgnGivesSpec.pre6 enc Try.prog Try.f5 Rows.asgnGivesRow.domain false) (Rows.asgnGivesSpec.post enc Try.prog Try.f5 false true false false) := by
  refine returnsInHanded_of_change_sized (C := Try.checked) own started (by kernel_rfl) Try.func5
    (ChangeSpec.witness6 (enc := enc) (C := Try.checked) false ⟨#[], #[.int .i16 0, .slice none 0 0, .slice none 0 0], []⟩ 8 (by kernel_rfl) (by kernel_rfl) (by kernel_rfl) (by kernel_rfl)) ?_
  intro W base args ds gs before hval0 hW hcnd hsz0 _
  have hsz : (DataW.weightsEach Try.prog (Try.f5.params.toList ++ Rows.asgnGivesSpec.plain.varTypes Try.prog) (ds ++ gs)).all (· ≤ reachBytes) = true := hsz0
  have hval : ∀ (j : Nat) t v, Try.f5.params[j]? = some t → args[j]? = some v → Value.okWide Try.prog W .any base t v := hval0
  have hW' := hW
  obtain ⟨p, q, hA0, hV, rfl, hfz, hnd⟩ := hW
  have hA : DataW.TrodAll enc Try.prog W 0 (fun _ => true) true Try.f5.params.toList args.toList ds p := hA0
  rw [Try.params5] at hA hval hsz
  obtain ⟨v0, vs0, d0, ds0, p0, q0, hargs, rfl, rfl, h0, r0⟩ := trodAll_cons hA
  obtain ⟨v1, vs1, d1, ds1, p1, q1, rfl, rfl, rfl, h1, r1⟩ := trodAll_cons r0
  obtain ⟨v2, vs2, d2, ds2, p2, q2, rfl, rfl, rfl, h2, r2⟩ := trodAll_cons r1
  obtain ⟨rfl, rfl, rfl⟩ := trodAll_nil r2
  obtain rfl : args = #[v0, v1, v2] := by cases args; simp_all
  obtain ⟨rfl, rfl⟩ := trodVars_none hV
  obtain ⟨a0, rfl, rfl, rfl, B0⟩ := open_int Try.underlying43 (hval 0 43 v0 rfl rfl) h0
  have k1 := h1
  have lt1 : ∀ x ∈ p1, x.block < W.heap.size := by obtain ⟨m, hm⟩ := k1; exact DataW.trod_lt m _ _ _ hm
  obtain ⟨b1, len1, cap1, rfl⟩ := okWide_slice Try.underlying25 (hval 1 25 v1 rfl rfl)
  obtain ⟨x1, ⟨A1, c1, hx1, hl1, K1⟩, B1⟩ := Opens.at_ (opens_slice Try.underlying25 (by kernel_rfl) (by kernel_rfl) (opens_bool Try.underlying4) (bytes := 1)) hsz (j := 1) (t := 25) rfl rfl h1
  obtain ⟨rfl, rfl, rfl⟩ : b1 = A1 ∧ len1 = x1.length ∧ cap1 = c1 := by simpa [Value.cells] using hx1
  have k2 := h2
  have lt2 : ∀ x ∈ p2, x.block < W.heap.size := by obtain ⟨m, hm⟩ := k2; exact DataW.trod_lt m _ _ _ hm
  obtain ⟨b2, len2, cap2, rfl⟩ := okWide_slice Try.underlying44 (hval 2 44 v2 rfl rfl)
  obtain ⟨x2, ⟨A2, c2, hx2, hl2, K2⟩, B2⟩ := Opens.at_ (opens_slice Try.underlying44 (by kernel_rfl) (by kernel_rfl) (opens_int Try.underlying3) (bytes := 8)) hsz (j := 2) (t := 44) rfl rfl h2
  obtain ⟨rfl, rfl, rfl⟩ : b2 = A2 ∧ len2 = x2.length ∧ cap2 = c2 := by simpa [Value.cells] using hx2
  clear hA0 hval0 hsz0 hsz
  refine (let h := AsgnPureGives.law a0 x1 x2 (wf_i16 B0).1 (wf_i16 B0).2 B2.1; tidemilllaw22_AsgnGives.calls h.choose a0 _ _ x1 _ _ x2 true W K1 hl1 K2 hl2 h.choose_spec).mono fun e W' ⟨he, bel⟩ => ?_
  subst he
  exact ⟨_, rfl, _, _, _, [], _, [], hW', trodAll_mk1 (shut_bool Try.underlying4 _), (trodAll_cons_mk (shut_int Try.underlying43 B0) (trodAll_cons_mk (Below.trod laidOut (by kernel_rfl) (of_decide_eq_true (by kernel_rfl)) k1 bel lt1) (trodAll_cons_mk (Below.trod laidOut (by kernel_rfl) (of_decide_eq_true (by kernel_rfl)) k2 bel lt2) trodAll_mk0))), rfl, bel.frame _, fun h => by cases h⟩
theorem over : Rows.asgnGivesRow.holds Try.pinned (OpenSpec.ofChange Rows.asgnGivesSpec) :=
  OpenClaim.holds_of_wide 5 Try.f5 rfl rfl rfl rfl rfl rfl rfl ⟨rfl, rfl, rfl, rfl, rfl⟩ rfl rfl rfl rfl rfl (by kernel_rfl) Try.func5 (by kernel_rfl)
    (of_decide_eq_true (by kernel_rfl)) (by unfold Func.isWrapper; first | (rw [if_pos (by decide +kernel)]; kernel_rfl) | (rw [if_neg (by decide +kernel)]; exact ⟨rfl, rfl⟩))
    (fun os started H enc _ => lifted os started H enc)
theorem proved : Rows.AsgnGivesSaid := over
#print axioms proved
end Go.Proofs.Ytjngkndiokfibaa.asgnGives
namespace Go.Proofs.Ytjngkndiokfibaa
/-- The row, under a short name, for the claim. -/
theorem asgnGives_holds : Rows.AsgnGivesSaid := asgnGives.proved
end Go.Proofs.Ytjngkndiokfibaa

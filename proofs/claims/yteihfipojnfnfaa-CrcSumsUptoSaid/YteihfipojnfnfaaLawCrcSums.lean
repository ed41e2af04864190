/- CrcSums answers true for every list of bytes that holds at most 1048576 values (the second form: a row of frames' headers may outgrow what memory bears). -/
import Derived.Test.YteihfipojnfnfaaRows
import Derived.Test.YteihfipojnfnfaaOpen
import Derived.Test.YteihfipojnfnfaaBulk
import Derived.Test.YteihfipojnfnfaaPureSums3
import Derived.WalkKit
import Derived.ProofKit
import Derived.OpenShut
import Derived.ShutString
import Derived.ChangeOld
import Derived.Below
import Derived.SizedLaws
import Derived.Carry
import Derived.JoinedCond
import Derived.Deep.CondSized
namespace Go.Proofs.Yteihfipojnfnfaa.crcSums
open Go.ChangeShapes Go.WideShapes Go.ChangeAt Go.RowKit Go.Proofs.Yteihfipojnfnfaa.Open Go.Proofs.YteihfipojnfnfaaW.PrintWords
open Go.ChangeMaps (open_string shut_string)
theorem own : ownKnob Try.prog.godebug = none := by kernel_rfl
theorem laidOut : laidOutB Try.prog = true := by kernel_rfl
set_option maxRecDepth 100000 in
theorem lifted (os : Os) (started : os.Started) (H : Type) (enc : TypeId × Value → H) (F : Stop.Interp) :
    ReturnsInHanded {} Try.checked os 5 .any ((Rows.OpenSpec.upto Rows.crcSumsSpec).pre6 enc Try.prog Try.f5 Rows.crcSumsUptoRow.domain false) (((Rows.OpenSpec.upto Rows.crcSumsSpec).at F).post enc Try.prog Try.f5 false true false false) := by
  refine returnsInHanded_of_cond_sized (C := Try.checked) (s := (Rows.OpenSpec.upto Rows.crcSumsSpec)) (k := Rows.uptoSmall) rfl own started (by kernel_rfl) Try.func5
    (OpenSpec.witness (enc := enc) (C := Try.checked) (s := (Rows.OpenSpec.upto Rows.crcSumsSpec)) (k := Rows.uptoSmall) rfl false ⟨#[], #[.slice none 0 0], []⟩ 8 (by kernel_rfl) (by kernel_rfl) (by kernel_rfl) (x := ([.nil], [], [])) (by kernel_rfl) rfl (by kernel_rfl)) ?_
  intro W base args ds gs before hval0 hW hcnd hk0 hsz0 _
  have hbulk := Bulk.bound hk0
  have hsz : (DataW.weightsEach Try.prog (Try.f5.params.toList ++ Rows.crcSumsSpec.plain.varTypes Try.prog) (ds ++ gs)).all (· ≤ reachBytes) = true := hsz0
  have hval : ∀ (j : Nat) t v, Try.f5.params[j]? = some t → args[j]? = some v → Value.okWide Try.prog W .any base t v := hval0
  have hW' := hW
  obtain ⟨p, q, hA0, hV, rfl, hfz, hnd⟩ := hW
  have hA : DataW.TrodAll enc Try.prog W 0 (fun _ => true) true Try.f5.params.toList args.toList ds p := hA0
  rw [Try.params5] at hA hval hsz
  obtain ⟨v0, vs0, d0, ds0, p0, q0, hargs, rfl, rfl, h0, r0⟩ := trodAll_cons hA
  obtain ⟨rfl, rfl, rfl⟩ := trodAll_nil r0
  obtain rfl : args = #[v0] := by cases args; simp_all
  obtain ⟨rfl, rfl⟩ := trodVars_none hV
  have k0 := h0
  have lt0 : ∀ x ∈ p0, x.block < W.heap.size := by obtain ⟨m, hm⟩ := k0; exact DataW.trod_lt m _ _ _ hm
  obtain ⟨b0, len0, cap0, rfl⟩ := okWide_slice Try.underlying22 (hval 0 22 v0 rfl rfl)
  obtain ⟨x0, ⟨A0, c0, hx0, hl0, K0⟩, B0⟩ := Opens.at_ (opens_slice Try.underlying22 (by kernel_rfl) (by kernel_rfl) (opens_int Try.underlying5) (bytes := 1)) hsz (j := 0) (t := 22) rfl rfl h0
  obtain ⟨rfl, rfl, rfl⟩ : b0 = A0 ∧ len0 = x0.length ∧ cap0 = c0 := by simpa [Value.cells] using hx0
  have U0 : x0.length ≤ 1048576 := Nat.le_trans (Bulk.len_le Try.underlying22 k0) (Nat.le_trans (Bulk.part_le (by simp)) hbulk)
  clear hA0 hval0 hsz0 hsz
  refine (PCrcSums.sums_all _ _ x0 W K0 hl0 (fun x hx => wf_u8 (B0.2 x hx)) U0).mono fun e W' ⟨he, bel⟩ => ?_
  subst he
  exact ⟨_, rfl, _, _, _, [], _, [], hW', trodAll_mk1 (shut_bool Try.underlying4 _), (trodAll_cons_mk (Below.trod laidOut (by kernel_rfl) (of_decide_eq_true (by kernel_rfl)) k0 bel lt0) trodAll_mk0), rfl, bel.frame _, fun h => by cases h⟩
theorem proved : Rows.CrcSumsUptoSaid :=
  OpenClaim.holds_of_cond 5 Try.f5 rfl rfl rfl rfl rfl rfl rfl ⟨rfl, rfl, rfl, rfl, rfl⟩ rfl rfl rfl rfl rfl (by kernel_rfl) Try.func5 (by kernel_rfl)
    (of_decide_eq_true (by kernel_rfl)) (by unfold Func.isWrapper; first | (rw [if_pos (by decide +kernel)]; kernel_rfl) | (rw [if_neg (by decide +kernel)]; exact ⟨rfl, rfl⟩))
    (fun os started H enc _ F => lifted os started H enc F)
#print axioms proved
end Go.Proofs.Yteihfipojnfnfaa.crcSums
namespace Go.Proofs.Yteihfipojnfnfaa
/-- The row, under a short name, for the claim. -/
theorem crcSums_holds : Rows.CrcSumsUptoSaid := crcSums.proved
end Go.Proofs.Yteihfipojnfnfaa

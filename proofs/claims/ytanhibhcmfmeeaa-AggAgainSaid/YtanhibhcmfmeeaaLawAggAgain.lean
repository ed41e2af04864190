/- AggAgain answers true for every kind, size and list of deeds, in whatever memory. No condition beyond the row's own reach. -/
import Derived.Test.YtanhibhcmfmeeaaRows
import Derived.Test.YtanhibhcmfmeeaaOpen
import Derived.Test.YtanhibhcmfmeeaaAgAg
import Derived.WalkKit
import Derived.ProofKit
import Derived.OpenShut
import Derived.ShutString
import Derived.ChangeOld
import Derived.Below
import Derived.SizedLaws
import Derived.Carry
namespace Go.Proofs.Ytanhibhcmfmeeaa.aggAgain
open Go.ChangeShapes Go.WideShapes Go.ChangeAt Go.RowKit Go.Proofs.Ytanhibhcmfmeeaa.Open Go.Proofs.YtanhibhcmfmeeaaW.PrintWords Go.Proofs.Ytanhibhcmfmeeaa.Ag
open Go.ChangeMaps (open_string shut_string)
theorem own : ownKnob Try.prog.godebug = none := by kernel_rfl
theorem laidOut : laidOutB Try.prog = true := by kernel_rfl
abbrev RecW (x : R3) : Prop := (Lit.int .i64 x.1).wf = true ∧ (Lit.int .i64 x.2.1).wf = true ∧ (Lit.int .i64 x.2.2).wf = true
abbrev ChgW (x : T5) : Prop := (Lit.int .i64 x.1).wf = true ∧ (Lit.int .i64 x.2.1).wf = true ∧ (Lit.int .i64 x.2.2.1).wf = true ∧ (Lit.int .i64 x.2.2.2.1).wf = true ∧ True
set_option maxRecDepth 100000 in
theorem opensRec : Opens Try.prog 36 KRec (fun x => RecW x) :=
  opens_struct Try.underlying36 (by kernel_rfl) (opens_cons rfl (by kernel_rfl) (opens_int Try.underlying2) (opens_cons rfl (by kernel_rfl) (opens_int Try.underlying2) (opens_last rfl (by kernel_rfl) (opens_int Try.underlying2))))
set_option maxRecDepth 100000 in
theorem opensChg : Opens Try.prog 50 K5 (fun x => ChgW x) :=
  opens_struct Try.underlying50 (by kernel_rfl) (opens_cons rfl (by kernel_rfl) (opens_int Try.underlying2) (opens_cons rfl (by kernel_rfl) (opens_int Try.underlying2) (opens_cons rfl (by kernel_rfl) (opens_int Try.underlying2) (opens_cons rfl (by kernel_rfl) (opens_int Try.underlying2) (opens_last rfl (by kernel_rfl) (opens_bool Try.underlying4))))))
set_option maxRecDepth 100000 in
theorem opensDeed : Opens Try.prog 54 KD (fun x => (Lit.int .i64 x.1).wf = true ∧ RecW x.2.1 ∧ (Lit.int .i64 x.2.2.1).wf = true ∧ ChgW x.2.2.2) :=
  opens_struct Try.underlying54 (by kernel_rfl) (opens_cons rfl (by kernel_rfl) (opens_int (k := .i64) Try.underlying3) (opens_cons rfl (by kernel_rfl) (B := fun x => RecW x) opensRec (opens_cons rfl (by kernel_rfl) (opens_int (k := .i64) Try.underlying2) (opens_last rfl (by kernel_rfl) (B := fun x => ChgW x) opensChg))))
set_option maxRecDepth 100000 in
theorem lifted (os : Os) (started : os.Started) (H : Type) (enc : TypeId × Value → H) :
    ReturnsInHanded {} Try.checked os 7 .any (Rows.aggAgainSpec.pre6 enc Try.prog Try.f7 Rows.aggAgainRow.domain false) (Rows.aggAgainSpec.post enc Try.prog Try.f7 false true false false) := by
  refine returnsInHanded_of_change_sized (C := Try.checked) own started (by kernel_rfl) Try.func7
    (ChangeSpec.witness6 (enc := enc) (C := Try.checked) false ⟨#[], #[.int .u8 0, .int .u8 0, .slice none 0 0], []⟩ 8 (by kernel_rfl) (by kernel_rfl) (by kernel_rfl) (by kernel_rfl)) ?_
  intro W base args ds gs before hval0 hW hcnd hsz0 _
  have hsz : (DataW.weightsEach Try.prog (Try.f7.params.toList ++ Rows.aggAgainSpec.plain.varTypes Try.prog) (ds ++ gs)).all (· ≤ reachBytes) = true := hsz0
  have hval : ∀ (j : Nat) t v, Try.f7.params[j]? = some t → args[j]? = some v → Value.okWide Try.prog W .any base t v := hval0
  have hW' := hW
  obtain ⟨p, q, hA0, hV, rfl, hfz, hnd⟩ := hW
  have hA : DataW.TrodAll enc Try.prog W 0 (fun _ => true) true Try.f7.params.toList args.toList ds p := hA0
  rw [Try.params7] at hA hval hsz
  obtain ⟨v0, vs0, d0, ds0, p0, q0, hargs, rfl, rfl, h0, r0⟩ := trodAll_cons hA
  obtain ⟨v1, vs1, d1, ds1, p1, q1, rfl, rfl, rfl, h1, r1⟩ := trodAll_cons r0
  obtain ⟨v2, vs2, d2, ds2, p2, q2, rfl, rfl, rfl, h2, r2⟩ := trodAll_cons r1
  obtain ⟨rfl, rfl, rfl⟩ := trodAll_nil r2
  obtain rfl : args = #[v0, v1, v2] := by cases args; simp_all
  obtain ⟨rfl, rfl⟩ := trodVars_none hV
  obtain ⟨a0, rfl, rfl, rfl, B0⟩ := open_int Try.underlying5 (hval 0 5 v0 rfl rfl) h0
  obtain ⟨a1, rfl, rfl, rfl, B1⟩ := open_int Try.underlying5 (hval 1 5 v1 rfl rfl) h1
  have k2 := h2
  have lt2 : ∀ x ∈ p2, x.block < W.heap.size := by obtain ⟨m, hm⟩ := k2; exact DataW.trod_lt m _ _ _ hm
  obtain ⟨b2, len2, cap2, rfl⟩ := okWide_slice Try.underlying52 (hval 2 52 v2 rfl rfl)
  obtain ⟨x2, ⟨A2, c2, hx2, hl2, K2⟩, B2⟩ := Opens.at_ (opens_slice Try.underlying52 (by kernel_rfl) (by kernel_rfl) opensDeed (bytes := 80)) hsz (j := 2) (t := 52) rfl rfl h2
  obtain ⟨rfl, rfl, rfl⟩ : b2 = A2 ∧ len2 = x2.length ∧ cap2 = c2 := by simpa [Value.cells] using hx2
  clear hA0 hval0 hsz0 hsz
  refine (again_walk a0 (wf_u8 B0) a1 (wf_u8 B1) _ _ x2 W K2 (fun x hx => ⟨(B2.2 x hx).2.1.1, (B2.2 x hx).2.1.2.1, (B2.2 x hx).2.1.2.2, (B2.2 x hx).2.2.1⟩)).mono fun e W' ⟨he, bel⟩ => ?_
  subst he
  exact ⟨_, rfl, _, _, _, [], _, [], hW', trodAll_mk1 (shut_bool Try.underlying4 _), (trodAll_cons_mk (shut_int Try.underlying5 B0) (trodAll_cons_mk (shut_int Try.underlying5 B1) (trodAll_cons_mk (Below.trod laidOut (by kernel_rfl) (of_decide_eq_true (by kernel_rfl)) k2 bel lt2) trodAll_mk0))), rfl, bel.frame _, fun h => by cases h⟩
theorem over : Rows.aggAgainRow.holds Try.pinned (OpenSpec.ofChange Rows.aggAgainSpec) :=
  OpenClaim.holds_of_wide 7 Try.f7 rfl rfl rfl rfl rfl rfl rfl ⟨rfl, rfl, rfl, rfl, rfl⟩ rfl rfl rfl rfl rfl (by kernel_rfl) Try.func7 (by kernel_rfl)
    (of_decide_eq_true (by kernel_rfl)) (by unfold Func.isWrapper; first | (rw [if_pos (by decide +kernel)]; kernel_rfl) | (rw [if_neg (by decide +kernel)]; exact ⟨rfl, rfl⟩))
    (fun os started H enc _ => lifted os started H enc)
theorem proved : Rows.AggAgainSaid := over
#print axioms proved
end Go.Proofs.Ytanhibhcmfmeeaa.aggAgain
namespace Go.Proofs.Ytanhibhcmfmeeaa
/-- The row, under a short name, for the claim. -/
theorem aggAgain_holds : Rows.AggAgainSaid := aggAgain.proved
end Go.Proofs.Ytanhibhcmfmeeaa

/- WinAgain answers true for every size and every list of deeds, in whatever memory. No condition beyond the row's own reach. -/
import Derived.Test.YtcjhllpbbbjaiaaRows
import Derived.Test.YtcjhllpbbbjaiaaOpen
import Derived.Test.YtcjhllpbbbjaiaaWinAga
import Derived.WalkKit
import Derived.ProofKit
import Derived.OpenShut
import Derived.ShutString
import Derived.ChangeOld
import Derived.Below
import Derived.SizedLaws
import Derived.Carry
namespace Go.Proofs.Ytcjhllpbbbjaiaa.winAgain
open Go.ChangeShapes Go.WideShapes Go.ChangeAt Go.RowKit Go.Proofs.Ytcjhllpbbbjaiaa.Open Go.Proofs.YtcjhllpbbbjaiaaW.PrintWords Go.Proofs.Ytcjhllpbbbjaiaa.Win
open Go.ChangeMaps (open_string shut_string)
theorem own : ownKnob Try.prog.godebug = none := by kernel_rfl
theorem laidOut : laidOutB Try.prog = true := by kernel_rfl
def okC (x : T5) : Prop := (Lit.int .i64 x.1).wf = true ∧ (Lit.int .i64 x.2.1).wf = true ∧ (Lit.int .i64 x.2.2.1).wf = true ∧ (Lit.int .i64 x.2.2.2.1).wf = true ∧ True
theorem opensC0 : Opens Try.prog 30 K5 (fun x => (Lit.int .i64 x.1).wf = true ∧ (Lit.int .i64 x.2.1).wf = true ∧ (Lit.int .i64 x.2.2.1).wf = true ∧ (Lit.int .i64 x.2.2.2.1).wf = true ∧ True) :=
  opens_struct Try.underlying30 (by kernel_rfl) (opens_cons rfl (by kernel_rfl) (opens_int Try.underlying2) (opens_cons rfl (by kernel_rfl) (opens_int Try.underlying2) (opens_cons rfl (by kernel_rfl) (opens_int Try.underlying2) (opens_cons rfl (by kernel_rfl) (opens_int Try.underlying2) (opens_last rfl (by kernel_rfl) (opens_bool Try.underlying4))))))
theorem opensC : Opens Try.prog 30 K5 okC := opensC0
theorem opensDeed : Opens Try.prog 40 K9 (fun x => (Lit.int .i64 x.1).wf = true ∧ (Lit.int .i64 x.2.1).wf = true ∧ (Lit.int .i64 x.2.2.1).wf = true ∧ (Lit.int .i64 x.2.2.2.1).wf = true ∧ okC x.2.2.2.2) :=
  opens_struct Try.underlying40 (by kernel_rfl) (opens_cons rfl (by kernel_rfl) (opens_int Try.underlying3) (opens_cons rfl (by kernel_rfl) (opens_int Try.underlying2) (opens_cons rfl (by kernel_rfl) (opens_int Try.underlying2) (opens_cons rfl (by kernel_rfl) (opens_int Try.underlying2) (opens_last rfl (by kernel_rfl) opensC)))))
set_option maxRecDepth 100000 in
theorem lifted (os : Os) (started : os.Started) (H : Type) (enc : TypeId × Value → H) :
    ReturnsInHanded {} Try.checked os 6 .any (Rows.winAgainSpec.pre6 enc Try.prog Try.f6 Rows.winAgainRow.domain false) (Rows.winAgainSpec.post enc Try.prog Try.f6 false true false false) := by
  refine returnsInHanded_of_change_sized (C := Try.checked) own started (by kernel_rfl) Try.func6
    (ChangeSpec.witness6 (enc := enc) (C := Try.checked) false ⟨#[], #[.int .u16 0, .slice none 0 0], []⟩ 8 (by kernel_rfl) (by kernel_rfl) (by kernel_rfl) (by kernel_rfl)) ?_
  intro W base args ds gs before hval0 hW hcnd hsz0 _
  have hsz : (DataW.weightsEach Try.prog (Try.f6.params.toList ++ Rows.winAgainSpec.plain.varTypes Try.prog) (ds ++ gs)).all (· ≤ reachBytes) = true := hsz0
  have hval : ∀ (j : Nat) t v, Try.f6.params[j]? = some t → args[j]? = some v → Value.okWide Try.prog W .any base t v := hval0
  have hW' := hW
  obtain ⟨p, q, hA0, hV, rfl, hfz, hnd⟩ := hW
  have hA : DataW.TrodAll enc Try.prog W 0 (fun _ => true) true Try.f6.params.toList args.toList ds p := hA0
  rw [Try.params6] at hA hval hsz
  obtain ⟨v0, vs0, d0, ds0, p0, q0, hargs, rfl, rfl, h0, r0⟩ := trodAll_cons hA
  obtain ⟨v1, vs1, d1, ds1, p1, q1, rfl, rfl, rfl, h1, r1⟩ := trodAll_cons r0
  obtain ⟨rfl, rfl, rfl⟩ := trodAll_nil r1
  obtain rfl : args = #[v0, v1] := by cases args; simp_all
  obtain ⟨rfl, rfl⟩ := trodVars_none hV
  obtain ⟨a0, rfl, rfl, rfl, B0⟩ := open_int Try.underlying22 (hval 0 22 v0 rfl rfl) h0
  have k1 := h1
  have lt1 : ∀ x ∈ p1, x.block < W.heap.size := by obtain ⟨m, hm⟩ := k1; exact DataW.trod_lt m _ _ _ hm
  obtain ⟨b1, len1, cap1, rfl⟩ := okWide_slice Try.underlying38 (hval 1 38 v1 rfl rfl)
  obtain ⟨x1, ⟨A1, c1, hx1, hl1, K1⟩, B1⟩ := Opens.at_ (opens_slice Try.underlying38 (by kernel_rfl) (by kernel_rfl) opensDeed (bytes := 72)) hsz (j := 1) (t := 38) rfl rfl h1
  obtain ⟨rfl, rfl, rfl⟩ : b1 = A1 ∧ len1 = x1.length ∧ cap1 = c1 := by simpa [Value.cells] using hx1
  clear hA0 hval0 hsz0 hsz
  refine (again_walk a0 (wf_u16 B0).1 (wf_u16 B0).2 _ _ x1 W K1 (fun x hx => ⟨(B1.2 x hx).2.1, (B1.2 x hx).2.2.2.1⟩)).mono fun e W' ⟨he, bel⟩ => ?_
  subst he
  exact ⟨_, rfl, _, _, _, [], _, [], hW', trodAll_mk1 (shut_bool Try.underlying4 _), (trodAll_cons_mk (shut_int Try.underlying22 B0) (trodAll_cons_mk (Below.trod laidOut (by kernel_rfl) (of_decide_eq_true (by kernel_rfl)) k1 bel lt1) trodAll_mk0)), rfl, bel.frame _, fun h => by cases h⟩
theorem over : Rows.winAgainRow.holds Try.pinned (OpenSpec.ofChange Rows.winAgainSpec) :=
  OpenClaim.holds_of_wide 6 Try.f6 rfl rfl rfl rfl rfl rfl rfl ⟨rfl, rfl, rfl, rfl, rfl⟩ rfl rfl rfl rfl rfl (by kernel_rfl) Try.func6 (by kernel_rfl)
    (of_decide_eq_true (by kernel_rfl)) (by unfold Func.isWrapper; first | (rw [if_pos (by decide +kernel)]; kernel_rfl) | (rw [if_neg (by decide +kernel)]; exact ⟨rfl, rfl⟩))
    (fun os started H enc _ => lifted os started H enc)
theorem proved : Rows.WinAgainSaid := over
#print axioms proved
end Go.Proofs.Ytcjhllpbbbjaiaa.winAgain
namespace Go.Proofs.Ytcjhllpbbbjaiaa
/-- The row, under a short name, for the claim. -/
theorem winAgain_holds : Rows.WinAgainSaid := winAgain.proved
end Go.Proofs.Ytcjhllpbbbjaiaa

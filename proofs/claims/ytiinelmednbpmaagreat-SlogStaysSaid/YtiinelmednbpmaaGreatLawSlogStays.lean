/- SlogStays answers true for every number and every list of deeds, in whatever memory. No condition beyond the row's own reach. -/
import Derived.Test.YtiinelmednbpmaaGreatRows
import Derived.Test.YtiinelmednbpmaaGreatOpen
import Derived.Test.YtiinelmednbpmaaGreatLStays
import Derived.WalkKit
import Derived.ProofKit
import Derived.OpenShut
import Derived.ShutString
import Derived.ChangeOld
import Derived.Below
import Derived.SizedLaws
import Derived.Carry
namespace Go.Proofs.YtiinelmednbpmaaGreat.slogStays
open Go.ChangeShapes Go.WideShapes Go.ChangeAt Go.RowKit Go.Proofs.YtiinelmednbpmaaGreat.Open Go.Proofs.YtiinelmednbpmaaGreatW.PrintWords Go.Proofs.YtiinelmednbpmaaGreat.Slog
open Go.ChangeMaps (open_string shut_string)
theorem own : ownKnob Tryz.prog.godebug = none := by kernel_rfl
theorem laidOut : laidOutB Tryz.prog = true := by kernel_rfl
set_option maxRecDepth 100000 in
theorem opensDeed : Opens Tryz.prog 42 ldeedK (fun x => (Lit.int .i64 x.1).wf = true ∧ (Lit.int .i64 x.2.1).wf = true ∧ (Lit.int .i64 x.2.2.1).wf = true ∧ (Lit.int .i64 x.2.2.2.1).wf = true ∧ (x.2.2.2.2.1.length * 1 ≤ 140737488351232 ∧ ∀ a ∈ x.2.2.2.2.1, (Lit.int .u8 a).wf = true) ∧ (x.2.2.2.2.2.length * 1 ≤ 140737488351232 ∧ ∀ a ∈ x.2.2.2.2.2, True)) :=
  opens_struct Tryz.underlying42 (by kernel_rfl) (opens_cons rfl (by kernel_rfl) (opens_int Tryz.underlying3) (opens_cons rfl (by kernel_rfl) (opens_int Tryz.underlying3) (opens_cons rfl (by kernel_rfl) (opens_int Tryz.underlying3) (opens_cons rfl (by kernel_rfl) (opens_int Tryz.underlying3) (opens_cons rfl (by kernel_rfl) (opens_slice Tryz.underlying32 (by kernel_rfl) (by kernel_rfl) (opens_int Tryz.underlying5) (bytes := 1)) (opens_last rfl (by kernel_rfl) (opens_slice Tryz.underlying23 (by kernel_rfl) (by kernel_rfl) (opens_bool Tryz.underlying4) (bytes := 1))))))))
set_option maxRecDepth 100000 in
theorem lifted (os : Os) (started : os.Started) (H : Type) (enc : TypeId × Value → H) :
    ReturnsInHanded {} Tryz.checked os 6 .any (Rows.slogStaysSpec.pre6 enc Tryz.prog Tryz.f6 Rows.slogStaysRow.domain false) (Rows.slogStaysSpec.post enc Tryz.prog Tryz.f6 false true false false) := by
  refine returnsInHanded_of_change_sized (C := Tryz.checked) own started (by kernel_rfl) Tryz.func6
    (ChangeSpec.witness6 (enc := enc) (C := Tryz.checked) false ⟨#[], #[.int .u8 0, .slice none 0 0], []⟩ 8 (by kernel_rfl) (by kernel_rfl) (by kernel_rfl) (by kernel_rfl)) ?_
  intro W base args ds gs before hval0 hW hcnd hsz0 _
  have hsz : (DataW.weightsEach Tryz.prog (Tryz.f6.params.toList ++ Rows.slogStaysSpec.plain.varTypes Tryz.prog) (ds ++ gs)).all (· ≤ reachBytes) = true := hsz0
  have hval : ∀ (j : Nat) t v, Tryz.f6.params[j]? = some t → args[j]? = some v → Value.okWide Tryz.prog W .any base t v := hval0
  have hW' := hW
  obtain ⟨p, q, hA0, hV, rfl, hfz, hnd⟩ := hW
  have hA : DataW.TrodAll enc Tryz.prog W 0 (fun _ => true) true Tryz.f6.params.toList args.toList ds p := hA0
  rw [Tryz.params6] at hA hval hsz
  obtain ⟨v0, vs0, d0, ds0, p0, q0, hargs, rfl, rfl, h0, r0⟩ := trodAll_cons hA
  obtain ⟨v1, vs1, d1, ds1, p1, q1, rfl, rfl, rfl, h1, r1⟩ := trodAll_cons r0
  obtain ⟨rfl, rfl, rfl⟩ := trodAll_nil r1
  obtain rfl : args = #[v0, v1] := by cases args; simp_all
  obtain ⟨rfl, rfl⟩ := trodVars_none hV
  obtain ⟨a0, rfl, rfl, rfl, B0⟩ := open_int Tryz.underlying5 (hval 0 5 v0 rfl rfl) h0
  have k1 := h1
  have lt1 : ∀ x ∈ p1, x.block < W.heap.size := by obtain ⟨m, hm⟩ := k1; exact DataW.trod_lt m _ _ _ hm
  obtain ⟨b1, len1, cap1, rfl⟩ := okWide_slice Tryz.underlying40 (hval 1 40 v1 rfl rfl)
  obtain ⟨x1, ⟨A1, c1, hx1, hl1, K1⟩, B1⟩ := Opens.at_ (opens_slice Tryz.underlying40 (by kernel_rfl) (by kernel_rfl) opensDeed (bytes := 80)) hsz (j := 1) (t := 40) rfl rfl h1
  obtain ⟨rfl, rfl, rfl⟩ : b1 = A1 ∧ len1 = x1.length ∧ cap1 = c1 := by simpa [Value.cells] using hx1
  clear hA0 hval0 hsz0 hsz
  refine (stays_calls a0 (wf_u8 B0).1 (wf_u8 B0).2 _ _ x1 W K1 (fun d hd x hx => wf_u8 ((B1.2 d hd).2.2.2.2.1.2 x hx)) (fun d hd => by have := (B1.2 d hd).2.2.2.2.1.1; omega)).mono fun e W' ⟨he, bel⟩ => ?_
  subst he
  exact ⟨_, rfl, _, _, _, [], _, [], hW', trodAll_mk1 (shut_bool Tryz.underlying4 _), (trodAll_cons_mk (shut_int Tryz.underlying5 B0) (trodAll_cons_mk (Below.trod laidOut (by kernel_rfl) (of_decide_eq_true (by kernel_rfl)) k1 bel lt1) trodAll_mk0)), rfl, bel.frame _, fun h => by cases h⟩
theorem over : Rows.slogStaysRow.holds Tryz.pinned (OpenSpec.ofChange Rows.slogStaysSpec) :=
  OpenClaim.holds_of_wide 6 Tryz.f6 rfl rfl rfl rfl rfl rfl rfl ⟨rfl, rfl, rfl, rfl, rfl⟩ rfl rfl rfl rfl rfl (by kernel_rfl) Tryz.func6 (by kernel_rfl)
    (of_decide_eq_true (by kernel_rfl)) (by unfold Func.isWrapper; first | (rw [if_pos (by decide +kernel)]; kernel_rfl) | (rw [if_neg (by decide +kernel)]; exact ⟨rfl, rfl⟩))
    (fun os started H enc _ => lifted os started H enc)
theorem proved : Rows.SlogStaysSaid := over
#print axioms proved
end Go.Proofs.YtiinelmednbpmaaGreat.slogStays
namespace Go.Proofs.YtiinelmednbpmaaGreat
/-- The row, under a short name, for the claim. -/
theorem slogStays_holds : Rows.SlogStaysSaid := slogStays.proved
end Go.Proofs.YtiinelmednbpmaaGreat

/- SlogMinor answers true for every number, every list of lists of bytes and every list of bools, in whatever memory. No condition beyond the row's own reach. -/
import Derived.Test.YtiinelmednbpmaaGreatRows
import Derived.Test.YtiinelmednbpmaaGreatOpen
import Derived.Test.YtiinelmednbpmaaGreatLMinor
import Derived.WalkKit
import Derived.ProofKit
import Derived.OpenShut
import Derived.ShutString
import Derived.ChangeOld
import Derived.Below
import Derived.SizedLaws
import Derived.Carry
namespace Go.Proofs.YtiinelmednbpmaaGreat.slogMinor
open Go.ChangeShapes Go.WideShapes Go.ChangeAt Go.RowKit Go.Proofs.YtiinelmednbpmaaGreat.Open Go.Proofs.YtiinelmednbpmaaGreatW.PrintWords Go.Proofs.YtiinelmednbpmaaGreat.Slog
open Go.ChangeMaps (open_string shut_string)
theorem own : ownKnob Tryz.prog.godebug = none := by kernel_rfl
theorem laidOut : laidOutB Tryz.prog = true := by kernel_rfl
set_option maxRecDepth 100000 in
theorem lifted (os : Os) (started : os.Started) (H : Type) (enc : TypeId × Value → H) :
    ReturnsInHanded {} Tryz.checked os 3 .any (Rows.slogMinorSpec.pre6 enc Tryz.prog Tryz.f3 Rows.slogMinorRow.domain false) (Rows.slogMinorSpec.post enc Tryz.prog Tryz.f3 false true false false) := by
  refine returnsInHanded_of_change_sized (C := Tryz.checked) own started (by kernel_rfl) Tryz.func3
    (ChangeSpec.witness6 (enc := enc) (C := Tryz.checked) false ⟨#[], #[.int .u8 0, .slice none 0 0, .slice none 0 0], []⟩ 8 (by kernel_rfl) (by kernel_rfl) (by kernel_rfl) (by kernel_rfl)) ?_
  intro W base args ds gs before hval0 hW hcnd hsz0 _
  have hsz : (DataW.weightsEach Tryz.prog (Tryz.f3.params.toList ++ Rows.slogMinorSpec.plain.varTypes Tryz.prog) (ds ++ gs)).all (· ≤ reachBytes) = true := hsz0
  have hval : ∀ (j : Nat) t v, Tryz.f3.params[j]? = some t → args[j]? = some v → Value.okWide Tryz.prog W .any base t v := hval0
  have hW' := hW
  obtain ⟨p, q, hA0, hV, rfl, hfz, hnd⟩ := hW
  have hA : DataW.TrodAll enc Tryz.prog W 0 (fun _ => true) true Tryz.f3.params.toList args.toList ds p := hA0
  rw [Tryz.params3] at hA hval hsz
  obtain ⟨v0, vs0, d0, ds0, p0, q0, hargs, rfl, rfl, h0, r0⟩ := trodAll_cons hA
  obtain ⟨v1, vs1, d1, ds1, p1, q1, rfl, rfl, rfl, h1, r1⟩ := trodAll_cons r0
  obtain ⟨v2, vs2, d2, ds2, p2, q2, rfl, rfl, rfl, h2, r2⟩ := trodAll_cons r1
  obtain ⟨rfl, rfl, rfl⟩ := trodAll_nil r2
  obtain rfl : args = #[v0, v1, v2] := by cases args; simp_all
  obtain ⟨rfl, rfl⟩ := trodVars_none hV
  obtain ⟨a0, rfl, rfl, rfl, B0⟩ := open_int Tryz.underlying5 (hval 0 5 v0 rfl rfl) h0
  have k1 := h1
  have lt1 : ∀ x ∈ p1, x.block < W.heap.size := by obtain ⟨m, hm⟩ := k1; exact DataW.trod_lt m _ _ _ hm
  obtain ⟨b1, len1, cap1, rfl⟩ := okWide_slice Tryz.underlying22 (hval 1 22 v1 rfl rfl)
  obtain ⟨x1, ⟨A1, c1, hx1, hl1, K1⟩, B1⟩ := Opens.at_ (opens_slice Tryz.underlying22 (by kernel_rfl) (by kernel_rfl) (opens_slice Tryz.underlying32 (by kernel_rfl) (by kernel_rfl) (opens_int Tryz.underlying5) (bytes := 1)) (bytes := 24)) hsz (j := 1) (t := 22) rfl rfl h1
  obtain ⟨rfl, rfl, rfl⟩ : b1 = A1 ∧ len1 = x1.length ∧ cap1 = c1 := by simpa [Value.cells] using hx1
  have k2 := h2
  have lt2 : ∀ x ∈ p2, x.block < W.heap.size := by obtain ⟨m, hm⟩ := k2; exact DataW.trod_lt m _ _ _ hm
  obtain ⟨b2, len2, cap2, rfl⟩ := okWide_slice Tryz.underlying23 (hval 2 23 v2 rfl rfl)
  obtain ⟨x2, ⟨A2, c2, hx2, hl2, K2⟩, B2⟩ := Opens.at_ (opens_slice Tryz.underlying23 (by kernel_rfl) (by kernel_rfl) (opens_bool Tryz.underlying4) (bytes := 1)) hsz (j := 2) (t := 23) rfl rfl h2
  obtain ⟨rfl, rfl, rfl⟩ : b2 = A2 ∧ len2 = x2.length ∧ cap2 = c2 := by simpa [Value.cells] using hx2
  clear hA0 hval0 hsz0 hsz
  refine (minor_calls a0 (wf_u8 B0).1 (wf_u8 B0).2 _ _ x1 _ _ x2 W K1 K2 (fun b hb x hx => wf_u8 ((B1.2 b hb).2 x hx)) (fun b hb => by have := (B1.2 b hb).1; omega)).mono fun e W' ⟨he, bel⟩ => ?_
  subst he
  exact ⟨_, rfl, _, _, _, [], _, [], hW', trodAll_mk1 (shut_bool Tryz.underlying4 _), (trodAll_cons_mk (shut_int Tryz.underlying5 B0) (trodAll_cons_mk (Below.trod laidOut (by kernel_rfl) (of_decide_eq_true (by kernel_rfl)) k1 bel lt1) (trodAll_cons_mk (Below.trod laidOut (by kernel_rfl) (of_decide_eq_true (by kernel_rfl)) k2 bel lt2) trodAll_mk0))), rfl, bel.frame _, fun h => by cases h⟩
theorem over : Rows.slogMinorRow.holds Tryz.pinned (OpenSpec.ofChange Rows.slogMinorSpec) :=
  OpenClaim.holds_of_wide 3 Tryz.f3 rfl rfl rfl rfl rfl rfl rfl ⟨rfl, rfl, rfl, rfl, rfl⟩ rfl rfl rfl rfl rfl (by kernel_rfl) Tryz.func3 (by kernel_rfl)
    (of_decide_eq_true (by kernel_rfl)) (by unfold Func.isWrapper; first | (rw [if_pos (by decide +kernel)]; kernel_rfl) | (rw [if_neg (by decide +kernel)]; exact ⟨rfl, rfl⟩))
    (fun os started H enc _ => lifted os started H enc)
theorem proved : Rows.SlogMinorSaid := over
#print axioms proved
end Go.Proofs.YtiinelmednbpmaaGreat.slogMinor
namespace Go.Proofs.YtiinelmednbpmaaGreat
/-- The row, under a short name, for the claim. -/
theorem slogMinor_holds : Rows.SlogMinorSaid := slogMinor.proved
end Go.Proofs.YtiinelmednbpmaaGreat

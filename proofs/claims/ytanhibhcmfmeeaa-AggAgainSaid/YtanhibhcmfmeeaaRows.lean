/-
  No cell of these rows narrows 'for every input' (looked for: loops, veiled, ifaces, maps, wideKeys, modest, calm, conditions, laid).
  DERIVED. THE GIVEN ROWS OF THIS SEAT. 6 by the template 'for every input the law returns true; each argument reads behind the call as it read before'; 0 by the template 'total and deterministic' (their statements: YtanhibhcmfmeeaaTotals.lean).
  GIVEN WITH THE SEED: the statements are not yours to turn. If you find one false, say at which input.
  Laid BY PROGRAM, IN A SANDBOX (cutbox-rows.mjs): the forced cells as the released guide's own fill.sh prints them over the translation f3c91913c86c4df4… (all of the seat's roots in one cut). By AI agents, Wed Nov 11 2026. No macro, syntax, notation, axiom, sorry.
-/
import Derived.Test.YtanhibhcmfmeeaaChecked
import GoSem.Claim
import GoSem.ClaimJoined
import GoSem.ClaimMapViews
import Derived.JoinedTies
import Derived.KernelRfl
namespace Go.Proofs.Ytanhibhcmfmeeaa
/- THE CELL 'sum', in the pinned program and in every row, IS THE sha256 OF THE DUMP (.gsa) THAT YtanhibhcmfmeeaaProg.lean LOADS. Nothing in Lean hashes anything: it is a label: what it is worth is what the hold of that sum in a sandbox is worth. -/
noncomputable def Try.pinned : Pinned := { name := "ytanhibhcmfmeeaa", sum := "f3c91913c86c4df47cedace150d803a85b4537a49b6b64b044b3925baf119986", checked := Try.checked }
namespace Rows
def none {H : Type} : Left H := { results := [], args := [] }

/-- 'tidemilllaw18.AggSums': WHATEVER THE INPUT: true; the input reads as it did. -/
def aggSumsSpec : ChangeSpec := { name := "aggSums", fn := fun _ => fun
  | [d1, d2] => { results := [.lit (.bool true)], args := [d1, d2] }
  | _ => none }
def aggSumsRow : OpenClaim := { program := "ytanhibhcmfmeeaa", sum := "f3c91913c86c4df47cedace150d803a85b4537a49b6b64b044b3925baf119986", func := "tidemill/tidemilllaw18.AggSums", spec := "aggSums", inPlace := ["slices.overlaps[tidemill/kv.pair]", "slices.overlaps[tidemill/sess.session]"], unfollowed := true, recurses := true, plainKeys := false, apart := false }
def AggSumsSaid : Prop := aggSumsRow.holds Try.pinned (OpenSpec.ofChange aggSumsSpec)

/-- ITS FALSE NEIGHBOUR: 'it returns false'. Refute it at one input. -/
def aggSumsWrong : ChangeSpec := { name := "aggSums", fn := fun _ => fun
  | [d1, d2] => { results := [.lit (.bool false)], args := [d1, d2] }
  | _ => none }
def AggSumsWrongFalsely : Prop := aggSumsRow.holds Try.pinned (OpenSpec.ofChange aggSumsWrong)

/-- 'tidemilllaw18.AggKinds': WHATEVER THE INPUT: true; the input reads as it did. -/
def aggKindsSpec : ChangeSpec := { name := "aggKinds", fn := fun _ => fun
  | [d1, d2, d3, d4, d5, d6] => { results := [.lit (.bool true)], args := [d1, d2, d3, d4, d5, d6] }
  | _ => none }
def aggKindsRow : OpenClaim := { program := "ytanhibhcmfmeeaa", sum := "f3c91913c86c4df47cedace150d803a85b4537a49b6b64b044b3925baf119986", func := "tidemill/tidemilllaw18.AggKinds", spec := "aggKinds", inPlace := ["slices.overlaps[tidemill/kv.pair]", "slices.overlaps[tidemill/sess.session]"], unfollowed := true, recurses := true, plainKeys := false, apart := false }
def AggKindsSaid : Prop := aggKindsRow.holds Try.pinned (OpenSpec.ofChange aggKindsSpec)

/-- ITS FALSE NEIGHBOUR: 'it returns false'. Refute it at one input. -/
def aggKindsWrong : ChangeSpec := { name := "aggKinds", fn := fun _ => fun
  | [d1, d2, d3, d4, d5, d6] => { results := [.lit (.bool false)], args := [d1, d2, d3, d4, d5, d6] }
  | _ => none }
def AggKindsWrongFalsely : Prop := aggKindsRow.holds Try.pinned (OpenSpec.ofChange aggKindsWrong)

/-- 'tidemilllaw18.AggFails': WHATEVER THE INPUT: true; the input reads as it did. -/
def aggFailsSpec : ChangeSpec := { name := "aggFails", fn := fun _ => fun
  | [d1, d2, d3, d4] => { results := [.lit (.bool true)], args := [d1, d2, d3, d4] }
  | _ => none }
def aggFailsRow : OpenClaim := { program := "ytanhibhcmfmeeaa", sum := "f3c91913c86c4df47cedace150d803a85b4537a49b6b64b044b3925baf119986", func := "tidemill/tidemilllaw18.AggFails", spec := "aggFails", inPlace := ["slices.overlaps[tidemill/kv.pair]", "slices.overlaps[tidemill/sess.session]"], unfollowed := true, recurses := true, plainKeys := false, apart := false }
def AggFailsSaid : Prop := aggFailsRow.holds Try.pinned (OpenSpec.ofChange aggFailsSpec)

/-- ITS FALSE NEIGHBOUR: 'it returns false'. Refute it at one input. -/
def aggFailsWrong : ChangeSpec := { name := "aggFails", fn := fun _ => fun
  | [d1, d2, d3, d4] => { results := [.lit (.bool false)], args := [d1, d2, d3, d4] }
  | _ => none }
def AggFailsWrongFalsely : Prop := aggFailsRow.holds Try.pinned (OpenSpec.ofChange aggFailsWrong)

/-- 'tidemilllaw18.AggEnds': WHATEVER THE INPUT: true; the input reads as it did. -/
def aggEndsSpec : ChangeSpec := { name := "aggEnds", fn := fun _ => fun
  | [d1, d2, d3, d4] => { results := [.lit (.bool true)], args := [d1, d2, d3, d4] }
  | _ => none }
def aggEndsRow : OpenClaim := { program := "ytanhibhcmfmeeaa", sum := "f3c91913c86c4df47cedace150d803a85b4537a49b6b64b044b3925baf119986", func := "tidemill/tidemilllaw18.AggEnds", spec := "aggEnds", inPlace := ["slices.overlaps[tidemill/kv.pair]", "slices.overlaps[tidemill/sess.session]"], unfollowed := true, recurses := true, plainKeys := false, apart := false }
def AggEndsSaid : Prop := aggEndsRow.holds Try.pinned (OpenSpec.ofChange aggEndsSpec)

/-- ITS FALSE NEIGHBOUR: 'it returns false'. Refute it at one input. -/
def aggEndsWrong : ChangeSpec := { name := "aggEnds", fn := fun _ => fun
  | [d1, d2, d3, d4] => { results := [.lit (.bool false)], args := [d1, d2, d3, d4] }
  | _ => none }
def AggEndsWrongFalsely : Prop := aggEndsRow.holds Try.pinned (OpenSpec.ofChange aggEndsWrong)

/-- 'tidemilllaw18.AggAgain': WHATEVER THE INPUT: true; the input reads as it did. -/
def aggAgainSpec : ChangeSpec := { name := "aggAgain", fn := fun _ => fun
  | [d1, d2, d3] => { results := [.lit (.bool true)], args := [d1, d2, d3] }
  | _ => none }
def aggAgainRow : OpenClaim := { program := "ytanhibhcmfmeeaa", sum := "f3c91913c86c4df47cedace150d803a85b4537a49b6b64b044b3925baf119986", func := "tidemill/tidemilllaw18.AggAgain", spec := "aggAgain", inPlace := ["slices.overlaps[tidemill/kv.pair]", "slices.overlaps[tidemill/sess.session]"], unfollowed := true, recurses := true, plainKeys := false, apart := false }
def AggAgainSaid : Prop := aggAgainRow.holds Try.pinned (OpenSpec.ofChange aggAgainSpec)

/-- ITS FALSE NEIGHBOUR: 'it returns false'. Refute it at one input. -/
def aggAgainWrong : ChangeSpec := { name := "aggAgain", fn := fun _ => fun
  | [d1, d2, d3] => { results := [.lit (.bool false)], args := [d1, d2, d3] }
  | _ => none }
def AggAgainWrongFalsely : Prop := aggAgainRow.holds Try.pinned (OpenSpec.ofChange aggAgainWrong)

/-- 'tidemilllaw18.AggNobody': WHATEVER THE INPUT: true; the input reads as it did. -/
def aggNobodySpec : ChangeSpec := { name := "aggNobody", fn := fun _ => fun
  | [d1, d2] => { results := [.lit (.bool true)], args := [d1, d2] }
  | _ => none }
def aggNobodyRow : OpenClaim := { program := "ytanhibhcmfmeeaa", sum := "f3c91913c86c4df47cedace150d803a85b4537a49b6b64b044b3925baf119986", func := "tidemill/tidemilllaw18.AggNobody", spec := "aggNobody", inPlace := ["slices.overlaps[tidemill/kv.pair]", "slices.overlaps[tidemill/sess.session]"], unfollowed := true, recurses := true, plainKeys := false, apart := false }
def AggNobodySaid : Prop := aggNobodyRow.holds Try.pinned (OpenSpec.ofChange aggNobodySpec)

/-- ITS FALSE NEIGHBOUR: 'it returns false'. Refute it at one input. -/
def aggNobodyWrong : ChangeSpec := { name := "aggNobody", fn := fun _ => fun
  | [d1, d2] => { results := [.lit (.bool false)], args := [d1, d2] }
  | _ => none }
def AggNobodyWrongFalsely : Prop := aggNobodyRow.holds Try.pinned (OpenSpec.ofChange aggNobodyWrong)

/- THE SECOND FORM. 'bulk': how many values and letters a reading holds, each counted each time it is reached (what is shared counts as often as it is met; a slice's spare places count too). A statement '..UptoSaid' is the law's where the arguments, and the package variables that the reading takes, are together of bulk at most 1048576: NARROWER than '..Said'. Prove '..Said' where nothing that the law and all that it calls make is longer than what came in: it says more and counts as full. Else prove '..UptoSaid'. A law counts once. -/
mutual
def uptoBulk {H : Type} : DataW H → Nat
  | .lit (.string bytes) => bytes.length + 1
  | .lit _ => 1
  | .nil => 1
  | .ptr d => uptoBulk d + 1
  | .slice elems spare => uptoBulkAll elems + uptoBulkAll spare + 1
  | .agg parts => uptoBulkAll parts + 1
  | .iface _ d => uptoBulk d + 1
  | .map entries => uptoBulkEntries entries + 1
  | .held _ => 1
def uptoBulkAll {H : Type} : List (DataW H) → Nat
  | [] => 0
  | d :: r => uptoBulk d + uptoBulkAll r
def uptoBulkEntries {H : Type} : List (Lit × DataW H) → Nat
  | [] => 0
  | x :: r => uptoBulkEntry x + uptoBulkEntries r
def uptoBulkEntry {H : Type} : Lit × DataW H → Nat
  | (.string bytes, d) => bytes.length + uptoBulk d + 1
  | (_, d) => uptoBulk d + 1
 end
def uptoSmall : (H : Type) → List (DataW H) → Bool := fun _ ds => decide (uptoBulkAll ds ≤ 1048576)
def OpenSpec.upto (s : _root_.Go.ChangeSpec) : _root_.Go.OpenSpec := { _root_.Go.OpenSpec.ofChange s with cond := some uptoSmall }

/-- 'tidemilllaw18.AggSums', WHERE WHAT IT READS IS OF BULK AT MOST 1048576: true; the input reads as it did. -/
def aggSumsUptoRow : OpenClaim := { program := "ytanhibhcmfmeeaa", sum := "f3c91913c86c4df47cedace150d803a85b4537a49b6b64b044b3925baf119986", func := "tidemill/tidemilllaw18.AggSums", spec := "aggSums", inPlace := ["slices.overlaps[tidemill/kv.pair]", "slices.overlaps[tidemill/sess.session]"], unfollowed := true, recurses := true, plainKeys := false, apart := false, narrowed := true }
def AggSumsUptoSaid : Prop := aggSumsUptoRow.holds Try.pinned (OpenSpec.upto aggSumsSpec)

/-- 'tidemilllaw18.AggKinds', WHERE WHAT IT READS IS OF BULK AT MOST 1048576: true; the input reads as it did. -/
def aggKindsUptoRow : OpenClaim := { program := "ytanhibhcmfmeeaa", sum := "f3c91913c86c4df47cedace150d803a85b4537a49b6b64b044b3925baf119986", func := "tidemill/tidemilllaw18.AggKinds", spec := "aggKinds", inPlace := ["slices.overlaps[tidemill/kv.pair]", "slices.overlaps[tidemill/sess.session]"], unfollowed := true, recurses := true, plainKeys := false, apart := false, narrowed := true }
def AggKindsUptoSaid : Prop := aggKindsUptoRow.holds Try.pinned (OpenSpec.upto aggKindsSpec)

/-- 'tidemilllaw18.AggFails', WHERE WHAT IT READS IS OF BULK AT MOST 1048576: true; the input reads as it did. -/
def aggFailsUptoRow : OpenClaim := { program := "ytanhibhcmfmeeaa", sum := "f3c91913c86c4df47cedace150d803a85b4537a49b6b64b044b3925baf119986", func := "tidemill/tidemilllaw18.AggFails", spec := "aggFails", inPlace := ["slices.overlaps[tidemill/kv.pair]", "slices.overlaps[tidemill/sess.session]"], unfollowed := true, recurses := true, plainKeys := false, apart := false, narrowed := true }
def AggFailsUptoSaid : Prop := aggFailsUptoRow.holds Try.pinned (OpenSpec.upto aggFailsSpec)

/-- 'tidemilllaw18.AggEnds', WHERE WHAT IT READS IS OF BULK AT MOST 1048576: true; the input reads as it did. -/
def aggEndsUptoRow : OpenClaim := { program := "ytanhibhcmfmeeaa", sum := "f3c91913c86c4df47cedace150d803a85b4537a49b6b64b044b3925baf119986", func := "tidemill/tidemilllaw18.AggEnds", spec := "aggEnds", inPlace := ["slices.overlaps[tidemill/kv.pair]", "slices.overlaps[tidemill/sess.session]"], unfollowed := true, recurses := true, plainKeys := false, apart := false, narrowed := true }
def AggEndsUptoSaid : Prop := aggEndsUptoRow.holds Try.pinned (OpenSpec.upto aggEndsSpec)

/-- 'tidemilllaw18.AggAgain', WHERE WHAT IT READS IS OF BULK AT MOST 1048576: true; the input reads as it did. -/
def aggAgainUptoRow : OpenClaim := { program := "ytanhibhcmfmeeaa", sum := "f3c91913c86c4df47cedace150d803a85b4537a49b6b64b044b3925baf119986", func := "tidemill/tidemilllaw18.AggAgain", spec := "aggAgain", inPlace := ["slices.overlaps[tidemill/kv.pair]", "slices.overlaps[tidemill/sess.session]"], unfollowed := true, recurses := true, plainKeys := false, apart := false, narrowed := true }
def AggAgainUptoSaid : Prop := aggAgainUptoRow.holds Try.pinned (OpenSpec.upto aggAgainSpec)

/-- 'tidemilllaw18.AggNobody', WHERE WHAT IT READS IS OF BULK AT MOST 1048576: true; the input reads as it did. -/
def aggNobodyUptoRow : OpenClaim := { program := "ytanhibhcmfmeeaa", sum := "f3c91913c86c4df47cedace150d803a85b4537a49b6b64b044b3925baf119986", func := "tidemill/tidemilllaw18.AggNobody", spec := "aggNobody", inPlace := ["slices.overlaps[tidemill/kv.pair]", "slices.overlaps[tidemill/sess.session]"], unfollowed := true, recurses := true, plainKeys := false, apart := false, narrowed := true }
def AggNobodyUptoSaid : Prop := aggNobodyUptoRow.holds Try.pinned (OpenSpec.upto aggNobodySpec)

end Rows
end Go.Proofs.Ytanhibhcmfmeeaa

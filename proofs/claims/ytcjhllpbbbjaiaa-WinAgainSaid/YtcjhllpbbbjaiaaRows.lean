/-
  No cell of these rows narrows 'for every input' (looked for: loops, veiled, ifaces, maps, wideKeys, modest, calm, conditions, laid).
  DERIVED. THE GIVEN ROWS OF THIS SEAT. 5 by the template 'for every input the law returns true; each argument reads behind the call as it read before'; 0 by the template 'total and deterministic' (their statements: YtcjhllpbbbjaiaaTotals.lean).
  GIVEN WITH THE SEED: the statements are not yours to turn. If you find one false, say at which input.
  Laid BY PROGRAM, IN A SANDBOX (cutbox-rows.mjs): the forced cells as the released guide's own fill.sh prints them over the translation 0d192f1aa9a9f3be… (all of the seat's roots in one cut). By AI agents, Wed Nov 11 2026. No macro, syntax, notation, axiom, sorry.
-/
import Derived.Test.YtcjhllpbbbjaiaaChecked
import GoSem.Claim
import GoSem.ClaimJoined
import GoSem.ClaimMapViews
import Derived.JoinedTies
import Derived.KernelRfl
namespace Go.Proofs.Ytcjhllpbbbjaiaa
/- THE CELL 'sum', in the pinned program and in every row, IS THE sha256 OF THE DUMP (.gsa) THAT YtcjhllpbbbjaiaaProg.lean LOADS. Nothing in Lean hashes anything: it is a label: what it is worth is what the hold of that sum in a sandbox is worth. -/
noncomputable def Try.pinned : Pinned := { name := "ytcjhllpbbbjaiaa", sum := "0d192f1aa9a9f3bec087a89c06b61acb679ff326a78febcf62910c3f5e03ee45", checked := Try.checked }
namespace Rows
def none {H : Type} : Left H := { results := [], args := [] }

/-- 'tidemilllaw13.WinSpans': WHATEVER THE INPUT: true; the input reads as it did. -/
def winSpansSpec : ChangeSpec := { name := "winSpans", fn := fun _ => fun
  | [d1, d2, d3, d4, d5] => { results := [.lit (.bool true)], args := [d1, d2, d3, d4, d5] }
  | _ => none }
def winSpansRow : OpenClaim := { program := "ytcjhllpbbbjaiaa", sum := "0d192f1aa9a9f3bec087a89c06b61acb679ff326a78febcf62910c3f5e03ee45", func := "tidemill/tidemilllaw13.WinSpans", spec := "winSpans", unfollowed := true, recurses := true, plainKeys := false, apart := false }
def WinSpansSaid : Prop := winSpansRow.holds Try.pinned (OpenSpec.ofChange winSpansSpec)

/-- ITS FALSE NEIGHBOUR: 'it returns false'. Refute it at one input. -/
def winSpansWrong : ChangeSpec := { name := "winSpans", fn := fun _ => fun
  | [d1, d2, d3, d4, d5] => { results := [.lit (.bool false)], args := [d1, d2, d3, d4, d5] }
  | _ => none }
def WinSpansWrongFalsely : Prop := winSpansRow.holds Try.pinned (OpenSpec.ofChange winSpansWrong)

/-- 'tidemilllaw13.WinStarts': WHATEVER THE INPUT: true; the input reads as it did. -/
def winStartsSpec : ChangeSpec := { name := "winStarts", fn := fun _ => fun
  | [d1, d2] => { results := [.lit (.bool true)], args := [d1, d2] }
  | _ => none }
def winStartsRow : OpenClaim := { program := "ytcjhllpbbbjaiaa", sum := "0d192f1aa9a9f3bec087a89c06b61acb679ff326a78febcf62910c3f5e03ee45", func := "tidemill/tidemilllaw13.WinStarts", spec := "winStarts", unfollowed := true, recurses := true, plainKeys := false, apart := false }
def WinStartsSaid : Prop := winStartsRow.holds Try.pinned (OpenSpec.ofChange winStartsSpec)

/-- ITS FALSE NEIGHBOUR: 'it returns false'. Refute it at one input. -/
def winStartsWrong : ChangeSpec := { name := "winStarts", fn := fun _ => fun
  | [d1, d2] => { results := [.lit (.bool false)], args := [d1, d2] }
  | _ => none }
def WinStartsWrongFalsely : Prop := winStartsRow.holds Try.pinned (OpenSpec.ofChange winStartsWrong)

/-- 'tidemilllaw13.WinEnds': WHATEVER THE INPUT: true; the input reads as it did. -/
def winEndsSpec : ChangeSpec := { name := "winEnds", fn := fun _ => fun
  | [d1, d2, d3] => { results := [.lit (.bool true)], args := [d1, d2, d3] }
  | _ => none }
def winEndsRow : OpenClaim := { program := "ytcjhllpbbbjaiaa", sum := "0d192f1aa9a9f3bec087a89c06b61acb679ff326a78febcf62910c3f5e03ee45", func := "tidemill/tidemilllaw13.WinEnds", spec := "winEnds", unfollowed := true, recurses := true, plainKeys := false, apart := false }
def WinEndsSaid : Prop := winEndsRow.holds Try.pinned (OpenSpec.ofChange winEndsSpec)

/-- ITS FALSE NEIGHBOUR: 'it returns false'. Refute it at one input. -/
def winEndsWrong : ChangeSpec := { name := "winEnds", fn := fun _ => fun
  | [d1, d2, d3] => { results := [.lit (.bool false)], args := [d1, d2, d3] }
  | _ => none }
def WinEndsWrongFalsely : Prop := winEndsRow.holds Try.pinned (OpenSpec.ofChange winEndsWrong)

/-- 'tidemilllaw13.WinAgain': WHATEVER THE INPUT: true; the input reads as it did. -/
def winAgainSpec : ChangeSpec := { name := "winAgain", fn := fun _ => fun
  | [d1, d2] => { results := [.lit (.bool true)], args := [d1, d2] }
  | _ => none }
def winAgainRow : OpenClaim := { program := "ytcjhllpbbbjaiaa", sum := "0d192f1aa9a9f3bec087a89c06b61acb679ff326a78febcf62910c3f5e03ee45", func := "tidemill/tidemilllaw13.WinAgain", spec := "winAgain", unfollowed := true, recurses := true, plainKeys := false, apart := false }
def WinAgainSaid : Prop := winAgainRow.holds Try.pinned (OpenSpec.ofChange winAgainSpec)

/-- ITS FALSE NEIGHBOUR: 'it returns false'. Refute it at one input. -/
def winAgainWrong : ChangeSpec := { name := "winAgain", fn := fun _ => fun
  | [d1, d2] => { results := [.lit (.bool false)], args := [d1, d2] }
  | _ => none }
def WinAgainWrongFalsely : Prop := winAgainRow.holds Try.pinned (OpenSpec.ofChange winAgainWrong)

/-- 'tidemilllaw13.WinNobody': WHATEVER THE INPUT: true; the input reads as it did. -/
def winNobodySpec : ChangeSpec := { name := "winNobody", fn := fun _ => fun
  | [d1, d2] => { results := [.lit (.bool true)], args := [d1, d2] }
  | _ => none }
def winNobodyRow : OpenClaim := { program := "ytcjhllpbbbjaiaa", sum := "0d192f1aa9a9f3bec087a89c06b61acb679ff326a78febcf62910c3f5e03ee45", func := "tidemill/tidemilllaw13.WinNobody", spec := "winNobody", unfollowed := true, recurses := true, plainKeys := false, apart := false }
def WinNobodySaid : Prop := winNobodyRow.holds Try.pinned (OpenSpec.ofChange winNobodySpec)

/-- ITS FALSE NEIGHBOUR: 'it returns false'. Refute it at one input. -/
def winNobodyWrong : ChangeSpec := { name := "winNobody", fn := fun _ => fun
  | [d1, d2] => { results := [.lit (.bool false)], args := [d1, d2] }
  | _ => none }
def WinNobodyWrongFalsely : Prop := winNobodyRow.holds Try.pinned (OpenSpec.ofChange winNobodyWrong)

/- THE SECOND FORM. 'bulk': how many values and letters a reading holds, each counted each time it is reached (what is shared counts as often as it is met; a slice's spare places count too). A statement '..UptoSaid' is the law's where the arguments, and the package variables that the reading takes, are together of bulk at most 1048576: NARROWER than '..Said'. Prove '..Said' where nothing that the law and all that it calls make is longer than what came in: it says more and counts as full. Else prove '..UptoSaid'. A law counts once. -/
mutual
def uptoBulk {H : Type} : DataW H → Nat
  | .lit (.string bytes) => bytes.length + 1
  | .lit _ => 1
  | .nil => 1
  | .ptr d => uptoBulk d + 1
  | .slice elems spare => uptoBulkAll elems + uptoBulkAll spare + 1
  | .agg parts => uptoBulkAll parts + 1
  | .iface _ d => uptoBulk d + 1
  | .map entries => uptoBulkEntries entries + 1
  | .held _ => 1
def uptoBulkAll {H : Type} : List (DataW H) → Nat
  | [] => 0
  | d :: r => uptoBulk d + uptoBulkAll r
def uptoBulkEntries {H : Type} : List (Lit × DataW H) → Nat
  | [] => 0
  | x :: r => uptoBulkEntry x + uptoBulkEntries r
def uptoBulkEntry {H : Type} : Lit × DataW H → Nat
  | (.string bytes, d) => bytes.length + uptoBulk d + 1
  | (_, d) => uptoBulk d + 1
 end
def uptoSmall : (H : Type) → List (DataW H) → Bool := fun _ ds => decide (uptoBulkAll ds ≤ 1048576)
def OpenSpec.upto (s : _root_.Go.ChangeSpec) : _root_.Go.OpenSpec := { _root_.Go.OpenSpec.ofChange s with cond := some uptoSmall }

/-- 'tidemilllaw13.WinSpans', WHERE WHAT IT READS IS OF BULK AT MOST 1048576: true; the input reads as it did. -/
def winSpansUptoRow : OpenClaim := { program := "ytcjhllpbbbjaiaa", sum := "0d192f1aa9a9f3bec087a89c06b61acb679ff326a78febcf62910c3f5e03ee45", func := "tidemill/tidemilllaw13.WinSpans", spec := "winSpans", unfollowed := true, recurses := true, plainKeys := false, apart := false, narrowed := true }
def WinSpansUptoSaid : Prop := winSpansUptoRow.holds Try.pinned (OpenSpec.upto winSpansSpec)

/-- 'tidemilllaw13.WinStarts', WHERE WHAT IT READS IS OF BULK AT MOST 1048576: true; the input reads as it did. -/
def winStartsUptoRow : OpenClaim := { program := "ytcjhllpbbbjaiaa", sum := "0d192f1aa9a9f3bec087a89c06b61acb679ff326a78febcf62910c3f5e03ee45", func := "tidemill/tidemilllaw13.WinStarts", spec := "winStarts", unfollowed := true, recurses := true, plainKeys := false, apart := false, narrowed := true }
def WinStartsUptoSaid : Prop := winStartsUptoRow.holds Try.pinned (OpenSpec.upto winStartsSpec)

/-- 'tidemilllaw13.WinEnds', WHERE WHAT IT READS IS OF BULK AT MOST 1048576: true; the input reads as it did. -/
def winEndsUptoRow : OpenClaim := { program := "ytcjhllpbbbjaiaa", sum := "0d192f1aa9a9f3bec087a89c06b61acb679ff326a78febcf62910c3f5e03ee45", func := "tidemill/tidemilllaw13.WinEnds", spec := "winEnds", unfollowed := true, recurses := true, plainKeys := false, apart := false, narrowed := true }
def WinEndsUptoSaid : Prop := winEndsUptoRow.holds Try.pinned (OpenSpec.upto winEndsSpec)

/-- 'tidemilllaw13.WinAgain', WHERE WHAT IT READS IS OF BULK AT MOST 1048576: true; the input reads as it did. -/
def winAgainUptoRow : OpenClaim := { program := "ytcjhllpbbbjaiaa", sum := "0d192f1aa9a9f3bec087a89c06b61acb679ff326a78febcf62910c3f5e03ee45", func := "tidemill/tidemilllaw13.WinAgain", spec := "winAgain", unfollowed := true, recurses := true, plainKeys := false, apart := false, narrowed := true }
def WinAgainUptoSaid : Prop := winAgainUptoRow.holds Try.pinned (OpenSpec.upto winAgainSpec)

/-- 'tidemilllaw13.WinNobody', WHERE WHAT IT READS IS OF BULK AT MOST 1048576: true; the input reads as it did. -/
def winNobodyUptoRow : OpenClaim := { program := "ytcjhllpbbbjaiaa", sum := "0d192f1aa9a9f3bec087a89c06b61acb679ff326a78febcf62910c3f5e03ee45", func := "tidemill/tidemilllaw13.WinNobody", spec := "winNobody", unfollowed := true, recurses := true, plainKeys := false, apart := false, narrowed := true }
def WinNobodyUptoSaid : Prop := winNobodyUptoRow.holds Try.pinned (OpenSpec.upto winNobodySpec)

end Rows
end Go.Proofs.Ytcjhllpbbbjaiaa

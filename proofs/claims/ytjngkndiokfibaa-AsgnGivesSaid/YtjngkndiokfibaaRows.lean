/-
  No cell of these rows narrows 'for every input' (looked for: loops, veiled, ifaces, maps, wideKeys, modest, calm, conditions, laid).
  DERIVED. THE GIVEN ROWS OF THIS SEAT. 7 by the template 'for every input the law returns true; each argument reads behind the call as it read before'; 0 by the template 'total and deterministic' (their statements: YtjngkndiokfibaaTotals.lean).
  GIVEN WITH THE SEED: the statements are not yours to turn. If you find one false, say at which input.
  Laid BY PROGRAM, IN A SANDBOX (cutbox-rows.mjs): the forced cells as the released guide's own fill.sh prints them over the translation 79d7ab0c528fdb40… (all of the seat's roots in one cut). By AI agents, Wed Nov 11 2026. No macro, syntax, notation, axiom, sorry.
-/
import Derived.Test.YtjngkndiokfibaaChecked
import GoSem.Claim
import GoSem.ClaimJoined
import GoSem.ClaimMapViews
import Derived.JoinedTies
import Derived.KernelRfl
namespace Go.Proofs.Ytjngkndiokfibaa
/- THE CELL 'sum', in the pinned program and in every row, IS THE sha256 OF THE DUMP (.gsa) THAT YtjngkndiokfibaaProg.lean LOADS. Nothing in Lean hashes anything: it is a label: what it is worth is what the hold of that sum in a sandbox is worth. -/
noncomputable def Try.pinned : Pinned := { name := "ytjngkndiokfibaa", sum := "79d7ab0c528fdb4062c570cabf620da879bcba05c7f7f1a19381d42245c5fff0", checked := Try.checked }
namespace Rows
def none {H : Type} : Left H := { results := [], args := [] }

/-- 'tidemilllaw15.ChgRecords': WHATEVER THE INPUT: true; the input reads as it did. -/
def chgRecordsSpec : ChangeSpec := { name := "chgRecords", fn := fun _ => fun
  | [d1, d2, d3] => { results := [.lit (.bool true)], args := [d1, d2, d3] }
  | _ => none }
def chgRecordsRow : OpenClaim := { program := "ytjngkndiokfibaa", sum := "79d7ab0c528fdb4062c570cabf620da879bcba05c7f7f1a19381d42245c5fff0", func := "tidemill/tidemilllaw15.ChgRecords", spec := "chgRecords", apart := false }
def ChgRecordsSaid : Prop := chgRecordsRow.holds Try.pinned (OpenSpec.ofChange chgRecordsSpec)

/-- ITS FALSE NEIGHBOUR: 'it returns false'. Refute it at one input. -/
def chgRecordsWrong : ChangeSpec := { name := "chgRecords", fn := fun _ => fun
  | [d1, d2, d3] => { results := [.lit (.bool false)], args := [d1, d2, d3] }
  | _ => none }
def ChgRecordsWrongFalsely : Prop := chgRecordsRow.holds Try.pinned (OpenSpec.ofChange chgRecordsWrong)

/-- 'tidemilllaw15.ChgBack': WHATEVER THE INPUT: true; the input reads as it did. -/
def chgBackSpec : ChangeSpec := { name := "chgBack", fn := fun _ => fun
  | [d1, d2] => { results := [.lit (.bool true)], args := [d1, d2] }
  | _ => none }
def chgBackRow : OpenClaim := { program := "ytjngkndiokfibaa", sum := "79d7ab0c528fdb4062c570cabf620da879bcba05c7f7f1a19381d42245c5fff0", func := "tidemill/tidemilllaw15.ChgBack", spec := "chgBack", apart := false }
def ChgBackSaid : Prop := chgBackRow.holds Try.pinned (OpenSpec.ofChange chgBackSpec)

/-- ITS FALSE NEIGHBOUR: 'it returns false'. Refute it at one input. -/
def chgBackWrong : ChangeSpec := { name := "chgBack", fn := fun _ => fun
  | [d1, d2] => { results := [.lit (.bool false)], args := [d1, d2] }
  | _ => none }
def ChgBackWrongFalsely : Prop := chgBackRow.holds Try.pinned (OpenSpec.ofChange chgBackWrong)

/-- 'tidemilllaw22.AsgnGives': WHATEVER THE INPUT: true; the input reads as it did. -/
def asgnGivesSpec : ChangeSpec := { name := "asgnGives", fn := fun _ => fun
  | [d1, d2, d3] => { results := [.lit (.bool true)], args := [d1, d2, d3] }
  | _ => none }
def asgnGivesRow : OpenClaim := { program := "ytjngkndiokfibaa", sum := "79d7ab0c528fdb4062c570cabf620da879bcba05c7f7f1a19381d42245c5fff0", func := "tidemill/tidemilllaw22.AsgnGives", spec := "asgnGives", unfollowed := true, recurses := true, apart := false }
def AsgnGivesSaid : Prop := asgnGivesRow.holds Try.pinned (OpenSpec.ofChange asgnGivesSpec)

/-- ITS FALSE NEIGHBOUR: 'it returns false'. Refute it at one input. -/
def asgnGivesWrong : ChangeSpec := { name := "asgnGives", fn := fun _ => fun
  | [d1, d2, d3] => { results := [.lit (.bool false)], args := [d1, d2, d3] }
  | _ => none }
def AsgnGivesWrongFalsely : Prop := asgnGivesRow.holds Try.pinned (OpenSpec.ofChange asgnGivesWrong)

/-- 'tidemilllaw22.AsgnShares': WHATEVER THE INPUT: true; the input reads as it did. -/
def asgnSharesSpec : ChangeSpec := { name := "asgnShares", fn := fun _ => fun
  | [d1, d2, d3] => { results := [.lit (.bool true)], args := [d1, d2, d3] }
  | _ => none }
def asgnSharesRow : OpenClaim := { program := "ytjngkndiokfibaa", sum := "79d7ab0c528fdb4062c570cabf620da879bcba05c7f7f1a19381d42245c5fff0", func := "tidemill/tidemilllaw22.AsgnShares", spec := "asgnShares", unfollowed := true, recurses := true, apart := false }
def AsgnSharesSaid : Prop := asgnSharesRow.holds Try.pinned (OpenSpec.ofChange asgnSharesSpec)

/-- ITS FALSE NEIGHBOUR: 'it returns false'. Refute it at one input. -/
def asgnSharesWrong : ChangeSpec := { name := "asgnShares", fn := fun _ => fun
  | [d1, d2, d3] => { results := [.lit (.bool false)], args := [d1, d2, d3] }
  | _ => none }
def AsgnSharesWrongFalsely : Prop := asgnSharesRow.holds Try.pinned (OpenSpec.ofChange asgnSharesWrong)

/-- 'tidemilllaw22.AsgnKeeps': WHATEVER THE INPUT: true; the input reads as it did. -/
def asgnKeepsSpec : ChangeSpec := { name := "asgnKeeps", fn := fun _ => fun
  | [d1, d2, d3] => { results := [.lit (.bool true)], args := [d1, d2, d3] }
  | _ => none }
def asgnKeepsRow : OpenClaim := { program := "ytjngkndiokfibaa", sum := "79d7ab0c528fdb4062c570cabf620da879bcba05c7f7f1a19381d42245c5fff0", func := "tidemill/tidemilllaw22.AsgnKeeps", spec := "asgnKeeps", unfollowed := true, recurses := true, apart := false }
def AsgnKeepsSaid : Prop := asgnKeepsRow.holds Try.pinned (OpenSpec.ofChange asgnKeepsSpec)

/-- ITS FALSE NEIGHBOUR: 'it returns false'. Refute it at one input. -/
def asgnKeepsWrong : ChangeSpec := { name := "asgnKeeps", fn := fun _ => fun
  | [d1, d2, d3] => { results := [.lit (.bool false)], args := [d1, d2, d3] }
  | _ => none }
def AsgnKeepsWrongFalsely : Prop := asgnKeepsRow.holds Try.pinned (OpenSpec.ofChange asgnKeepsWrong)

/-- 'tidemilllaw22.AsgnLone': WHATEVER THE INPUT: true; the input reads as it did. -/
def asgnLoneSpec : ChangeSpec := { name := "asgnLone", fn := fun _ => fun
  | [d1, d2, d3] => { results := [.lit (.bool true)], args := [d1, d2, d3] }
  | _ => none }
def asgnLoneRow : OpenClaim := { program := "ytjngkndiokfibaa", sum := "79d7ab0c528fdb4062c570cabf620da879bcba05c7f7f1a19381d42245c5fff0", func := "tidemill/tidemilllaw22.AsgnLone", spec := "asgnLone", unfollowed := true, recurses := true, apart := false }
def AsgnLoneSaid : Prop := asgnLoneRow.holds Try.pinned (OpenSpec.ofChange asgnLoneSpec)

/-- ITS FALSE NEIGHBOUR: 'it returns false'. Refute it at one input. -/
def asgnLoneWrong : ChangeSpec := { name := "asgnLone", fn := fun _ => fun
  | [d1, d2, d3] => { results := [.lit (.bool false)], args := [d1, d2, d3] }
  | _ => none }
def AsgnLoneWrongFalsely : Prop := asgnLoneRow.holds Try.pinned (OpenSpec.ofChange asgnLoneWrong)

/-- 'tidemilllaw22.AsgnRises': WHATEVER THE INPUT: true; the input reads as it did. -/
def asgnRisesSpec : ChangeSpec := { name := "asgnRises", fn := fun _ => fun
  | [d1, d2] => { results := [.lit (.bool true)], args := [d1, d2] }
  | _ => none }
def asgnRisesRow : OpenClaim := { program := "ytjngkndiokfibaa", sum := "79d7ab0c528fdb4062c570cabf620da879bcba05c7f7f1a19381d42245c5fff0", func := "tidemill/tidemilllaw22.AsgnRises", spec := "asgnRises", unfollowed := true, recurses := true, apart := false }
def AsgnRisesSaid : Prop := asgnRisesRow.holds Try.pinned (OpenSpec.ofChange asgnRisesSpec)

/-- ITS FALSE NEIGHBOUR: 'it returns false'. Refute it at one input. -/
def asgnRisesWrong : ChangeSpec := { name := "asgnRises", fn := fun _ => fun
  | [d1, d2] => { results := [.lit (.bool false)], args := [d1, d2] }
  | _ => none }
def AsgnRisesWrongFalsely : Prop := asgnRisesRow.holds Try.pinned (OpenSpec.ofChange asgnRisesWrong)

/- THE SECOND FORM. 'bulk': how many values and letters a reading holds, each counted each time it is reached (what is shared counts as often as it is met; a slice's spare places count too). A statement '..UptoSaid' is the law's where the arguments, and the package variables that the reading takes, are together of bulk at most 1048576: NARROWER than '..Said'. Prove '..Said' where nothing that the law and all that it calls make is longer than what came in: it says more and counts as full. Else prove '..UptoSaid'. A law counts once. -/
mutual
def uptoBulk {H : Type} : DataW H → Nat
  | .lit (.string bytes) => bytes.length + 1
  | .lit _ => 1
  | .nil => 1
  | .ptr d => uptoBulk d + 1
  | .slice elems spare => uptoBulkAll elems + uptoBulkAll spare + 1
  | .agg parts => uptoBulkAll parts + 1
  | .iface _ d => uptoBulk d + 1
  | .map entries => uptoBulkEntries entries + 1
  | .held _ => 1
def uptoBulkAll {H : Type} : List (DataW H) → Nat
  | [] => 0
  | d :: r => uptoBulk d + uptoBulkAll r
def uptoBulkEntries {H : Type} : List (Lit × DataW H) → Nat
  | [] => 0
  | x :: r => uptoBulkEntry x + uptoBulkEntries r
def uptoBulkEntry {H : Type} : Lit × DataW H → Nat
  | (.string bytes, d) => bytes.length + uptoBulk d + 1
  | (_, d) => uptoBulk d + 1
 end
def uptoSmall : (H : Type) → List (DataW H) → Bool := fun _ ds => decide (uptoBulkAll ds ≤ 1048576)
def OpenSpec.upto (s : _root_.Go.ChangeSpec) : _root_.Go.OpenSpec := { _root_.Go.OpenSpec.ofChange s with cond := some uptoSmall }

/-- 'tidemilllaw15.ChgRecords', WHERE WHAT IT READS IS OF BULK AT MOST 1048576: true; the input reads as it did. -/
def chgRecordsUptoRow : OpenClaim := { program := "ytjngkndiokfibaa", sum := "79d7ab0c528fdb4062c570cabf620da879bcba05c7f7f1a19381d42245c5fff0", func := "tidemill/tidemilllaw15.ChgRecords", spec := "chgRecords", apart := false, narrowed := true }
def ChgRecordsUptoSaid : Prop := chgRecordsUptoRow.holds Try.pinned (OpenSpec.upto chgRecordsSpec)

/-- 'tidemilllaw15.ChgBack', WHERE WHAT IT READS IS OF BULK AT MOST 1048576: true; the input reads as it did. -/
def chgBackUptoRow : OpenClaim := { program := "ytjngkndiokfibaa", sum := "79d7ab0c528fdb4062c570cabf620da879bcba05c7f7f1a19381d42245c5fff0", func := "tidemill/tidemilllaw15.ChgBack", spec := "chgBack", apart := false, narrowed := true }
def ChgBackUptoSaid : Prop := chgBackUptoRow.holds Try.pinned (OpenSpec.upto chgBackSpec)

/-- 'tidemilllaw22.AsgnGives', WHERE WHAT IT READS IS OF BULK AT MOST 1048576: true; the input reads as it did. -/
def asgnGivesUptoRow : OpenClaim := { program := "ytjngkndiokfibaa", sum := "79d7ab0c528fdb4062c570cabf620da879bcba05c7f7f1a19381d42245c5fff0", func := "tidemill/tidemilllaw22.AsgnGives", spec := "asgnGives", unfollowed := true, recurses := true, apart := false, narrowed := true }
def AsgnGivesUptoSaid : Prop := asgnGivesUptoRow.holds Try.pinned (OpenSpec.upto asgnGivesSpec)

/-- 'tidemilllaw22.AsgnShares', WHERE WHAT IT READS IS OF BULK AT MOST 1048576: true; the input reads as it did. -/
def asgnSharesUptoRow : OpenClaim := { program := "ytjngkndiokfibaa", sum := "79d7ab0c528fdb4062c570cabf620da879bcba05c7f7f1a19381d42245c5fff0", func := "tidemill/tidemilllaw22.AsgnShares", spec := "asgnShares", unfollowed := true, recurses := true, apart := false, narrowed := true }
def AsgnSharesUptoSaid : Prop := asgnSharesUptoRow.holds Try.pinned (OpenSpec.upto asgnSharesSpec)

/-- 'tidemilllaw22.AsgnKeeps', WHERE WHAT IT READS IS OF BULK AT MOST 1048576: true; the input reads as it did. -/
def asgnKeepsUptoRow : OpenClaim := { program := "ytjngkndiokfibaa", sum := "79d7ab0c528fdb4062c570cabf620da879bcba05c7f7f1a19381d42245c5fff0", func := "tidemill/tidemilllaw22.AsgnKeeps", spec := "asgnKeeps", unfollowed := true, recurses := true, apart := false, narrowed := true }
def AsgnKeepsUptoSaid : Prop := asgnKeepsUptoRow.holds Try.pinned (OpenSpec.upto asgnKeepsSpec)

/-- 'tidemilllaw22.AsgnLone', WHERE WHAT IT READS IS OF BULK AT MOST 1048576: true; the input reads as it did. -/
def asgnLoneUptoRow : OpenClaim := { program := "ytjngkndiokfibaa", sum := "79d7ab0c528fdb4062c570cabf620da879bcba05c7f7f1a19381d42245c5fff0", func := "tidemill/tidemilllaw22.AsgnLone", spec := "asgnLone", unfollowed := true, recurses := true, apart := false, narrowed := true }
def AsgnLoneUptoSaid : Prop := asgnLoneUptoRow.holds Try.pinned (OpenSpec.upto asgnLoneSpec)

/-- 'tidemilllaw22.AsgnRises', WHERE WHAT IT READS IS OF BULK AT MOST 1048576: true; the input reads as it did. -/
def asgnRisesUptoRow : OpenClaim := { program := "ytjngkndiokfibaa", sum := "79d7ab0c528fdb4062c570cabf620da879bcba05c7f7f1a19381d42245c5fff0", func := "tidemill/tidemilllaw22.AsgnRises", spec := "asgnRises", unfollowed := true, recurses := true, apart := false, narrowed := true }
def AsgnRisesUptoSaid : Prop := asgnRisesUptoRow.holds Try.pinned (OpenSpec.upto asgnRisesSpec)

end Rows
end Go.Proofs.Ytjngkndiokfibaa

/-
  No cell of these rows narrows 'for every input' (looked for: loops, veiled, ifaces, maps, wideKeys, modest, calm, conditions, laid).
  DERIVED. THE GIVEN ROWS OF THIS SEAT. 4 by the template 'for every input the law returns true; each argument reads behind the call as it read before'; 0 by the template 'total and deterministic' (their statements: YtnnahbmhjjamcaaTotals.lean).
  GIVEN WITH THE SEED: the statements are not yours to turn. If you find one false, say at which input.
  Laid BY PROGRAM, IN A SANDBOX (cutbox-rows.mjs): the forced cells as the released guide's own fill.sh prints them over the translation 31cc4a2a0ebbe8d8… (all of the seat's roots in one cut). By AI agents, Wed Nov 11 2026. No macro, syntax, notation, axiom, sorry.
-/
import Derived.Test.YtnnahbmhjjamcaaChecked
import GoSem.Claim
import GoSem.ClaimJoined
import GoSem.ClaimMapViews
import Derived.JoinedTies
import Derived.KernelRfl
namespace Go.Proofs.Ytnnahbmhjjamcaa
/- THE CELL 'sum', in the pinned program and in every row, IS THE sha256 OF THE DUMP (.gsa) THAT YtnnahbmhjjamcaaProg.lean LOADS. Nothing in Lean hashes anything: it is a label: what it is worth is what the hold of that sum in a sandbox is worth. -/
noncomputable def Try.pinned : Pinned := { name := "ytnnahbmhjjamcaa", sum := "31cc4a2a0ebbe8d86265de596d76980c309bd2e3c6ba6856a174fc7bd58bdb28", checked := Try.checked }
namespace Rows
def none {H : Type} : Left H := { results := [], args := [] }

/-- 'tidemilllaw09.QuorMeets': WHATEVER THE INPUT: true; the input reads as it did. -/
def quorMeetsSpec : ChangeSpec := { name := "quorMeets", fn := fun _ => fun
  | [d] => { results := [.lit (.bool true)], args := [d] }
  | _ => none }
def quorMeetsRow : OpenClaim := { program := "ytnnahbmhjjamcaa", sum := "31cc4a2a0ebbe8d86265de596d76980c309bd2e3c6ba6856a174fc7bd58bdb28", func := "tidemill/tidemilllaw09.QuorMeets", spec := "quorMeets", unfollowed := true, recurses := true, apart := false }
def QuorMeetsSaid : Prop := quorMeetsRow.holds Try.pinned (OpenSpec.ofChange quorMeetsSpec)

/-- ITS FALSE NEIGHBOUR: 'it returns false'. Refute it at one input. -/
def quorMeetsWrong : ChangeSpec := { name := "quorMeets", fn := fun _ => fun
  | [d] => { results := [.lit (.bool false)], args := [d] }
  | _ => none }
def QuorMeetsWrongFalsely : Prop := quorMeetsRow.holds Try.pinned (OpenSpec.ofChange quorMeetsWrong)

/-- 'tidemilllaw09.QuorKeeps': WHATEVER THE INPUT: true; the input reads as it did. -/
def quorKeepsSpec : ChangeSpec := { name := "quorKeeps", fn := fun _ => fun
  | [d1, d2, d3, d4] => { results := [.lit (.bool true)], args := [d1, d2, d3, d4] }
  | _ => none }
def quorKeepsRow : OpenClaim := { program := "ytnnahbmhjjamcaa", sum := "31cc4a2a0ebbe8d86265de596d76980c309bd2e3c6ba6856a174fc7bd58bdb28", func := "tidemill/tidemilllaw09.QuorKeeps", spec := "quorKeeps", unfollowed := true, recurses := true, apart := false }
def QuorKeepsSaid : Prop := quorKeepsRow.holds Try.pinned (OpenSpec.ofChange quorKeepsSpec)

/-- ITS FALSE NEIGHBOUR: 'it returns false'. Refute it at one input. -/
def quorKeepsWrong : ChangeSpec := { name := "quorKeeps", fn := fun _ => fun
  | [d1, d2, d3, d4] => { results := [.lit (.bool false)], args := [d1, d2, d3, d4] }
  | _ => none }
def QuorKeepsWrongFalsely : Prop := quorKeepsRow.holds Try.pinned (OpenSpec.ofChange quorKeepsWrong)

/-- 'tidemilllaw09.QuorOrder': WHATEVER THE INPUT: true; the input reads as it did. -/
def quorOrderSpec : ChangeSpec := { name := "quorOrder", fn := fun _ => fun
  | [d] => { results := [.lit (.bool true)], args := [d] }
  | _ => none }
def quorOrderRow : OpenClaim := { program := "ytnnahbmhjjamcaa", sum := "31cc4a2a0ebbe8d86265de596d76980c309bd2e3c6ba6856a174fc7bd58bdb28", func := "tidemill/tidemilllaw09.QuorOrder", spec := "quorOrder", unfollowed := true, recurses := true, apart := false }
def QuorOrderSaid : Prop := quorOrderRow.holds Try.pinned (OpenSpec.ofChange quorOrderSpec)

/-- ITS FALSE NEIGHBOUR: 'it returns false'. Refute it at one input. -/
def quorOrderWrong : ChangeSpec := { name := "quorOrder", fn := fun _ => fun
  | [d] => { results := [.lit (.bool false)], args := [d] }
  | _ => none }
def QuorOrderWrongFalsely : Prop := quorOrderRow.holds Try.pinned (OpenSpec.ofChange quorOrderWrong)

/-- 'tidemilllaw09.QuorChosen': WHATEVER THE INPUT: true; the input reads as it did. -/
def quorChosenSpec : ChangeSpec := { name := "quorChosen", fn := fun _ => fun
  | [d1, d2, d3, d4] => { results := [.lit (.bool true)], args := [d1, d2, d3, d4] }
  | _ => none }
def quorChosenRow : OpenClaim := { program := "ytnnahbmhjjamcaa", sum := "31cc4a2a0ebbe8d86265de596d76980c309bd2e3c6ba6856a174fc7bd58bdb28", func := "tidemill/tidemilllaw09.QuorChosen", spec := "quorChosen", unfollowed := true, recurses := true, apart := false }
def QuorChosenSaid : Prop := quorChosenRow.holds Try.pinned (OpenSpec.ofChange quorChosenSpec)

/-- ITS FALSE NEIGHBOUR: 'it returns false'. Refute it at one input. -/
def quorChosenWrong : ChangeSpec := { name := "quorChosen", fn := fun _ => fun
  | [d1, d2, d3, d4] => { results := [.lit (.bool false)], args := [d1, d2, d3, d4] }
  | _ => none }
def QuorChosenWrongFalsely : Prop := quorChosenRow.holds Try.pinned (OpenSpec.ofChange quorChosenWrong)

/- THE SECOND FORM. 'bulk': how many values and letters a reading holds, each counted each time it is reached (what is shared counts as often as it is met; a slice's spare places count too). A statement '..UptoSaid' is the law's where the arguments, and the package variables that the reading takes, are together of bulk at most 1048576: NARROWER than '..Said'. Prove '..Said' where nothing that the law and all that it calls make is longer than what came in: it says more and counts as full. Else prove '..UptoSaid'. A law counts once. -/
mutual
def uptoBulk {H : Type} : DataW H → Nat
  | .lit (.string bytes) => bytes.length + 1
  | .lit _ => 1
  | .nil => 1
  | .ptr d => uptoBulk d + 1
  | .slice elems spare => uptoBulkAll elems + uptoBulkAll spare + 1
  | .agg parts => uptoBulkAll parts + 1
  | .iface _ d => uptoBulk d + 1
  | .map entries => uptoBulkEntries entries + 1
  | .held _ => 1
def uptoBulkAll {H : Type} : List (DataW H) → Nat
  | [] => 0
  | d :: r => uptoBulk d + uptoBulkAll r
def uptoBulkEntries {H : Type} : List (Lit × DataW H) → Nat
  | [] => 0
  | x :: r => uptoBulkEntry x + uptoBulkEntries r
def uptoBulkEntry {H : Type} : Lit × DataW H → Nat
  | (.string bytes, d) => bytes.length + uptoBulk d + 1
  | (_, d) => uptoBulk d + 1
 end
def uptoSmall : (H : Type) → List (DataW H) → Bool := fun _ ds => decide (uptoBulkAll ds ≤ 1048576)
def OpenSpec.upto (s : _root_.Go.ChangeSpec) : _root_.Go.OpenSpec := { _root_.Go.OpenSpec.ofChange s with cond := some uptoSmall }

/-- 'tidemilllaw09.QuorMeets', WHERE WHAT IT READS IS OF BULK AT MOST 1048576: true; the input reads as it did. -/
def quorMeetsUptoRow : OpenClaim := { program := "ytnnahbmhjjamcaa", sum := "31cc4a2a0ebbe8d86265de596d76980c309bd2e3c6ba6856a174fc7bd58bdb28", func := "tidemill/tidemilllaw09.QuorMeets", spec := "quorMeets", unfollowed := true, recurses := true, apart := false, narrowed := true }
def QuorMeetsUptoSaid : Prop := quorMeetsUptoRow.holds Try.pinned (OpenSpec.upto quorMeetsSpec)

/-- 'tidemilllaw09.QuorKeeps', WHERE WHAT IT READS IS OF BULK AT MOST 1048576: true; the input reads as it did. -/
def quorKeepsUptoRow : OpenClaim := { program := "ytnnahbmhjjamcaa", sum := "31cc4a2a0ebbe8d86265de596d76980c309bd2e3c6ba6856a174fc7bd58bdb28", func := "tidemill/tidemilllaw09.QuorKeeps", spec := "quorKeeps", unfollowed := true, recurses := true, apart := false, narrowed := true }
def QuorKeepsUptoSaid : Prop := quorKeepsUptoRow.holds Try.pinned (OpenSpec.upto quorKeepsSpec)

/-- 'tidemilllaw09.QuorOrder', WHERE WHAT IT READS IS OF BULK AT MOST 1048576: true; the input reads as it did. -/
def quorOrderUptoRow : OpenClaim := { program := "ytnnahbmhjjamcaa", sum := "31cc4a2a0ebbe8d86265de596d76980c309bd2e3c6ba6856a174fc7bd58bdb28", func := "tidemill/tidemilllaw09.QuorOrder", spec := "quorOrder", unfollowed := true, recurses := true, apart := false, narrowed := true }
def QuorOrderUptoSaid : Prop := quorOrderUptoRow.holds Try.pinned (OpenSpec.upto quorOrderSpec)

/-- 'tidemilllaw09.QuorChosen', WHERE WHAT IT READS IS OF BULK AT MOST 1048576: true; the input reads as it did. -/
def quorChosenUptoRow : OpenClaim := { program := "ytnnahbmhjjamcaa", sum := "31cc4a2a0ebbe8d86265de596d76980c309bd2e3c6ba6856a174fc7bd58bdb28", func := "tidemill/tidemilllaw09.QuorChosen", spec := "quorChosen", unfollowed := true, recurses := true, apart := false, narrowed := true }
def QuorChosenUptoSaid : Prop := quorChosenUptoRow.holds Try.pinned (OpenSpec.upto quorChosenSpec)

end Rows
end Go.Proofs.Ytnnahbmhjjamcaa

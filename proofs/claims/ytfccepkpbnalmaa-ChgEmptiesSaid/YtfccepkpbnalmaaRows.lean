/-
  No cell of these rows narrows 'for every input' (looked for: loops, veiled, ifaces, maps, wideKeys, modest, calm, conditions, laid).
  DERIVED. THE GIVEN ROWS OF THIS SEAT. 4 by the template 'for every input the law returns true; each argument reads behind the call as it read before'; 0 by the template 'total and deterministic' (their statements: YtfccepkpbnalmaaTotals.lean).
  GIVEN WITH THE SEED: the statements are not yours to turn. If you find one false, say at which input.
  Laid BY PROGRAM, IN A SANDBOX (cutbox-rows.mjs): the forced cells as the released guide's own fill.sh prints them over the translation a09c43c581f4a2d2… (all of the seat's roots in one cut). By AI agents, Wed Nov 11 2026. No macro, syntax, notation, axiom, sorry.
-/
import Derived.Test.YtfccepkpbnalmaaChecked
import GoSem.Claim
import GoSem.ClaimJoined
import GoSem.ClaimMapViews
import Derived.JoinedTies
import Derived.KernelRfl
namespace Go.Proofs.Ytfccepkpbnalmaa
/- THE CELL 'sum', in the pinned program and in every row, IS THE sha256 OF THE DUMP (.gsa) THAT YtfccepkpbnalmaaProg.lean LOADS. Nothing in Lean hashes anything: it is a label: what it is worth is what the hold of that sum in a sandbox is worth. -/
noncomputable def Try.pinned : Pinned := { name := "ytfccepkpbnalmaa", sum := "a09c43c581f4a2d272b9178496d18d55fe2c89a606f07cfe3a21d5e848407ad2", checked := Try.checked }
namespace Rows
def none {H : Type} : Left H := { results := [], args := [] }

/-- 'tidemilllaw15.ChgLasts': WHATEVER THE INPUT: true; the input reads as it did. -/
def chgLastsSpec : ChangeSpec := { name := "chgLasts", fn := fun _ => fun
  | [d] => { results := [.lit (.bool true)], args := [d] }
  | _ => none }
def chgLastsRow : OpenClaim := { program := "ytfccepkpbnalmaa", sum := "a09c43c581f4a2d272b9178496d18d55fe2c89a606f07cfe3a21d5e848407ad2", func := "tidemill/tidemilllaw15.ChgLasts", spec := "chgLasts", unfollowed := true, recurses := true, plainKeys := false, apart := false }
def ChgLastsSaid : Prop := chgLastsRow.holds Try.pinned (OpenSpec.ofChange chgLastsSpec)

/-- ITS FALSE NEIGHBOUR: 'it returns false'. Refute it at one input. -/
def chgLastsWrong : ChangeSpec := { name := "chgLasts", fn := fun _ => fun
  | [d] => { results := [.lit (.bool false)], args := [d] }
  | _ => none }
def ChgLastsWrongFalsely : Prop := chgLastsRow.holds Try.pinned (OpenSpec.ofChange chgLastsWrong)

/-- 'tidemilllaw15.ChgCompacts': WHATEVER THE INPUT: true; the input reads as it did. -/
def chgCompactsSpec : ChangeSpec := { name := "chgCompacts", fn := fun _ => fun
  | [d1, d2] => { results := [.lit (.bool true)], args := [d1, d2] }
  | _ => none }
def chgCompactsRow : OpenClaim := { program := "ytfccepkpbnalmaa", sum := "a09c43c581f4a2d272b9178496d18d55fe2c89a606f07cfe3a21d5e848407ad2", func := "tidemill/tidemilllaw15.ChgCompacts", spec := "chgCompacts", unfollowed := true, recurses := true, plainKeys := false, apart := false }
def ChgCompactsSaid : Prop := chgCompactsRow.holds Try.pinned (OpenSpec.ofChange chgCompactsSpec)

/-- ITS FALSE NEIGHBOUR: 'it returns false'. Refute it at one input. -/
def chgCompactsWrong : ChangeSpec := { name := "chgCompacts", fn := fun _ => fun
  | [d1, d2] => { results := [.lit (.bool false)], args := [d1, d2] }
  | _ => none }
def ChgCompactsWrongFalsely : Prop := chgCompactsRow.holds Try.pinned (OpenSpec.ofChange chgCompactsWrong)

/-- 'tidemilllaw15.ChgEmpties': WHATEVER THE INPUT: true; the input reads as it did. -/
def chgEmptiesSpec : ChangeSpec := { name := "chgEmpties", fn := fun _ => fun
  | [d1, d2] => { results := [.lit (.bool true)], args := [d1, d2] }
  | _ => none }
def chgEmptiesRow : OpenClaim := { program := "ytfccepkpbnalmaa", sum := "a09c43c581f4a2d272b9178496d18d55fe2c89a606f07cfe3a21d5e848407ad2", func := "tidemill/tidemilllaw15.ChgEmpties", spec := "chgEmpties", unfollowed := true, recurses := true, plainKeys := false, apart := false }
def ChgEmptiesSaid : Prop := chgEmptiesRow.holds Try.pinned (OpenSpec.ofChange chgEmptiesSpec)

/-- ITS FALSE NEIGHBOUR: 'it returns false'. Refute it at one input. -/
def chgEmptiesWrong : ChangeSpec := { name := "chgEmpties", fn := fun _ => fun
  | [d1, d2] => { results := [.lit (.bool false)], args := [d1, d2] }
  | _ => none }
def ChgEmptiesWrongFalsely : Prop := chgEmptiesRow.holds Try.pinned (OpenSpec.ofChange chgEmptiesWrong)

/-- 'tidemilllaw15.ChgStores': WHATEVER THE INPUT: true; the input reads as it did. -/
def chgStoresSpec : ChangeSpec := { name := "chgStores", fn := fun _ => fun
  | [d] => { results := [.lit (.bool true)], args := [d] }
  | _ => none }
def chgStoresRow : OpenClaim := { program := "ytfccepkpbnalmaa", sum := "a09c43c581f4a2d272b9178496d18d55fe2c89a606f07cfe3a21d5e848407ad2", func := "tidemill/tidemilllaw15.ChgStores", spec := "chgStores", inPlace := ["slices.overlaps[tidemill/kv.pair]", "slices.overlaps[tidemill/sess.session]"], unfollowed := true, recurses := true, plainKeys := false, apart := false }
def ChgStoresSaid : Prop := chgStoresRow.holds Try.pinned (OpenSpec.ofChange chgStoresSpec)

/-- ITS FALSE NEIGHBOUR: 'it returns false'. Refute it at one input. -/
def chgStoresWrong : ChangeSpec := { name := "chgStores", fn := fun _ => fun
  | [d] => { results := [.lit (.bool false)], args := [d] }
  | _ => none }
def ChgStoresWrongFalsely : Prop := chgStoresRow.holds Try.pinned (OpenSpec.ofChange chgStoresWrong)

/- THE SECOND FORM. 'bulk': how many values and letters a reading holds, each counted each time it is reached (what is shared counts as often as it is met; a slice's spare places count too). A statement '..UptoSaid' is the law's where the arguments, and the package variables that the reading takes, are together of bulk at most 1048576: NARROWER than '..Said'. Prove '..Said' where nothing that the law and all that it calls make is longer than what came in: it says more and counts as full. Else prove '..UptoSaid'. A law counts once. -/
mutual
def uptoBulk {H : Type} : DataW H → Nat
  | .lit (.string bytes) => bytes.length + 1
  | .lit _ => 1
  | .nil => 1
  | .ptr d => uptoBulk d + 1
  | .slice elems spare => uptoBulkAll elems + uptoBulkAll spare + 1
  | .agg parts => uptoBulkAll parts + 1
  | .iface _ d => uptoBulk d + 1
  | .map entries => uptoBulkEntries entries + 1
  | .held _ => 1
def uptoBulkAll {H : Type} : List (DataW H) → Nat
  | [] => 0
  | d :: r => uptoBulk d + uptoBulkAll r
def uptoBulkEntries {H : Type} : List (Lit × DataW H) → Nat
  | [] => 0
  | x :: r => uptoBulkEntry x + uptoBulkEntries r
def uptoBulkEntry {H : Type} : Lit × DataW H → Nat
  | (.string bytes, d) => bytes.length + uptoBulk d + 1
  | (_, d) => uptoBulk d + 1
 end
def uptoSmall : (H : Type) → List (DataW H) → Bool := fun _ ds => decide (uptoBulkAll ds ≤ 1048576)
def OpenSpec.upto (s : _root_.Go.ChangeSpec) : _root_.Go.OpenSpec := { _root_.Go.OpenSpec.ofChange s with cond := some uptoSmall }

/-- 'tidemilllaw15.ChgLasts', WHERE WHAT IT READS IS OF BULK AT MOST 1048576: true; the input reads as it did. -/
def chgLastsUptoRow : OpenClaim := { program := "ytfccepkpbnalmaa", sum := "a09c43c581f4a2d272b9178496d18d55fe2c89a606f07cfe3a21d5e848407ad2", func := "tidemill/tidemilllaw15.ChgLasts", spec := "chgLasts", unfollowed := true, recurses := true, plainKeys := false, apart := false, narrowed := true }
def ChgLastsUptoSaid : Prop := chgLastsUptoRow.holds Try.pinned (OpenSpec.upto chgLastsSpec)

/-- 'tidemilllaw15.ChgCompacts', WHERE WHAT IT READS IS OF BULK AT MOST 1048576: true; the input reads as it did. -/
def chgCompactsUptoRow : OpenClaim := { program := "ytfccepkpbnalmaa", sum := "a09c43c581f4a2d272b9178496d18d55fe2c89a606f07cfe3a21d5e848407ad2", func := "tidemill/tidemilllaw15.ChgCompacts", spec := "chgCompacts", unfollowed := true, recurses := true, plainKeys := false, apart := false, narrowed := true }
def ChgCompactsUptoSaid : Prop := chgCompactsUptoRow.holds Try.pinned (OpenSpec.upto chgCompactsSpec)

/-- 'tidemilllaw15.ChgEmpties', WHERE WHAT IT READS IS OF BULK AT MOST 1048576: true; the input reads as it did. -/
def chgEmptiesUptoRow : OpenClaim := { program := "ytfccepkpbnalmaa", sum := "a09c43c581f4a2d272b9178496d18d55fe2c89a606f07cfe3a21d5e848407ad2", func := "tidemill/tidemilllaw15.ChgEmpties", spec := "chgEmpties", unfollowed := true, recurses := true, plainKeys := false, apart := false, narrowed := true }
def ChgEmptiesUptoSaid : Prop := chgEmptiesUptoRow.holds Try.pinned (OpenSpec.upto chgEmptiesSpec)

/-- 'tidemilllaw15.ChgStores', WHERE WHAT IT READS IS OF BULK AT MOST 1048576: true; the input reads as it did. -/
def chgStoresUptoRow : OpenClaim := { program := "ytfccepkpbnalmaa", sum := "a09c43c581f4a2d272b9178496d18d55fe2c89a606f07cfe3a21d5e848407ad2", func := "tidemill/tidemilllaw15.ChgStores", spec := "chgStores", inPlace := ["slices.overlaps[tidemill/kv.pair]", "slices.overlaps[tidemill/sess.session]"], unfollowed := true, recurses := true, plainKeys := false, apart := false, narrowed := true }
def ChgStoresUptoSaid : Prop := chgStoresUptoRow.holds Try.pinned (OpenSpec.upto chgStoresSpec)

end Rows
end Go.Proofs.Ytfccepkpbnalmaa

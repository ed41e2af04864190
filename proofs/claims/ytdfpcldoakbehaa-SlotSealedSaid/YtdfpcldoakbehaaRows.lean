/-
  No cell of these rows narrows 'for every input' (looked for: loops, veiled, ifaces, maps, wideKeys, modest, calm, conditions, laid).
  DERIVED. THE GIVEN ROWS OF THIS SEAT. 5 by the template 'for every input the law returns true; each argument reads behind the call as it read before'; 0 by the template 'total and deterministic' (their statements: YtdfpcldoakbehaaTotals.lean).
  GIVEN WITH THE SEED: the statements are not yours to turn. If you find one false, say at which input.
  Laid BY PROGRAM, IN A SANDBOX (cutbox-rows.mjs): the forced cells as the released guide's own fill.sh prints them over the translation 1df2b5e197a6957d… (all of the seat's roots in one cut). By AI agents, Wed Nov 11 2026. No macro, syntax, notation, axiom, sorry.
-/
import Derived.Test.YtdfpcldoakbehaaChecked
import GoSem.Claim
import GoSem.ClaimJoined
import GoSem.ClaimMapViews
import Derived.JoinedTies
import Derived.KernelRfl
namespace Go.Proofs.Ytdfpcldoakbehaa
/- THE CELL 'sum', in the pinned program and in every row, IS THE sha256 OF THE DUMP (.gsa) THAT YtdfpcldoakbehaaProg.lean LOADS. Nothing in Lean hashes anything: it is a label: what it is worth is what the hold of that sum in a sandbox is worth. -/
noncomputable def Try.pinned : Pinned := { name := "ytdfpcldoakbehaa", sum := "1df2b5e197a6957d9c9b5623b6076edc752f1a25a3d158badeef9abbd523c4d7", checked := Try.checked }
namespace Rows
def none {H : Type} : Left H := { results := [], args := [] }

/-- 'tidemilllaw08.SlotAgain': WHATEVER THE INPUT: true; the input reads as it did. -/
def slotAgainSpec : ChangeSpec := { name := "slotAgain", fn := fun _ => fun
  | [d1, d2, d3, d4] => { results := [.lit (.bool true)], args := [d1, d2, d3, d4] }
  | _ => none }
def slotAgainRow : OpenClaim := { program := "ytdfpcldoakbehaa", sum := "1df2b5e197a6957d9c9b5623b6076edc752f1a25a3d158badeef9abbd523c4d7", func := "tidemill/tidemilllaw08.SlotAgain", spec := "slotAgain", inPlace := ["sync/atomic.LoadUint32", "(*internal/sync.Mutex).Lock", "internal/race.Disable", "sync/atomic.CompareAndSwapInt32", "internal/race.Enable", "internal/race.Acquire", "(*internal/sync.Mutex).lockSlow", "internal/sync.runtime_canSpin", "internal/sync.runtime_doSpin", "internal/sync.throw", "internal/sync.runtime_nanotime", "internal/sync.runtime_SemacquireMutex", "sync/atomic.AddInt32", "(*internal/sync.Mutex).Unlock", "internal/race.ReleaseMerge", "(*internal/sync.Mutex).unlockSlow", "internal/sync.fatal", "internal/sync.runtime_Semrelease", "sync/atomic.StoreUint32"], unfollowed := true, recurses := true, apart := false }
def SlotAgainSaid : Prop := slotAgainRow.holds Try.pinned (OpenSpec.ofChange slotAgainSpec)

/-- ITS FALSE NEIGHBOUR: 'it returns false'. Refute it at one input. -/
def slotAgainWrong : ChangeSpec := { name := "slotAgain", fn := fun _ => fun
  | [d1, d2, d3, d4] => { results := [.lit (.bool false)], args := [d1, d2, d3, d4] }
  | _ => none }
def SlotAgainWrongFalsely : Prop := slotAgainRow.holds Try.pinned (OpenSpec.ofChange slotAgainWrong)

/-- 'tidemilllaw08.SlotTails': WHATEVER THE INPUT: true; the input reads as it did. -/
def slotTailsSpec : ChangeSpec := { name := "slotTails", fn := fun _ => fun
  | [d] => { results := [.lit (.bool true)], args := [d] }
  | _ => none }
def slotTailsRow : OpenClaim := { program := "ytdfpcldoakbehaa", sum := "1df2b5e197a6957d9c9b5623b6076edc752f1a25a3d158badeef9abbd523c4d7", func := "tidemill/tidemilllaw08.SlotTails", spec := "slotTails", inPlace := ["sync/atomic.LoadUint32", "(*internal/sync.Mutex).Lock", "internal/race.Disable", "sync/atomic.CompareAndSwapInt32", "internal/race.Enable", "internal/race.Acquire", "(*internal/sync.Mutex).lockSlow", "internal/sync.runtime_canSpin", "internal/sync.runtime_doSpin", "internal/sync.throw", "internal/sync.runtime_nanotime", "internal/sync.runtime_SemacquireMutex", "sync/atomic.AddInt32", "(*internal/sync.Mutex).Unlock", "internal/race.ReleaseMerge", "(*internal/sync.Mutex).unlockSlow", "internal/sync.fatal", "internal/sync.runtime_Semrelease", "sync/atomic.StoreUint32"], unfollowed := true, recurses := true, apart := false }
def SlotTailsSaid : Prop := slotTailsRow.holds Try.pinned (OpenSpec.ofChange slotTailsSpec)

/-- ITS FALSE NEIGHBOUR: 'it returns false'. Refute it at one input. -/
def slotTailsWrong : ChangeSpec := { name := "slotTails", fn := fun _ => fun
  | [d] => { results := [.lit (.bool false)], args := [d] }
  | _ => none }
def SlotTailsWrongFalsely : Prop := slotTailsRow.holds Try.pinned (OpenSpec.ofChange slotTailsWrong)

/-- 'tidemilllaw08.SlotSealed': WHATEVER THE INPUT: true; the input reads as it did. -/
def slotSealedSpec : ChangeSpec := { name := "slotSealed", fn := fun _ => fun
  | [d] => { results := [.lit (.bool true)], args := [d] }
  | _ => none }
def slotSealedRow : OpenClaim := { program := "ytdfpcldoakbehaa", sum := "1df2b5e197a6957d9c9b5623b6076edc752f1a25a3d158badeef9abbd523c4d7", func := "tidemill/tidemilllaw08.SlotSealed", spec := "slotSealed", inPlace := ["sync/atomic.LoadUint32", "(*internal/sync.Mutex).Lock", "internal/race.Disable", "sync/atomic.CompareAndSwapInt32", "internal/race.Enable", "internal/race.Acquire", "(*internal/sync.Mutex).lockSlow", "internal/sync.runtime_canSpin", "internal/sync.runtime_doSpin", "internal/sync.throw", "internal/sync.runtime_nanotime", "internal/sync.runtime_SemacquireMutex", "sync/atomic.AddInt32", "(*internal/sync.Mutex).Unlock", "internal/race.ReleaseMerge", "(*internal/sync.Mutex).unlockSlow", "internal/sync.fatal", "internal/sync.runtime_Semrelease", "sync/atomic.StoreUint32"], unfollowed := true, recurses := true, apart := false }
def SlotSealedSaid : Prop := slotSealedRow.holds Try.pinned (OpenSpec.ofChange slotSealedSpec)

/-- ITS FALSE NEIGHBOUR: 'it returns false'. Refute it at one input. -/
def slotSealedWrong : ChangeSpec := { name := "slotSealed", fn := fun _ => fun
  | [d] => { results := [.lit (.bool false)], args := [d] }
  | _ => none }
def SlotSealedWrongFalsely : Prop := slotSealedRow.holds Try.pinned (OpenSpec.ofChange slotSealedWrong)

/-- 'tidemilllaw08.SlotNobody': WHATEVER THE INPUT: true; the input reads as it did. -/
def slotNobodySpec : ChangeSpec := { name := "slotNobody", fn := fun _ => fun
  | [d] => { results := [.lit (.bool true)], args := [d] }
  | _ => none }
def slotNobodyRow : OpenClaim := { program := "ytdfpcldoakbehaa", sum := "1df2b5e197a6957d9c9b5623b6076edc752f1a25a3d158badeef9abbd523c4d7", func := "tidemill/tidemilllaw08.SlotNobody", spec := "slotNobody", inPlace := ["sync/atomic.LoadUint32", "(*internal/sync.Mutex).Lock", "internal/race.Disable", "sync/atomic.CompareAndSwapInt32", "internal/race.Enable", "internal/race.Acquire", "(*internal/sync.Mutex).lockSlow", "internal/sync.runtime_canSpin", "internal/sync.runtime_doSpin", "internal/sync.throw", "internal/sync.runtime_nanotime", "internal/sync.runtime_SemacquireMutex", "sync/atomic.AddInt32", "(*internal/sync.Mutex).Unlock", "internal/race.ReleaseMerge", "(*internal/sync.Mutex).unlockSlow", "internal/sync.fatal", "internal/sync.runtime_Semrelease", "sync/atomic.StoreUint32"], unfollowed := true, recurses := true, apart := false }
def SlotNobodySaid : Prop := slotNobodyRow.holds Try.pinned (OpenSpec.ofChange slotNobodySpec)

/-- ITS FALSE NEIGHBOUR: 'it returns false'. Refute it at one input. -/
def slotNobodyWrong : ChangeSpec := { name := "slotNobody", fn := fun _ => fun
  | [d] => { results := [.lit (.bool false)], args := [d] }
  | _ => none }
def SlotNobodyWrongFalsely : Prop := slotNobodyRow.holds Try.pinned (OpenSpec.ofChange slotNobodyWrong)

/-- 'tidemilllaw08.SlotStays': WHATEVER THE INPUT: true; the input reads as it did. -/
def slotStaysSpec : ChangeSpec := { name := "slotStays", fn := fun _ => fun
  | [d] => { results := [.lit (.bool true)], args := [d] }
  | _ => none }
def slotStaysRow : OpenClaim := { program := "ytdfpcldoakbehaa", sum := "1df2b5e197a6957d9c9b5623b6076edc752f1a25a3d158badeef9abbd523c4d7", func := "tidemill/tidemilllaw08.SlotStays", spec := "slotStays", inPlace := ["sync/atomic.LoadUint32", "(*internal/sync.Mutex).Lock", "internal/race.Disable", "sync/atomic.CompareAndSwapInt32", "internal/race.Enable", "internal/race.Acquire", "(*internal/sync.Mutex).lockSlow", "internal/sync.runtime_canSpin", "internal/sync.runtime_doSpin", "internal/sync.throw", "internal/sync.runtime_nanotime", "internal/sync.runtime_SemacquireMutex", "sync/atomic.AddInt32", "(*internal/sync.Mutex).Unlock", "internal/race.ReleaseMerge", "(*internal/sync.Mutex).unlockSlow", "internal/sync.fatal", "internal/sync.runtime_Semrelease", "sync/atomic.StoreUint32"], unfollowed := true, recurses := true, apart := false }
def SlotStaysSaid : Prop := slotStaysRow.holds Try.pinned (OpenSpec.ofChange slotStaysSpec)

/-- ITS FALSE NEIGHBOUR: 'it returns false'. Refute it at one input. -/
def slotStaysWrong : ChangeSpec := { name := "slotStays", fn := fun _ => fun
  | [d] => { results := [.lit (.bool false)], args := [d] }
  | _ => none }
def SlotStaysWrongFalsely : Prop := slotStaysRow.holds Try.pinned (OpenSpec.ofChange slotStaysWrong)

/- THE SECOND FORM. 'bulk': how many values and letters a reading holds, each counted each time it is reached (what is shared counts as often as it is met; a slice's spare places count too). A statement '..UptoSaid' is the law's where the arguments, and the package variables that the reading takes, are together of bulk at most 1048576: NARROWER than '..Said'. Prove '..Said' where nothing that the law and all that it calls make is longer than what came in: it says more and counts as full. Else prove '..UptoSaid'. A law counts once. -/
mutual
def uptoBulk {H : Type} : DataW H → Nat
  | .lit (.string bytes) => bytes.length + 1
  | .lit _ => 1
  | .nil => 1
  | .ptr d => uptoBulk d + 1
  | .slice elems spare => uptoBulkAll elems + uptoBulkAll spare + 1
  | .agg parts => uptoBulkAll parts + 1
  | .iface _ d => uptoBulk d + 1
  | .map entries => uptoBulkEntries entries + 1
  | .held _ => 1
def uptoBulkAll {H : Type} : List (DataW H) → Nat
  | [] => 0
  | d :: r => uptoBulk d + uptoBulkAll r
def uptoBulkEntries {H : Type} : List (Lit × DataW H) → Nat
  | [] => 0
  | x :: r => uptoBulkEntry x + uptoBulkEntries r
def uptoBulkEntry {H : Type} : Lit × DataW H → Nat
  | (.string bytes, d) => bytes.length + uptoBulk d + 1
  | (_, d) => uptoBulk d + 1
 end
def uptoSmall : (H : Type) → List (DataW H) → Bool := fun _ ds => decide (uptoBulkAll ds ≤ 1048576)
def OpenSpec.upto (s : _root_.Go.ChangeSpec) : _root_.Go.OpenSpec := { _root_.Go.OpenSpec.ofChange s with cond := some uptoSmall }

/-- 'tidemilllaw08.SlotAgain', WHERE WHAT IT READS IS OF BULK AT MOST 1048576: true; the input reads as it did. -/
def slotAgainUptoRow : OpenClaim := { program := "ytdfpcldoakbehaa", sum := "1df2b5e197a6957d9c9b5623b6076edc752f1a25a3d158badeef9abbd523c4d7", func := "tidemill/tidemilllaw08.SlotAgain", spec := "slotAgain", inPlace := ["sync/atomic.LoadUint32", "(*internal/sync.Mutex).Lock", "internal/race.Disable", "sync/atomic.CompareAndSwapInt32", "internal/race.Enable", "internal/race.Acquire", "(*internal/sync.Mutex).lockSlow", "internal/sync.runtime_canSpin", "internal/sync.runtime_doSpin", "internal/sync.throw", "internal/sync.runtime_nanotime", "internal/sync.runtime_SemacquireMutex", "sync/atomic.AddInt32", "(*internal/sync.Mutex).Unlock", "internal/race.ReleaseMerge", "(*internal/sync.Mutex).unlockSlow", "internal/sync.fatal", "internal/sync.runtime_Semrelease", "sync/atomic.StoreUint32"], unfollowed := true, recurses := true, apart := false, narrowed := true }
def SlotAgainUptoSaid : Prop := slotAgainUptoRow.holds Try.pinned (OpenSpec.upto slotAgainSpec)

/-- 'tidemilllaw08.SlotTails', WHERE WHAT IT READS IS OF BULK AT MOST 1048576: true; the input reads as it did. -/
def slotTailsUptoRow : OpenClaim := { program := "ytdfpcldoakbehaa", sum := "1df2b5e197a6957d9c9b5623b6076edc752f1a25a3d158badeef9abbd523c4d7", func := "tidemill/tidemilllaw08.SlotTails", spec := "slotTails", inPlace := ["sync/atomic.LoadUint32", "(*internal/sync.Mutex).Lock", "internal/race.Disable", "sync/atomic.CompareAndSwapInt32", "internal/race.Enable", "internal/race.Acquire", "(*internal/sync.Mutex).lockSlow", "internal/sync.runtime_canSpin", "internal/sync.runtime_doSpin", "internal/sync.throw", "internal/sync.runtime_nanotime", "internal/sync.runtime_SemacquireMutex", "sync/atomic.AddInt32", "(*internal/sync.Mutex).Unlock", "internal/race.ReleaseMerge", "(*internal/sync.Mutex).unlockSlow", "internal/sync.fatal", "internal/sync.runtime_Semrelease", "sync/atomic.StoreUint32"], unfollowed := true, recurses := true, apart := false, narrowed := true }
def SlotTailsUptoSaid : Prop := slotTailsUptoRow.holds Try.pinned (OpenSpec.upto slotTailsSpec)

/-- 'tidemilllaw08.SlotSealed', WHERE WHAT IT READS IS OF BULK AT MOST 1048576: true; the input reads as it did. -/
def slotSealedUptoRow : OpenClaim := { program := "ytdfpcldoakbehaa", sum := "1df2b5e197a6957d9c9b5623b6076edc752f1a25a3d158badeef9abbd523c4d7", func := "tidemill/tidemilllaw08.SlotSealed", spec := "slotSealed", inPlace := ["sync/atomic.LoadUint32", "(*internal/sync.Mutex).Lock", "internal/race.Disable", "sync/atomic.CompareAndSwapInt32", "internal/race.Enable", "internal/race.Acquire", "(*internal/sync.Mutex).lockSlow", "internal/sync.runtime_canSpin", "internal/sync.runtime_doSpin", "internal/sync.throw", "internal/sync.runtime_nanotime", "internal/sync.runtime_SemacquireMutex", "sync/atomic.AddInt32", "(*internal/sync.Mutex).Unlock", "internal/race.ReleaseMerge", "(*internal/sync.Mutex).unlockSlow", "internal/sync.fatal", "internal/sync.runtime_Semrelease", "sync/atomic.StoreUint32"], unfollowed := true, recurses := true, apart := false, narrowed := true }
def SlotSealedUptoSaid : Prop := slotSealedUptoRow.holds Try.pinned (OpenSpec.upto slotSealedSpec)

/-- 'tidemilllaw08.SlotNobody', WHERE WHAT IT READS IS OF BULK AT MOST 1048576: true; the input reads as it did. -/
def slotNobodyUptoRow : OpenClaim := { program := "ytdfpcldoakbehaa", sum := "1df2b5e197a6957d9c9b5623b6076edc752f1a25a3d158badeef9abbd523c4d7", func := "tidemill/tidemilllaw08.SlotNobody", spec := "slotNobody", inPlace := ["sync/atomic.LoadUint32", "(*internal/sync.Mutex).Lock", "internal/race.Disable", "sync/atomic.CompareAndSwapInt32", "internal/race.Enable", "internal/race.Acquire", "(*internal/sync.Mutex).lockSlow", "internal/sync.runtime_canSpin", "internal/sync.runtime_doSpin", "internal/sync.throw", "internal/sync.runtime_nanotime", "internal/sync.runtime_SemacquireMutex", "sync/atomic.AddInt32", "(*internal/sync.Mutex).Unlock", "internal/race.ReleaseMerge", "(*internal/sync.Mutex).unlockSlow", "internal/sync.fatal", "internal/sync.runtime_Semrelease", "sync/atomic.StoreUint32"], unfollowed := true, recurses := true, apart := false, narrowed := true }
def SlotNobodyUptoSaid : Prop := slotNobodyUptoRow.holds Try.pinned (OpenSpec.upto slotNobodySpec)

/-- 'tidemilllaw08.SlotStays', WHERE WHAT IT READS IS OF BULK AT MOST 1048576: true; the input reads as it did. -/
def slotStaysUptoRow : OpenClaim := { program := "ytdfpcldoakbehaa", sum := "1df2b5e197a6957d9c9b5623b6076edc752f1a25a3d158badeef9abbd523c4d7", func := "tidemill/tidemilllaw08.SlotStays", spec := "slotStays", inPlace := ["sync/atomic.LoadUint32", "(*internal/sync.Mutex).Lock", "internal/race.Disable", "sync/atomic.CompareAndSwapInt32", "internal/race.Enable", "internal/race.Acquire", "(*internal/sync.Mutex).lockSlow", "internal/sync.runtime_canSpin", "internal/sync.runtime_doSpin", "internal/sync.throw", "internal/sync.runtime_nanotime", "internal/sync.runtime_SemacquireMutex", "sync/atomic.AddInt32", "(*internal/sync.Mutex).Unlock", "internal/race.ReleaseMerge", "(*internal/sync.Mutex).unlockSlow", "internal/sync.fatal", "internal/sync.runtime_Semrelease", "sync/atomic.StoreUint32"], unfollowed := true, recurses := true, apart := false, narrowed := true }
def SlotStaysUptoSaid : Prop := slotStaysUptoRow.holds Try.pinned (OpenSpec.upto slotStaysSpec)

end Rows
end Go.Proofs.Ytdfpcldoakbehaa

/-
  No cell of these rows narrows 'for every input' (looked for: loops, veiled, ifaces, maps, wideKeys, modest, calm, conditions, laid).
  DERIVED. THE GIVEN ROWS OF THIS SEAT. 6 by the template 'for every input the law returns true; each argument reads behind the call as it read before'; 0 by the template 'total and deterministic' (their statements: YtiinelmednbpmaaGreatTotals.lean).
  GIVEN WITH THE SEED: the statements are not yours to turn. If you find one false, say at which input.
  Laid BY PROGRAM, IN A SANDBOX (cutbox-rows.mjs): the forced cells as the released guide's own fill.sh prints them over the translation bea74355cf42af99… (all of the seat's roots in one cut). By AI agents, Wed Nov 11 2026. No macro, syntax, notation, axiom, sorry.
-/
import Derived.Test.YtiinelmednbpmaaGreatChecked
import GoSem.Claim
import GoSem.ClaimJoined
import GoSem.ClaimMapViews
import Derived.JoinedTies
import Derived.KernelRfl
namespace Go.Proofs.YtiinelmednbpmaaGreat
/- THE CELL 'sum', in the pinned program and in every row, IS THE sha256 OF THE DUMP (.gsa) THAT YtiinelmednbpmaaGreatProg.lean LOADS. Nothing in Lean hashes anything: it is a label: what it is worth is what the hold of that sum in a sandbox is worth. -/
noncomputable def Tryz.pinned : Pinned := { name := "ytiinelmednbpmaagreat", sum := "bea74355cf42af9917db952cafeb2ba109b86b574f989cbac071d287516fb1bd", checked := Tryz.checked }
namespace Rows
def none {H : Type} : Left H := { results := [], args := [] }

/-- 'tidemilllaw10.SlogMinor': WHATEVER THE INPUT: true; the input reads as it did. -/
def slogMinorSpec : ChangeSpec := { name := "slogMinor", fn := fun _ => fun
  | [d1, d2, d3] => { results := [.lit (.bool true)], args := [d1, d2, d3] }
  | _ => none }
def slogMinorRow : OpenClaim := { program := "ytiinelmednbpmaagreat", sum := "bea74355cf42af9917db952cafeb2ba109b86b574f989cbac071d287516fb1bd", func := "tidemill/tidemilllaw10.SlogMinor", spec := "slogMinor", inPlace := ["sync/atomic.LoadUint32", "(*internal/sync.Mutex).Lock", "internal/race.Disable", "sync/atomic.CompareAndSwapInt32", "internal/race.Enable", "internal/race.Acquire", "(*internal/sync.Mutex).lockSlow", "internal/sync.runtime_canSpin", "internal/sync.runtime_doSpin", "internal/sync.throw", "internal/sync.runtime_nanotime", "internal/sync.runtime_SemacquireMutex", "sync/atomic.AddInt32", "(*internal/sync.Mutex).Unlock", "internal/race.ReleaseMerge", "(*internal/sync.Mutex).unlockSlow", "internal/sync.fatal", "internal/sync.runtime_Semrelease", "sync/atomic.StoreUint32", "sync/atomic.LoadInt32"], unfollowed := true, recurses := true, apart := false }
def SlogMinorSaid : Prop := slogMinorRow.holds Tryz.pinned (OpenSpec.ofChange slogMinorSpec)

/-- ITS FALSE NEIGHBOUR: 'it returns false'. Refute it at one input. -/
def slogMinorWrong : ChangeSpec := { name := "slogMinor", fn := fun _ => fun
  | [d1, d2, d3] => { results := [.lit (.bool false)], args := [d1, d2, d3] }
  | _ => none }
def SlogMinorWrongFalsely : Prop := slogMinorRow.holds Tryz.pinned (OpenSpec.ofChange slogMinorWrong)

/-- 'tidemilllaw10.SlogOpens': WHATEVER THE INPUT: true; the input reads as it did. -/
def slogOpensSpec : ChangeSpec := { name := "slogOpens", fn := fun _ => fun
  | [d1, d2] => { results := [.lit (.bool true)], args := [d1, d2] }
  | _ => none }
def slogOpensRow : OpenClaim := { program := "ytiinelmednbpmaagreat", sum := "bea74355cf42af9917db952cafeb2ba109b86b574f989cbac071d287516fb1bd", func := "tidemill/tidemilllaw10.SlogOpens", spec := "slogOpens", inPlace := ["sync/atomic.LoadUint32", "(*internal/sync.Mutex).Lock", "internal/race.Disable", "sync/atomic.CompareAndSwapInt32", "internal/race.Enable", "internal/race.Acquire", "(*internal/sync.Mutex).lockSlow", "internal/sync.runtime_canSpin", "internal/sync.runtime_doSpin", "internal/sync.throw", "internal/sync.runtime_nanotime", "internal/sync.runtime_SemacquireMutex", "sync/atomic.AddInt32", "(*internal/sync.Mutex).Unlock", "internal/race.ReleaseMerge", "(*internal/sync.Mutex).unlockSlow", "internal/sync.fatal", "internal/sync.runtime_Semrelease", "sync/atomic.StoreUint32", "sync/atomic.LoadInt32"], unfollowed := true, recurses := true, apart := false }
def SlogOpensSaid : Prop := slogOpensRow.holds Tryz.pinned (OpenSpec.ofChange slogOpensSpec)

/-- ITS FALSE NEIGHBOUR: 'it returns false'. Refute it at one input. -/
def slogOpensWrong : ChangeSpec := { name := "slogOpens", fn := fun _ => fun
  | [d1, d2] => { results := [.lit (.bool false)], args := [d1, d2] }
  | _ => none }
def SlogOpensWrongFalsely : Prop := slogOpensRow.holds Tryz.pinned (OpenSpec.ofChange slogOpensWrong)

/-- 'tidemilllaw10.SlogLoses': WHATEVER THE INPUT: true; the input reads as it did. -/
def slogLosesSpec : ChangeSpec := { name := "slogLoses", fn := fun _ => fun
  | [d1, d2] => { results := [.lit (.bool true)], args := [d1, d2] }
  | _ => none }
def slogLosesRow : OpenClaim := { program := "ytiinelmednbpmaagreat", sum := "bea74355cf42af9917db952cafeb2ba109b86b574f989cbac071d287516fb1bd", func := "tidemill/tidemilllaw10.SlogLoses", spec := "slogLoses", inPlace := ["sync/atomic.LoadUint32", "(*internal/sync.Mutex).Lock", "internal/race.Disable", "sync/atomic.CompareAndSwapInt32", "internal/race.Enable", "internal/race.Acquire", "(*internal/sync.Mutex).lockSlow", "internal/sync.runtime_canSpin", "internal/sync.runtime_doSpin", "internal/sync.throw", "internal/sync.runtime_nanotime", "internal/sync.runtime_SemacquireMutex", "sync/atomic.AddInt32", "(*internal/sync.Mutex).Unlock", "internal/race.ReleaseMerge", "(*internal/sync.Mutex).unlockSlow", "internal/sync.fatal", "internal/sync.runtime_Semrelease", "sync/atomic.StoreUint32", "sync/atomic.LoadInt32"], unfollowed := true, recurses := true, apart := false }
def SlogLosesSaid : Prop := slogLosesRow.holds Tryz.pinned (OpenSpec.ofChange slogLosesSpec)

/-- ITS FALSE NEIGHBOUR: 'it returns false'. Refute it at one input. -/
def slogLosesWrong : ChangeSpec := { name := "slogLoses", fn := fun _ => fun
  | [d1, d2] => { results := [.lit (.bool false)], args := [d1, d2] }
  | _ => none }
def SlogLosesWrongFalsely : Prop := slogLosesRow.holds Tryz.pinned (OpenSpec.ofChange slogLosesWrong)

/-- 'tidemilllaw10.SlogStays': WHATEVER THE INPUT: true; the input reads as it did. -/
def slogStaysSpec : ChangeSpec := { name := "slogStays", fn := fun _ => fun
  | [d1, d2] => { results := [.lit (.bool true)], args := [d1, d2] }
  | _ => none }
def slogStaysRow : OpenClaim := { program := "ytiinelmednbpmaagreat", sum := "bea74355cf42af9917db952cafeb2ba109b86b574f989cbac071d287516fb1bd", func := "tidemill/tidemilllaw10.SlogStays", spec := "slogStays", inPlace := ["sync/atomic.LoadUint32", "(*internal/sync.Mutex).Lock", "internal/race.Disable", "sync/atomic.CompareAndSwapInt32", "internal/race.Enable", "internal/race.Acquire", "(*internal/sync.Mutex).lockSlow", "internal/sync.runtime_canSpin", "internal/sync.runtime_doSpin", "internal/sync.throw", "internal/sync.runtime_nanotime", "internal/sync.runtime_SemacquireMutex", "sync/atomic.AddInt32", "(*internal/sync.Mutex).Unlock", "internal/race.ReleaseMerge", "(*internal/sync.Mutex).unlockSlow", "internal/sync.fatal", "internal/sync.runtime_Semrelease", "sync/atomic.StoreUint32", "sync/atomic.LoadInt32"], unfollowed := true, recurses := true, apart := false }
def SlogStaysSaid : Prop := slogStaysRow.holds Tryz.pinned (OpenSpec.ofChange slogStaysSpec)

/-- ITS FALSE NEIGHBOUR: 'it returns false'. Refute it at one input. -/
def slogStaysWrong : ChangeSpec := { name := "slogStays", fn := fun _ => fun
  | [d1, d2] => { results := [.lit (.bool false)], args := [d1, d2] }
  | _ => none }
def SlogStaysWrongFalsely : Prop := slogStaysRow.holds Tryz.pinned (OpenSpec.ofChange slogStaysWrong)

/-- 'tidemilllaw10.SlogPlays': WHATEVER THE INPUT: true; the input reads as it did. -/
def slogPlaysSpec : ChangeSpec := { name := "slogPlays", fn := fun _ => fun
  | [d1, d2, d3] => { results := [.lit (.bool true)], args := [d1, d2, d3] }
  | _ => none }
def slogPlaysRow : OpenClaim := { program := "ytiinelmednbpmaagreat", sum := "bea74355cf42af9917db952cafeb2ba109b86b574f989cbac071d287516fb1bd", func := "tidemill/tidemilllaw10.SlogPlays", spec := "slogPlays", inPlace := ["sync/atomic.LoadUint32", "(*internal/sync.Mutex).Lock", "internal/race.Disable", "sync/atomic.CompareAndSwapInt32", "internal/race.Enable", "internal/race.Acquire", "(*internal/sync.Mutex).lockSlow", "internal/sync.runtime_canSpin", "internal/sync.runtime_doSpin", "internal/sync.throw", "internal/sync.runtime_nanotime", "internal/sync.runtime_SemacquireMutex", "sync/atomic.AddInt32", "(*internal/sync.Mutex).Unlock", "internal/race.ReleaseMerge", "(*internal/sync.Mutex).unlockSlow", "internal/sync.fatal", "internal/sync.runtime_Semrelease", "sync/atomic.StoreUint32", "sync/atomic.LoadInt32"], unfollowed := true, recurses := true, apart := false }
def SlogPlaysSaid : Prop := slogPlaysRow.holds Tryz.pinned (OpenSpec.ofChange slogPlaysSpec)

/-- ITS FALSE NEIGHBOUR: 'it returns false'. Refute it at one input. -/
def slogPlaysWrong : ChangeSpec := { name := "slogPlays", fn := fun _ => fun
  | [d1, d2, d3] => { results := [.lit (.bool false)], args := [d1, d2, d3] }
  | _ => none }
def SlogPlaysWrongFalsely : Prop := slogPlaysRow.holds Tryz.pinned (OpenSpec.ofChange slogPlaysWrong)

/-- 'tidemilllaw10.SlogNobody': WHATEVER THE INPUT: true; the input reads as it did. -/
def slogNobodySpec : ChangeSpec := { name := "slogNobody", fn := fun _ => fun
  | [d1, d2] => { results := [.lit (.bool true)], args := [d1, d2] }
  | _ => none }
def slogNobodyRow : OpenClaim := { program := "ytiinelmednbpmaagreat", sum := "bea74355cf42af9917db952cafeb2ba109b86b574f989cbac071d287516fb1bd", func := "tidemill/tidemilllaw10.SlogNobody", spec := "slogNobody", inPlace := ["sync/atomic.LoadUint32", "(*internal/sync.Mutex).Lock", "internal/race.Disable", "sync/atomic.CompareAndSwapInt32", "internal/race.Enable", "internal/race.Acquire", "(*internal/sync.Mutex).lockSlow", "internal/sync.runtime_canSpin", "internal/sync.runtime_doSpin", "internal/sync.throw", "internal/sync.runtime_nanotime", "internal/sync.runtime_SemacquireMutex", "sync/atomic.AddInt32", "(*internal/sync.Mutex).Unlock", "internal/race.ReleaseMerge", "(*internal/sync.Mutex).unlockSlow", "internal/sync.fatal", "internal/sync.runtime_Semrelease", "sync/atomic.StoreUint32", "sync/atomic.LoadInt32"], unfollowed := true, recurses := true, apart := false }
def SlogNobodySaid : Prop := slogNobodyRow.holds Tryz.pinned (OpenSpec.ofChange slogNobodySpec)

/-- ITS FALSE NEIGHBOUR: 'it returns false'. Refute it at one input. -/
def slogNobodyWrong : ChangeSpec := { name := "slogNobody", fn := fun _ => fun
  | [d1, d2] => { results := [.lit (.bool false)], args := [d1, d2] }
  | _ => none }
def SlogNobodyWrongFalsely : Prop := slogNobodyRow.holds Tryz.pinned (OpenSpec.ofChange slogNobodyWrong)

/- THE SECOND FORM. 'bulk': how many values and letters a reading holds, each counted each time it is reached (what is shared counts as often as it is met; a slice's spare places count too). A statement '..UptoSaid' is the law's where the arguments, and the package variables that the reading takes, are together of bulk at most 1048576: NARROWER than '..Said'. Prove '..Said' where nothing that the law and all that it calls make is longer than what came in: it says more and counts as full. Else prove '..UptoSaid'. A law counts once. -/
mutual
def uptoBulk {H : Type} : DataW H → Nat
  | .lit (.string bytes) => bytes.length + 1
  | .lit _ => 1
  | .nil => 1
  | .ptr d => uptoBulk d + 1
  | .slice elems spare => uptoBulkAll elems + uptoBulkAll spare + 1
  | .agg parts => uptoBulkAll parts + 1
  | .iface _ d => uptoBulk d + 1
  | .map entries => uptoBulkEntries entries + 1
  | .held _ => 1
def uptoBulkAll {H : Type} : List (DataW H) → Nat
  | [] => 0
  | d :: r => uptoBulk d + uptoBulkAll r
def uptoBulkEntries {H : Type} : List (Lit × DataW H) → Nat
  | [] => 0
  | x :: r => uptoBulkEntry x + uptoBulkEntries r
def uptoBulkEntry {H : Type} : Lit × DataW H → Nat
  | (.string bytes, d) => bytes.length + uptoBulk d + 1
  | (_, d) => uptoBulk d + 1
 end
def uptoSmall : (H : Type) → List (DataW H) → Bool := fun _ ds => decide (uptoBulkAll ds ≤ 1048576)
def OpenSpec.upto (s : _root_.Go.ChangeSpec) : _root_.Go.OpenSpec := { _root_.Go.OpenSpec.ofChange s with cond := some uptoSmall }

/-- 'tidemilllaw10.SlogMinor', WHERE WHAT IT READS IS OF BULK AT MOST 1048576: true; the input reads as it did. -/
def slogMinorUptoRow : OpenClaim := { program := "ytiinelmednbpmaagreat", sum := "bea74355cf42af9917db952cafeb2ba109b86b574f989cbac071d287516fb1bd", func := "tidemill/tidemilllaw10.SlogMinor", spec := "slogMinor", inPlace := ["sync/atomic.LoadUint32", "(*internal/sync.Mutex).Lock", "internal/race.Disable", "sync/atomic.CompareAndSwapInt32", "internal/race.Enable", "internal/race.Acquire", "(*internal/sync.Mutex).lockSlow", "internal/sync.runtime_canSpin", "internal/sync.runtime_doSpin", "internal/sync.throw", "internal/sync.runtime_nanotime", "internal/sync.runtime_SemacquireMutex", "sync/atomic.AddInt32", "(*internal/sync.Mutex).Unlock", "internal/race.ReleaseMerge", "(*internal/sync.Mutex).unlockSlow", "internal/sync.fatal", "internal/sync.runtime_Semrelease", "sync/atomic.StoreUint32", "sync/atomic.LoadInt32"], unfollowed := true, recurses := true, apart := false, narrowed := true }
def SlogMinorUptoSaid : Prop := slogMinorUptoRow.holds Tryz.pinned (OpenSpec.upto slogMinorSpec)

/-- 'tidemilllaw10.SlogOpens', WHERE WHAT IT READS IS OF BULK AT MOST 1048576: true; the input reads as it did. -/
def slogOpensUptoRow : OpenClaim := { program := "ytiinelmednbpmaagreat", sum := "bea74355cf42af9917db952cafeb2ba109b86b574f989cbac071d287516fb1bd", func := "tidemill/tidemilllaw10.SlogOpens", spec := "slogOpens", inPlace := ["sync/atomic.LoadUint32", "(*internal/sync.Mutex).Lock", "internal/race.Disable", "sync/atomic.CompareAndSwapInt32", "internal/race.Enable", "internal/race.Acquire", "(*internal/sync.Mutex).lockSlow", "internal/sync.runtime_canSpin", "internal/sync.runtime_doSpin", "internal/sync.throw", "internal/sync.runtime_nanotime", "internal/sync.runtime_SemacquireMutex", "sync/atomic.AddInt32", "(*internal/sync.Mutex).Unlock", "internal/race.ReleaseMerge", "(*internal/sync.Mutex).unlockSlow", "internal/sync.fatal", "internal/sync.runtime_Semrelease", "sync/atomic.StoreUint32", "sync/atomic.LoadInt32"], unfollowed := true, recurses := true, apart := false, narrowed := true }
def SlogOpensUptoSaid : Prop := slogOpensUptoRow.holds Tryz.pinned (OpenSpec.upto slogOpensSpec)

/-- 'tidemilllaw10.SlogLoses', WHERE WHAT IT READS IS OF BULK AT MOST 1048576: true; the input reads as it did. -/
def slogLosesUptoRow : OpenClaim := { program := "ytiinelmednbpmaagreat", sum := "bea74355cf42af9917db952cafeb2ba109b86b574f989cbac071d287516fb1bd", func := "tidemill/tidemilllaw10.SlogLoses", spec := "slogLoses", inPlace := ["sync/atomic.LoadUint32", "(*internal/sync.Mutex).Lock", "internal/race.Disable", "sync/atomic.CompareAndSwapInt32", "internal/race.Enable", "internal/race.Acquire", "(*internal/sync.Mutex).lockSlow", "internal/sync.runtime_canSpin", "internal/sync.runtime_doSpin", "internal/sync.throw", "internal/sync.runtime_nanotime", "internal/sync.runtime_SemacquireMutex", "sync/atomic.AddInt32", "(*internal/sync.Mutex).Unlock", "internal/race.ReleaseMerge", "(*internal/sync.Mutex).unlockSlow", "internal/sync.fatal", "internal/sync.runtime_Semrelease", "sync/atomic.StoreUint32", "sync/atomic.LoadInt32"], unfollowed := true, recurses := true, apart := false, narrowed := true }
def SlogLosesUptoSaid : Prop := slogLosesUptoRow.holds Tryz.pinned (OpenSpec.upto slogLosesSpec)

/-- 'tidemilllaw10.SlogStays', WHERE WHAT IT READS IS OF BULK AT MOST 1048576: true; the input reads as it did. -/
def slogStaysUptoRow : OpenClaim := { program := "ytiinelmednbpmaagreat", sum := "bea74355cf42af9917db952cafeb2ba109b86b574f989cbac071d287516fb1bd", func := "tidemill/tidemilllaw10.SlogStays", spec := "slogStays", inPlace := ["sync/atomic.LoadUint32", "(*internal/sync.Mutex).Lock", "internal/race.Disable", "sync/atomic.CompareAndSwapInt32", "internal/race.Enable", "internal/race.Acquire", "(*internal/sync.Mutex).lockSlow", "internal/sync.runtime_canSpin", "internal/sync.runtime_doSpin", "internal/sync.throw", "internal/sync.runtime_nanotime", "internal/sync.runtime_SemacquireMutex", "sync/atomic.AddInt32", "(*internal/sync.Mutex).Unlock", "internal/race.ReleaseMerge", "(*internal/sync.Mutex).unlockSlow", "internal/sync.fatal", "internal/sync.runtime_Semrelease", "sync/atomic.StoreUint32", "sync/atomic.LoadInt32"], unfollowed := true, recurses := true, apart := false, narrowed := true }
def SlogStaysUptoSaid : Prop := slogStaysUptoRow.holds Tryz.pinned (OpenSpec.upto slogStaysSpec)

/-- 'tidemilllaw10.SlogPlays', WHERE WHAT IT READS IS OF BULK AT MOST 1048576: true; the input reads as it did. -/
def slogPlaysUptoRow : OpenClaim := { program := "ytiinelmednbpmaagreat", sum := "bea74355cf42af9917db952cafeb2ba109b86b574f989cbac071d287516fb1bd", func := "tidemill/tidemilllaw10.SlogPlays", spec := "slogPlays", inPlace := ["sync/atomic.LoadUint32", "(*internal/sync.Mutex).Lock", "internal/race.Disable", "sync/atomic.CompareAndSwapInt32", "internal/race.Enable", "internal/race.Acquire", "(*internal/sync.Mutex).lockSlow", "internal/sync.runtime_canSpin", "internal/sync.runtime_doSpin", "internal/sync.throw", "internal/sync.runtime_nanotime", "internal/sync.runtime_SemacquireMutex", "sync/atomic.AddInt32", "(*internal/sync.Mutex).Unlock", "internal/race.ReleaseMerge", "(*internal/sync.Mutex).unlockSlow", "internal/sync.fatal", "internal/sync.runtime_Semrelease", "sync/atomic.StoreUint32", "sync/atomic.LoadInt32"], unfollowed := true, recurses := true, apart := false, narrowed := true }
def SlogPlaysUptoSaid : Prop := slogPlaysUptoRow.holds Tryz.pinned (OpenSpec.upto slogPlaysSpec)

/-- 'tidemilllaw10.SlogNobody', WHERE WHAT IT READS IS OF BULK AT MOST 1048576: true; the input reads as it did. -/
def slogNobodyUptoRow : OpenClaim := { program := "ytiinelmednbpmaagreat", sum := "bea74355cf42af9917db952cafeb2ba109b86b574f989cbac071d287516fb1bd", func := "tidemill/tidemilllaw10.SlogNobody", spec := "slogNobody", inPlace := ["sync/atomic.LoadUint32", "(*internal/sync.Mutex).Lock", "internal/race.Disable", "sync/atomic.CompareAndSwapInt32", "internal/race.Enable", "internal/race.Acquire", "(*internal/sync.Mutex).lockSlow", "internal/sync.runtime_canSpin", "internal/sync.runtime_doSpin", "internal/sync.throw", "internal/sync.runtime_nanotime", "internal/sync.runtime_SemacquireMutex", "sync/atomic.AddInt32", "(*internal/sync.Mutex).Unlock", "internal/race.ReleaseMerge", "(*internal/sync.Mutex).unlockSlow", "internal/sync.fatal", "internal/sync.runtime_Semrelease", "sync/atomic.StoreUint32", "sync/atomic.LoadInt32"], unfollowed := true, recurses := true, apart := false, narrowed := true }
def SlogNobodyUptoSaid : Prop := slogNobodyUptoRow.holds Tryz.pinned (OpenSpec.upto slogNobodySpec)

end Rows
end Go.Proofs.YtiinelmednbpmaaGreat

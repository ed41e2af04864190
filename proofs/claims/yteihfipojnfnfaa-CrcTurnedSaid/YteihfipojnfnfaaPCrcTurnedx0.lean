-- Written by a turned copy of the print, with contracts that this session proved by hand.
import Derived.Test.YteihfipojnfnfaaProg
import Derived.Below
import Derived.Deep.Draws
import Derived.Deep.AppendLies
import Derived.Maps.AppendAt
import Derived.OwnWalk
import Derived.Laws.BytesArg
import Derived.Laws.MakeOwn
import Derived.Laws.OwnMore
import Derived.Deep.OwnRows
import Derived.Tactics
import Derived.Lib.ConvBytes
import Derived.Laws.Slices
import Derived.WalkKit
import Derived.KernelRfl
import Derived.RowKit3
import Derived.Deep.LoopGhost
import Derived.Deep.QuietTactic
import Derived.BigQuiet
import Derived.WideLaws
import Derived.Deep.DeepCutAuto
import Derived.Deep.CutBlock
import Derived.Deep.RegionHeld3
import Derived.Laws.Rows
import Derived.Lib.AppendStr
import Derived.ArgAppend
import Derived.Laws.IdiomCopy
import Derived.OrdersHeld
import Derived.Laws.BitsLemmas
import Derived.RowKit
import Derived.Test.YteihfipojnfnfaaCrcKit
import Derived.Test.YteihfipojnfnfaaWWords
import Derived.Test.YteihfipojnfnfaaWLast
import Derived.Test.YteihfipojnfnfaaWTab
import Derived.Test.YteihfipojnfnfaaWFour
import Derived.Test.YteihfipojnfnfaaWQPut
import Derived.Test.YteihfipojnfnfaaWApart
import Derived.Test.YteihfipojnfnfaaWArr
import Derived.Test.YteihfipojnfnfaaWZeros
import Derived.Test.YteihfipojnfnfaaWFoot
import Derived.Test.YteihfipojnfnfaaWKept
import Derived.Test.YteihfipojnfnfaaWShare
import Derived.Test.YteihfipojnfnfaaWN
import Derived.Test.YteihfipojnfnfaaWFootNe
import Derived.Test.YteihfipojnfnfaaWAt
import Derived.Test.YteihfipojnfnfaaWEqStruct
import Derived.Test.YteihfipojnfnfaaWRepsOne
import Derived.Test.YteihfipojnfnfaaWInv
import Derived.Test.YteihfipojnfnfaaWInvWords
import Derived.Test.YteihfipojnfnfaaWGuard
import Derived.Test.YteihfipojnfnfaaWNEv
import Derived.Test.YteihfipojnfnfaaWMore
namespace Go.Proofs.Yteihfipojnfnfaa.PCrcTurned
open Go.RowKit Go.Proofs.YteihfipojnfnfaaW.PrintWords Go.Proofs.YteihfipojnfnfaaW.PrintLast Go.Proofs.YteihfipojnfnfaaW.PrintMore
attribute [local go_sem] max2_int min2_int max_two min_two max_three min_three max_four min_four   -- for this text's walks alone
set_option linter.unusedVariables false
set_option linter.unusedSimpArgs false



def errW : Option Int → Value
  | none => .nilIface
  | some c => .iface 0 (.int .i64 c)
theorem errW_none : errW none = .nilIface := rfl
theorem errW_some (c : Int) : errW (some c) = .iface 0 (.int .i64 c) := rfl

theorem info5 : (Try.prog.info? 5).map (fun i => (i.zero, i.size, i.bytes)) = some (some (.int .u8 0), 1, 1) := by kernel_rfl
-- the values' own types

end Go.Proofs.Yteihfipojnfnfaa.PCrcTurned

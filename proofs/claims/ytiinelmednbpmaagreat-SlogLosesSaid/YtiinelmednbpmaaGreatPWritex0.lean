-- Written by a turned copy of the print, with contracts that this session proved by hand.
import Derived.Test.YtiinelmednbpmaaGreatProg
import Derived.Below
import Derived.Deep.Draws
import Derived.Deep.AppendLies
import Derived.Maps.AppendAt
import Derived.OwnWalk
import Derived.Laws.BytesArg
import Derived.Laws.MakeOwn
import Derived.Laws.OwnMore
import Derived.Deep.OwnRows
import Derived.Tactics
import Derived.Lib.ConvBytes
import Derived.Laws.Slices
import Derived.WalkKit
import Derived.KernelRfl
import Derived.RowKit3
import Derived.Deep.LoopGhost
import Derived.Deep.QuietTactic
import Derived.BigQuiet
import Derived.WideLaws
import Derived.Deep.DeepCutAuto
import Derived.Deep.CutBlock
import Derived.Deep.RegionHeld3
import Derived.Laws.Rows
import Derived.Lib.AppendStr
import Derived.ArgAppend
import Derived.Laws.IdiomCopy
import Derived.OrdersHeld
import Derived.Laws.BitsLemmas
import Derived.RowKit
import Derived.Test.YtiinelmednbpmaaGreatCrcScan
import Derived.Test.YtiinelmednbpmaaGreatWWords
import Derived.Test.YtiinelmednbpmaaGreatWLast
import Derived.Test.YtiinelmednbpmaaGreatWTab
import Derived.Test.YtiinelmednbpmaaGreatWFour
import Derived.Test.YtiinelmednbpmaaGreatWQPut
import Derived.Test.YtiinelmednbpmaaGreatWApart
import Derived.Test.YtiinelmednbpmaaGreatWArr
import Derived.Test.YtiinelmednbpmaaGreatWZeros
import Derived.Test.YtiinelmednbpmaaGreatWFoot
import Derived.Test.YtiinelmednbpmaaGreatWKept
import Derived.Test.YtiinelmednbpmaaGreatWShare
import Derived.Test.YtiinelmednbpmaaGreatWN
import Derived.Test.YtiinelmednbpmaaGreatWFootNe
import Derived.Test.YtiinelmednbpmaaGreatWAt
import Derived.Test.YtiinelmednbpmaaGreatWEqStruct
import Derived.Test.YtiinelmednbpmaaGreatWRepsOne
import Derived.Test.YtiinelmednbpmaaGreatWInv
import Derived.Test.YtiinelmednbpmaaGreatWInvWords
import Derived.Test.YtiinelmednbpmaaGreatWGuard
import Derived.Test.YtiinelmednbpmaaGreatWNEv
import Derived.Test.YtiinelmednbpmaaGreatWMore
namespace Go.Proofs.YtiinelmednbpmaaGreat.PWrite
open Go.RowKit Go.Proofs.YtiinelmednbpmaaGreatW.PrintWords Go.Proofs.YtiinelmednbpmaaGreatW.PrintLast Go.Proofs.YtiinelmednbpmaaGreatW.PrintMore
attribute [local go_sem] max2_int min2_int max_two min_two max_three min_three max_four min_four   -- for this text's walks alone
set_option linter.unusedVariables false
set_option linter.unusedSimpArgs false



def errW : Option Int → Value
  | none => .nilIface
  | some c => .iface 0 (.int .i64 c)
theorem errW_none : errW none = .nilIface := rfl
theorem errW_some (c : Int) : errW (some c) = .iface 0 (.int .i64 c) := rfl

theorem info5 : (Tryz.prog.info? 5).map (fun i => (i.zero, i.size, i.bytes)) = some (some (.int .u8 0), 1, 1) := by kernel_rfl
-- the values' own types

end Go.Proofs.YtiinelmednbpmaaGreat.PWrite

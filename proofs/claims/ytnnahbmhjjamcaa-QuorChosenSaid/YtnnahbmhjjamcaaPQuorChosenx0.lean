-- Written by a turned copy of the print, with contracts that this session proved by hand.
import Derived.Test.YtnnahbmhjjamcaaProg
import Derived.Below
import Derived.Deep.Draws
import Derived.Deep.AppendLies
import Derived.Maps.AppendAt
import Derived.OwnWalk
import Derived.Laws.BytesArg
import Derived.Laws.MakeOwn
import Derived.Laws.OwnMore
import Derived.Deep.OwnRows
import Derived.Tactics
import Derived.Lib.ConvBytes
import Derived.Laws.Slices
import Derived.WalkKit
import Derived.KernelRfl
import Derived.RowKit3
import Derived.Deep.LoopGhost
import Derived.Deep.QuietTactic
import Derived.BigQuiet
import Derived.WideLaws
import Derived.Deep.DeepCutAuto
import Derived.Deep.CutBlock
import Derived.Deep.RegionHeld3
import Derived.Laws.Rows
import Derived.Lib.AppendStr
import Derived.ArgAppend
import Derived.Laws.IdiomCopy
import Derived.OrdersHeld
import Derived.Laws.BitsLemmas
import Derived.RowKit
import Derived.Test.YtnnahbmhjjamcaaWWords
import Derived.Test.YtnnahbmhjjamcaaWLast
import Derived.Test.YtnnahbmhjjamcaaWTab
import Derived.Test.YtnnahbmhjjamcaaWFour
import Derived.Test.YtnnahbmhjjamcaaWQPut
import Derived.Test.YtnnahbmhjjamcaaWApart
import Derived.Test.YtnnahbmhjjamcaaWArr
import Derived.Test.YtnnahbmhjjamcaaWZeros
import Derived.Test.YtnnahbmhjjamcaaWFoot
import Derived.Test.YtnnahbmhjjamcaaWKept
import Derived.Test.YtnnahbmhjjamcaaWShare
import Derived.Test.YtnnahbmhjjamcaaWN
import Derived.Test.YtnnahbmhjjamcaaWFootNe
import Derived.Test.YtnnahbmhjjamcaaWAt
import Derived.Test.YtnnahbmhjjamcaaWEqStruct
import Derived.Test.YtnnahbmhjjamcaaWRepsOne
import Derived.Test.YtnnahbmhjjamcaaWInv
import Derived.Test.YtnnahbmhjjamcaaWInvWords
import Derived.Test.YtnnahbmhjjamcaaWGuard
import Derived.Test.YtnnahbmhjjamcaaWNEv
import Derived.Test.YtnnahbmhjjamcaaWMore
namespace Go.Proofs.Ytnnahbmhjjamcaa.PQuorChosen
open Go.RowKit Go.Proofs.YtnnahbmhjjamcaaW.PrintWords Go.Proofs.YtnnahbmhjjamcaaW.PrintLast Go.Proofs.YtnnahbmhjjamcaaW.PrintMore
attribute [local go_sem] max2_int min2_int max_two min_two max_three min_three max_four min_four   -- for this text's walks alone
set_option linter.unusedVariables false
set_option linter.unusedSimpArgs false



def errW : Option Int → Value
  | none => .nilIface
  | some c => .iface 0 (.int .i64 c)
theorem errW_none : errW none = .nilIface := rfl
theorem errW_some (c : Int) : errW (some c) = .iface 0 (.int .i64 c) := rfl

-- the values' own types

end Go.Proofs.Ytnnahbmhjjamcaa.PQuorChosen

-- Written by a turned copy of the print, with contracts that this session proved by hand.
import Derived.Test.YtjngkndiokfibaaProg
import Derived.Below
import Derived.Deep.Draws
import Derived.Deep.AppendLies
import Derived.Maps.AppendAt
import Derived.OwnWalk
import Derived.Laws.BytesArg
import Derived.Laws.MakeOwn
import Derived.Laws.OwnMore
import Derived.Deep.OwnRows
import Derived.Tactics
import Derived.Lib.ConvBytes
import Derived.Laws.Slices
import Derived.WalkKit
import Derived.KernelRfl
import Derived.RowKit3
import Derived.Deep.LoopGhost
import Derived.Deep.QuietTactic
import Derived.BigQuiet
import Derived.WideLaws
import Derived.Deep.DeepCutAuto
import Derived.Deep.CutBlock
import Derived.Deep.RegionHeld3
import Derived.Laws.Rows
import Derived.Lib.AppendStr
import Derived.ArgAppend
import Derived.Laws.IdiomCopy
import Derived.OrdersHeld
import Derived.Laws.BitsLemmas
import Derived.RowKit
import Derived.Test.YtjngkndiokfibaaAsgnWalk
import Derived.Test.YtjngkndiokfibaaWWords
import Derived.Test.YtjngkndiokfibaaWLast
import Derived.Test.YtjngkndiokfibaaWTab
import Derived.Test.YtjngkndiokfibaaWFour
import Derived.Test.YtjngkndiokfibaaWQPut
import Derived.Test.YtjngkndiokfibaaWApart
import Derived.Test.YtjngkndiokfibaaWArr
import Derived.Test.YtjngkndiokfibaaWZeros
import Derived.Test.YtjngkndiokfibaaWFoot
import Derived.Test.YtjngkndiokfibaaWKept
import Derived.Test.YtjngkndiokfibaaWShare
import Derived.Test.YtjngkndiokfibaaWN
import Derived.Test.YtjngkndiokfibaaWFootNe
import Derived.Test.YtjngkndiokfibaaWAt
import Derived.Test.YtjngkndiokfibaaWEqStruct
import Derived.Test.YtjngkndiokfibaaWRepsOne
import Derived.Test.YtjngkndiokfibaaWInv
import Derived.Test.YtjngkndiokfibaaWInvWords
import Derived.Test.YtjngkndiokfibaaWGuard
import Derived.Test.YtjngkndiokfibaaWNEv
import Derived.Test.YtjngkndiokfibaaWMore
namespace Go.Proofs.Ytjngkndiokfibaa.PAsgnGives
open Go.RowKit Go.Proofs.YtjngkndiokfibaaW.PrintWords Go.Proofs.YtjngkndiokfibaaW.PrintLast Go.Proofs.YtjngkndiokfibaaW.PrintMore
attribute [local go_sem] max2_int min2_int max_two min_two max_three min_three max_four min_four   -- for this text's walks alone
set_option linter.unusedVariables false
set_option linter.unusedSimpArgs false



def errW : Option Int → Value
  | none => .nilIface
  | some c => .iface 0 (.int .i64 c)
theorem errW_none : errW none = .nilIface := rfl
theorem errW_some (c : Int) : errW (some c) = .iface 0 (.int .i64 c) := rfl

theorem info3 : (Try.prog.info? 3).map (fun i => (i.zero, i.size, i.bytes)) = some (some (.int .i64 0), 1, 8) := by kernel_rfl
theorem info4 : (Try.prog.info? 4).map (fun i => (i.zero, i.size, i.bytes)) = some (some (.bool false), 1, 1) := by kernel_rfl
-- the values' own types

end Go.Proofs.Ytjngkndiokfibaa.PAsgnGives

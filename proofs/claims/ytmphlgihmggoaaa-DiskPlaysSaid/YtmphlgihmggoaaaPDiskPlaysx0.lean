-- Written by a turned copy of the print, with contracts that this session proved by hand.
import Derived.Test.YtmphlgihmggoaaaProg
import Derived.Below
import Derived.Deep.Draws
import Derived.Deep.AppendLies
import Derived.Maps.AppendAt
import Derived.OwnWalk
import Derived.Laws.BytesArg
import Derived.Laws.MakeOwn
import Derived.Laws.OwnMore
import Derived.Deep.OwnRows
import Derived.Tactics
import Derived.Lib.ConvBytes
import Derived.Laws.Slices
import Derived.WalkKit
import Derived.KernelRfl
import Derived.RowKit3
import Derived.Deep.LoopGhost
import Derived.Deep.QuietTactic
import Derived.BigQuiet
import Derived.WideLaws
import Derived.Deep.DeepCutAuto
import Derived.Deep.CutBlock
import Derived.Deep.RegionHeld3
import Derived.Laws.Rows
import Derived.Lib.AppendStr
import Derived.ArgAppend
import Derived.Laws.IdiomCopy
import Derived.OrdersHeld
import Derived.Laws.BitsLemmas
import Derived.RowKit
import Derived.Test.YtmphlgihmggoaaaWWords
import Derived.Test.YtmphlgihmggoaaaWLast
import Derived.Test.YtmphlgihmggoaaaWTab
import Derived.Test.YtmphlgihmggoaaaWFour
import Derived.Test.YtmphlgihmggoaaaWQPut
import Derived.Test.YtmphlgihmggoaaaWApart
import Derived.Test.YtmphlgihmggoaaaWArr
import Derived.Test.YtmphlgihmggoaaaWZeros
import Derived.Test.YtmphlgihmggoaaaWFoot
import Derived.Test.YtmphlgihmggoaaaWKept
import Derived.Test.YtmphlgihmggoaaaWShare
import Derived.Test.YtmphlgihmggoaaaWN
import Derived.Test.YtmphlgihmggoaaaWFootNe
import Derived.Test.YtmphlgihmggoaaaWAt
import Derived.Test.YtmphlgihmggoaaaWEqStruct
import Derived.Test.YtmphlgihmggoaaaWRepsOne
import Derived.Test.YtmphlgihmggoaaaWInv
import Derived.Test.YtmphlgihmggoaaaWInvWords
import Derived.Test.YtmphlgihmggoaaaWGuard
import Derived.Test.YtmphlgihmggoaaaWNEv
import Derived.Test.YtmphlgihmggoaaaWMore
namespace Go.Proofs.Ytmphlgihmggoaaa.PDiskPlays
open Go.RowKit Go.Proofs.YtmphlgihmggoaaaW.PrintWords Go.Proofs.YtmphlgihmggoaaaW.PrintLast Go.Proofs.YtmphlgihmggoaaaW.PrintMore
attribute [local go_sem] max2_int min2_int max_two min_two max_three min_three max_four min_four   -- for this text's walks alone
set_option linter.unusedVariables false
set_option linter.unusedSimpArgs false



def errW : Option Int → Value
  | none => .nilIface
  | some c => .iface 0 (.int .i64 c)
theorem errW_none : errW none = .nilIface := rfl
theorem errW_some (c : Int) : errW (some c) = .iface 0 (.int .i64 c) := rfl

theorem info5 : (Try.prog.info? 5).map (fun i => (i.zero, i.size, i.bytes)) = some (some (.int .u8 0), 1, 1) := by kernel_rfl
-- the values' own types

end Go.Proofs.Ytmphlgihmggoaaa.PDiskPlays

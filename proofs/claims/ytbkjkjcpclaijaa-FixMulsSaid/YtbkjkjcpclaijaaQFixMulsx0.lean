-- Written for this claim by a program of this session (wip/tools/mprint.sh)
import Derived.Test.YtbkjkjcpclaijaaProg
import Derived.Below
import Derived.Deep.Draws
import Derived.Deep.AppendLies
import Derived.Maps.AppendAt
import Derived.OwnWalk
import Derived.Laws.BytesArg
import Derived.Laws.MakeOwn
import Derived.Laws.OwnMore
import Derived.Deep.OwnRows
import Derived.Tactics
import Derived.Lib.ConvBytes
import Derived.Laws.Slices
import Derived.WalkKit
import Derived.KernelRfl
import Derived.RowKit3
import Derived.Deep.LoopGhost
import Derived.Deep.QuietTactic
import Derived.BigQuiet
import Derived.WideLaws
import Derived.Deep.DeepCutAuto
import Derived.Deep.CutBlock
import Derived.Deep.RegionHeld3
import Derived.Laws.Rows
import Derived.Lib.AppendStr
import Derived.ArgAppend
import Derived.Laws.IdiomCopy
import Derived.OrdersHeld
import Derived.Laws.BitsLemmas
import Derived.RowKit
import Derived.Test.YtbkjkjcpclaijaaWWords
import Derived.Test.YtbkjkjcpclaijaaWLast
import Derived.Test.YtbkjkjcpclaijaaWTab
import Derived.Test.YtbkjkjcpclaijaaWFour
import Derived.Test.YtbkjkjcpclaijaaWQPut
import Derived.Test.YtbkjkjcpclaijaaWApart
import Derived.Test.YtbkjkjcpclaijaaWArr
import Derived.Test.YtbkjkjcpclaijaaWZeros
import Derived.Test.YtbkjkjcpclaijaaWFoot
import Derived.Test.YtbkjkjcpclaijaaWKept
import Derived.Test.YtbkjkjcpclaijaaWShare
import Derived.Test.YtbkjkjcpclaijaaWN
import Derived.Test.YtbkjkjcpclaijaaWFootNe
import Derived.Test.YtbkjkjcpclaijaaWAt
import Derived.Test.YtbkjkjcpclaijaaWEqStruct
import Derived.Test.YtbkjkjcpclaijaaWRepsOne
import Derived.Test.YtbkjkjcpclaijaaWInv
import Derived.Test.YtbkjkjcpclaijaaWInvWords
import Derived.Test.YtbkjkjcpclaijaaWGuard
import Derived.Test.YtbkjkjcpclaijaaWNEv
import Derived.Test.YtbkjkjcpclaijaaWMore
namespace Go.Proofs.Ytbkjkjcpclaijaa.QFixMuls
open Go.RowKit Go.Proofs.YtbkjkjcpclaijaaW.PrintWords Go.Proofs.YtbkjkjcpclaijaaW.PrintLast Go.Proofs.YtbkjkjcpclaijaaW.PrintMore
attribute [local go_sem] max2_int min2_int max_two min_two max_three min_three max_four min_four   -- for this text's walks alone
set_option linter.unusedVariables false
set_option linter.unusedSimpArgs false



def errW : Option Int → Value
  | none => .nilIface
  | some c => .iface 0 (.int .i64 c)
theorem errW_none : errW none = .nilIface := rfl
theorem errW_some (c : Int) : errW (some c) = .iface 0 (.int .i64 c) := rfl

theorem info2 : (Try.prog.info? 2).map (fun i => (i.zero, i.size, i.bytes)) = some (some (.int .i64 0), 1, 8) := by kernel_rfl
-- the values' own types

end Go.Proofs.Ytbkjkjcpclaijaa.QFixMuls

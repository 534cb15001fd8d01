import Derived.Test.YtccpoflhmooanaaProg
import Derived.Below
import Derived.Deep.Draws
import Derived.Deep.AppendLies
import Derived.Maps.AppendAt
import Derived.OwnWalk
import Derived.Laws.BytesArg
import Derived.Laws.MakeOwn
import Derived.Laws.OwnMore
import Derived.Deep.OwnRows
import Derived.Tactics
import Derived.Lib.ConvBytes
import Derived.Laws.Slices
import Derived.WalkKit
import Derived.KernelRfl
import Derived.RowKit3
import Derived.Deep.LoopGhost
import Derived.Deep.QuietTactic
import Derived.BigQuiet
import Derived.WideLaws
import Derived.Deep.DeepCutAuto
import Derived.Deep.CutBlock
import Derived.Deep.RegionHeld3
import Derived.Laws.Rows
import Derived.Lib.AppendStr
import Derived.ArgAppend
import Derived.Laws.IdiomCopy
import Derived.OrdersHeld
import Derived.Laws.BitsLemmas
import Derived.RowKit
import Derived.Test.YtccpoflhmooanaaWWords
import Derived.Test.YtccpoflhmooanaaWLast
import Derived.Test.YtccpoflhmooanaaWTab
import Derived.Test.YtccpoflhmooanaaWFour
import Derived.Test.YtccpoflhmooanaaWQPut
import Derived.Test.YtccpoflhmooanaaWApart
import Derived.Test.YtccpoflhmooanaaWArr
import Derived.Test.YtccpoflhmooanaaWZeros
import Derived.Test.YtccpoflhmooanaaWFoot
import Derived.Test.YtccpoflhmooanaaWKept
import Derived.Test.YtccpoflhmooanaaWShare
import Derived.Test.YtccpoflhmooanaaWN
import Derived.Test.YtccpoflhmooanaaWFootNe
import Derived.Test.YtccpoflhmooanaaWAt
import Derived.Test.YtccpoflhmooanaaWEqStruct
import Derived.Test.YtccpoflhmooanaaWRepsOne
import Derived.Test.YtccpoflhmooanaaWInv
import Derived.Test.YtccpoflhmooanaaWInvWords
import Derived.Test.YtccpoflhmooanaaWGuard
import Derived.Test.YtccpoflhmooanaaWNEv
import Derived.Test.YtccpoflhmooanaaWMore
import Derived.Test.YtccpoflhmooanaaShelf
namespace Go.Proofs.Ytccpoflhmooanaa.R
open Go.RowKit Go.Proofs.YtccpoflhmooanaaW.PrintWords Go.Proofs.YtccpoflhmooanaaW.PrintLast Go.Proofs.YtccpoflhmooanaaW.PrintMore
attribute [local go_sem] max2_int min2_int max_two min_two max_three min_three max_four min_four
set_option linter.unusedVariables false
set_option linter.unusedSimpArgs false

def errW : Option Int → Value
  | none => .nilIface
  | some c => .iface 0 (.int .i64 c)
theorem errW_none : errW none = .nilIface := rfl
theorem errW_some (c : Int) : errW (some c) = .iface 0 (.int .i64 c) := rfl
theorem info22 : (Try.prog.info? 22).map (fun i => (i.zero, i.size, i.bytes)) = some (some (.int .u64 0), 1, 8) := by kernel_rfl
theorem info4 : (Try.prog.info? 4).map (fun i => (i.zero, i.size, i.bytes)) = some (some (.bool false), 1, 1) := by kernel_rfl

end Go.Proofs.Ytccpoflhmooanaa.R

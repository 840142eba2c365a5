-- Written by a program of this session: plain functions and their walks. Lean checks it.
import Derived.Test.YtiehdiohoehcpaaProg
import Derived.Below
import Derived.Deep.Draws
import Derived.Deep.AppendLies
import Derived.Maps.AppendAt
import Derived.OwnWalk
import Derived.Laws.BytesArg
import Derived.Laws.MakeOwn
import Derived.Laws.OwnMore
import Derived.Deep.OwnRows
import Derived.Tactics
import Derived.Lib.ConvBytes
import Derived.Laws.Slices
import Derived.WalkKit
import Derived.KernelRfl
import Derived.RowKit3
import Derived.Deep.LoopGhost
import Derived.Deep.QuietTactic
import Derived.BigQuiet
import Derived.WideLaws
import Derived.Deep.DeepCutAuto
import Derived.Deep.CutBlock
import Derived.Deep.RegionHeld3
import Derived.Laws.Rows
import Derived.Lib.AppendStr
import Derived.ArgAppend
import Derived.Laws.IdiomCopy
import Derived.OrdersHeld
import Derived.Laws.BitsLemmas
import Derived.RowKit
import Derived.Test.YtiehdiohoehcpaaWWords
import Derived.Test.YtiehdiohoehcpaaWLast
import Derived.Test.YtiehdiohoehcpaaWTab
import Derived.Test.YtiehdiohoehcpaaWFour
import Derived.Test.YtiehdiohoehcpaaWQPut
import Derived.Test.YtiehdiohoehcpaaWApart
import Derived.Test.YtiehdiohoehcpaaWArr
import Derived.Test.YtiehdiohoehcpaaWZeros
import Derived.Test.YtiehdiohoehcpaaWFoot
import Derived.Test.YtiehdiohoehcpaaWKept
import Derived.Test.YtiehdiohoehcpaaWShare
import Derived.Test.YtiehdiohoehcpaaWN
import Derived.Test.YtiehdiohoehcpaaWFootNe
import Derived.Test.YtiehdiohoehcpaaWAt
import Derived.Test.YtiehdiohoehcpaaWEqStruct
import Derived.Test.YtiehdiohoehcpaaWRepsOne
import Derived.Test.YtiehdiohoehcpaaWInv
import Derived.Test.YtiehdiohoehcpaaWInvWords
import Derived.Test.YtiehdiohoehcpaaWGuard
import Derived.Test.YtiehdiohoehcpaaWNEv
import Derived.Test.YtiehdiohoehcpaaWMore
namespace Go.Proofs.Ytiehdiohoehcpaa.PR
open Go.RowKit Go.Proofs.YtiehdiohoehcpaaW.PrintWords Go.Proofs.YtiehdiohoehcpaaW.PrintLast Go.Proofs.YtiehdiohoehcpaaW.PrintMore
attribute [local go_sem] max2_int min2_int max_two min_two max_three min_three max_four min_four   -- for this text's walks alone
set_option linter.unusedVariables false
set_option linter.unusedSimpArgs false



def errW : Option Int → Value
  | none => .nilIface
  | some c => .iface 0 (.int .i64 c)
theorem errW_none : errW none = .nilIface := rfl
theorem errW_some (c : Int) : errW (some c) = .iface 0 (.int .i64 c) := rfl

theorem info2 : (Try.prog.info? 2).map (fun i => (i.zero, i.size, i.bytes)) = some (some (.int .i64 0), 1, 8) := by kernel_rfl
-- the values' own types

end Go.Proofs.Ytiehdiohoehcpaa.PR

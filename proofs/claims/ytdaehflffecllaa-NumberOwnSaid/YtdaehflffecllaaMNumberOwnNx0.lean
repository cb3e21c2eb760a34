/- The law NumberOwn returns true whatever the input: Nx0 of its proof; no condition. (Joined by wip/shake.py.) -/
import Derived.Test.YtdaehflffecllaaProg
import Derived.Below
import Derived.Deep.Draws
import Derived.Deep.AppendLies
import Derived.Maps.AppendAt
import Derived.OwnWalk
import Derived.Laws.BytesArg
import Derived.Laws.MakeOwn
import Derived.Laws.OwnMore
import Derived.Deep.OwnRows
import Derived.Tactics
import Derived.Lib.ConvBytes
import Derived.Laws.Slices
import Derived.WalkKit
import Derived.KernelRfl
import Derived.RowKit3
import Derived.Deep.LoopGhost
import Derived.Deep.QuietTactic
import Derived.BigQuiet
import Derived.WideLaws
import Derived.Deep.DeepCutAuto
import Derived.Deep.CutBlock
import Derived.Deep.RegionHeld3
import Derived.Laws.Rows
import Derived.Lib.AppendStr
import Derived.ArgAppend
import Derived.Laws.IdiomCopy
import Derived.OrdersHeld
import Derived.Laws.BitsLemmas
import Derived.RowKit
import Derived.ScopeJumps
import Derived.WalkMore
import Derived.Shelf.Spec.BitsCarry
import Derived.Test.YtdaehflffecllaaMNumberOwnH0
import Derived.Test.YtdaehflffecllaaMNumberOwnT0
import Derived.Test.YtdaehflffecllaaMNumberOwnK0
import Derived.Test.YtdaehflffecllaaMNumberOwnS0
import Derived.Test.YtdaehflffecllaaMNumberOwnWWords
import Derived.Test.YtdaehflffecllaaMNumberOwnWLast
import Derived.Test.YtdaehflffecllaaMNumberOwnWTab
import Derived.Test.YtdaehflffecllaaMNumberOwnWApart
import Derived.Test.YtdaehflffecllaaMNumberOwnWFoot
import Derived.Test.YtdaehflffecllaaMNumberOwnWKept
import Derived.Test.YtdaehflffecllaaMNumberOwnWShare
import Derived.Test.YtdaehflffecllaaMNumberOwnWN
import Derived.Laws.StructEq
import Derived.Test.YtdaehflffecllaaMNumberOwnWRepsOne
import Derived.Test.YtdaehflffecllaaMNumberOwnWInv
import Derived.Test.YtdaehflffecllaaMNumberOwnWGuard
import Derived.Test.YtdaehflffecllaaMNumberOwnWMore
namespace Go.Proofs.Ytdaehflffecllaa.N
open Go.RowKit Go.Proofs.YtdaehflffecllaaW.PrintWords Go.Proofs.YtdaehflffecllaaW.PrintLast Go.Proofs.YtdaehflffecllaaW.PrintMore
attribute [local go_sem] max2_int min2_int max_two min_two max_three min_three max_four min_four   -- for this text's walks alone
set_option linter.unusedVariables false
set_option linter.unusedSimpArgs false
def errW : Option Int → Value
  | none => .nilIface
  | some c => .iface 0 (.int .i64 c)
theorem errW_none : errW none = .nilIface := rfl
theorem errW_some (c : Int) : errW (some c) = .iface 0 (.int .i64 c) := rfl
theorem info62 : (Try.prog.info? 62).map (fun i => (i.zero, i.size, i.bytes)) = some (some (.int .u64 0), 1, 8) := by kernel_rfl
end Go.Proofs.Ytdaehflffecllaa.N

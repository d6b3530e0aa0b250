-- Printed by the kit's print.py (called by wip/tools/mkprint.sh with roots of its own): not typed by hand; Lean checks it.
import Derived.Test.YtdfdponenhfbjaaDoorProg
import Derived.Below
import Derived.Deep.Draws
import Derived.Deep.AppendLies
import Derived.Maps.AppendAt
import Derived.OwnWalk
import Derived.Laws.BytesArg
import Derived.Laws.MakeOwn
import Derived.Laws.OwnMore
import Derived.Deep.OwnRows
import Derived.Tactics
import Derived.Lib.ConvBytes
import Derived.Laws.Slices
import Derived.WalkKit
import Derived.KernelRfl
import Derived.RowKit3
import Derived.Deep.LoopGhost
import Derived.Deep.QuietTactic
import Derived.BigQuiet
import Derived.WideLaws
import Derived.Deep.DeepCutAuto
import Derived.Deep.CutBlock
import Derived.Deep.RegionHeld3
import Derived.Laws.Rows
import Derived.Lib.AppendStr
import Derived.ArgAppend
import Derived.Laws.IdiomCopy
import Derived.OrdersHeld
import Derived.Laws.BitsLemmas
import Derived.RowKit
import Derived.Test.YtdfdponenhfbjaaDoorWWords
import Derived.Test.YtdfdponenhfbjaaDoorWLast
import Derived.Test.YtdfdponenhfbjaaDoorWTab
import Derived.Test.YtdfdponenhfbjaaDoorWFour
import Derived.Test.YtdfdponenhfbjaaDoorWQPut
import Derived.Test.YtdfdponenhfbjaaDoorWApart
import Derived.Test.YtdfdponenhfbjaaDoorWArr
import Derived.Test.YtdfdponenhfbjaaDoorWZeros
import Derived.Test.YtdfdponenhfbjaaDoorWFoot
import Derived.Test.YtdfdponenhfbjaaDoorWKept
import Derived.Test.YtdfdponenhfbjaaDoorWShare
import Derived.Test.YtdfdponenhfbjaaDoorWN
import Derived.Test.YtdfdponenhfbjaaDoorWFootNe
import Derived.Test.YtdfdponenhfbjaaDoorWAt
import Derived.Test.YtdfdponenhfbjaaDoorWEqStruct
import Derived.Test.YtdfdponenhfbjaaDoorWRepsOne
import Derived.Test.YtdfdponenhfbjaaDoorWInv
import Derived.Test.YtdfdponenhfbjaaDoorWInvWords
import Derived.Test.YtdfdponenhfbjaaDoorWGuard
import Derived.Test.YtdfdponenhfbjaaDoorWNEv
import Derived.Test.YtdfdponenhfbjaaDoorWMore
namespace Go.Proofs.YtdfdponenhfbjaaDoor.PFn
open Go.RowKit Go.Proofs.YtdfdponenhfbjaaDoorW.PrintWords Go.Proofs.YtdfdponenhfbjaaDoorW.PrintLast Go.Proofs.YtdfdponenhfbjaaDoorW.PrintMore
attribute [local go_sem] max2_int min2_int max_two min_two max_three min_three max_four min_four   -- for this text's walks alone
set_option linter.unusedVariables false
set_option linter.unusedSimpArgs false



def errW : Option Int → Value
  | none => .nilIface
  | some c => .iface 0 (.int .i64 c)
theorem errW_none : errW none = .nilIface := rfl
theorem errW_some (c : Int) : errW (some c) = .iface 0 (.int .i64 c) := rfl

theorem info5 : (Tryd.prog.info? 5).map (fun i => (i.zero, i.size, i.bytes)) = some (some (.int .u8 0), 1, 1) := by kernel_rfl
theorem info21 : (Tryd.prog.info? 21).map (fun i => (i.zero, i.size, i.bytes)) = some (some (.int .i32 0), 1, 4) := by kernel_rfl
-- the values' own types

end Go.Proofs.YtdfdponenhfbjaaDoor.PFn

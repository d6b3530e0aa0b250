-- Printed by the kit's print.py (called by wip/tools/mkprint.sh with roots of its own): not typed by hand; Lean checks it.
import Derived.Test.YtdfdponenhfbjaaDoorPFnx0
import Derived.Test.YtdfdponenhfbjaaDoorPFnx1
import Derived.Test.YtdfdponenhfbjaaDoorPFnx2
import Derived.Test.YtdfdponenhfbjaaDoorPFnx3
import Derived.Test.YtdfdponenhfbjaaDoorPFnx4
import Derived.Test.YtdfdponenhfbjaaDoorPFnx5
import Derived.Test.YtdfdponenhfbjaaDoorPFnx6
import Derived.Test.YtdfdponenhfbjaaDoorPFnx7
namespace Go.Proofs.YtdfdponenhfbjaaDoor.PFn
open Go.RowKit Go.Proofs.YtdfdponenhfbjaaDoorW.PrintWords Go.Proofs.YtdfdponenhfbjaaDoorW.PrintLast Go.Proofs.YtdfdponenhfbjaaDoorW.PrintMore
attribute [local go_sem] max2_int min2_int max_two min_two max_three min_three max_four min_four   -- for this text's walks alone
set_option linter.unusedVariables false
set_option linter.unusedSimpArgs false

end Go.Proofs.YtdfdponenhfbjaaDoor.PFn

-- Printed by the kit's print.py (called by wip/tools/mkprint.sh with roots of its own): not typed by hand; Lean checks it.
import Derived.Test.YtneclgjjnnldpaaDoorPFnx0
import Derived.Test.YtneclgjjnnldpaaDoorPFnx1
import Derived.Test.YtneclgjjnnldpaaDoorPFnx2
import Derived.Test.YtneclgjjnnldpaaDoorPFnx3
import Derived.Test.YtneclgjjnnldpaaDoorPFnx4
import Derived.Test.YtneclgjjnnldpaaDoorPFnx5
namespace Go.Proofs.YtneclgjjnnldpaaDoor.PFn
open Go.RowKit Go.Proofs.YtneclgjjnnldpaaDoorW.PrintWords Go.Proofs.YtneclgjjnnldpaaDoorW.PrintLast Go.Proofs.YtneclgjjnnldpaaDoorW.PrintMore
attribute [local go_sem] max2_int min2_int max_two min_two max_three min_three max_four min_four   -- for this text's walks alone
set_option linter.unusedVariables false
set_option linter.unusedSimpArgs false

end Go.Proofs.YtneclgjjnnldpaaDoor.PFn

/- Verdicts: what holds of them. (printed by gen/cp1.py) -/
import Derived.Test.YtndjicomgdcfkaaDoorCp0
namespace Go.Proofs.YtndjicomgdcfkaaDoor
set_option linter.unusedVariables false
set_option linter.unusedSimpArgs false
open Go.RowKit
attribute [local go_sem ↓] Go.wp_at_zero Go.wp_at_succ

end Go.Proofs.YtndjicomgdcfkaaDoor

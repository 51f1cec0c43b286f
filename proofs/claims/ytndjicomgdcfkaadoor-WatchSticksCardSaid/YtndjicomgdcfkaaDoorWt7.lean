/- Alarms: the document's text. (printed by gen/wt7.py) -/
import Derived.Test.YtndjicomgdcfkaaDoorWt6
namespace Go.Proofs.YtndjicomgdcfkaaDoor
set_option linter.unusedVariables false
set_option linter.unusedSimpArgs false
open Go.RowKit
attribute [local go_sem ↓] Go.wp_at_zero Go.wp_at_succ
attribute [local go_sem high] cat_ok

end Go.Proofs.YtndjicomgdcfkaaDoor

/- Alarms: the document's Hex; an alarm as the document has it. (printed by gen/wt5.py) -/
import Derived.Test.YtndjicomgdcfkaaDoorWt4
namespace Go.Proofs.YtndjicomgdcfkaaDoor
set_option linter.unusedVariables false
set_option linter.unusedSimpArgs false
open Go.RowKit
attribute [local go_sem ↓] Go.wp_at_zero Go.wp_at_succ
attribute [local go_sem high] cat_ok

theorem aplain_eq (w : World) (ru cy at_ bi : Int) : Calls Tryd.prog 21 #[.agg #[.int .i64 ru, .int .i64 cy, .int .i64 at_, .int .u8 bi]] w fun e w' => e = .returned (.agg #[.int .i64 ru, .int .i64 cy, .int .i64 at_, .int .u8 bi]) ∧ Below w.heap.size w w' := by
  go_enter Tryd.func21, Tryd.ntmps21
  go_wp2
  go_returns
  exact ⟨rfl, (by repeat' (first | with_reducible exact Below.refl _ _ | with_reducible assumption | with_reducible refine Q.alloc ?_ _ | with_reducible refine Q.drew ?_ | with_reducible refine Q.drewN ?_ _ | with_reducible refine Q.call ?_ (by assumption)))⟩
end Go.Proofs.YtndjicomgdcfkaaDoor

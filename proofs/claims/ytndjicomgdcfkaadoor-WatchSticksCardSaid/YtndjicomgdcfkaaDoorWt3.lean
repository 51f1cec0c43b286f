/- Alarms: a number's hexadecimal text. (printed by gen/wt3.py) -/
import Derived.Test.YtndjicomgdcfkaaDoorWt2
namespace Go.Proofs.YtndjicomgdcfkaaDoor
set_option linter.unusedVariables false
set_option linter.unusedSimpArgs false
open Go.RowKit
attribute [local go_sem ↓] Go.wp_at_zero Go.wp_at_succ
attribute [local go_sem high] cat_ok

theorem fmt16_eq (w : World) (u : Nat) (hu : u ≤ 65535) (hT : TZ w) : Calls Tryd.prog 44 #[.int .i64 (u : Int), .int .i64 16] w fun e w' => e = .returned (.string (str (hexN 3 u []))) ∧ Below w.heap.size w w' := by
  have FB := fbits_eq w u hu hT
  have h0 : ¬ (u : Int) < 0 := by omega
  have hw : IntKind.u64.wrap (u : Int) = (u : Int) := by rw [IntKind.wrap_u64]; omega
  go_enter Tryd.func44, Tryd.ntmps44
  go_wp2_with (go_at_call 53; (with_reducible refine FB.mono ?_); rintro e w1 ⟨rfl, hb1⟩)
  go_ret
  exact ⟨rfl, hb1⟩
theorem sfmt16_eq (w : World) (u : Nat) (hu : u ≤ 65535) (hT : TZ w) : Calls Tryd.prog 40 #[.int .i64 (u : Int), .int .i64 16] w fun e w' => e = .returned (.string (str (hexN 3 u []))) ∧ Below w.heap.size w w' := by
  have FB := fmt16_eq w u hu hT
  go_enter Tryd.func40, Tryd.ntmps40
  go_wp2_with (go_at_call 44; (with_reducible refine FB.mono ?_); rintro e w1 ⟨rfl, hb1⟩)
  go_ret
  exact ⟨rfl, hb1⟩
end Go.Proofs.YtndjicomgdcfkaaDoor

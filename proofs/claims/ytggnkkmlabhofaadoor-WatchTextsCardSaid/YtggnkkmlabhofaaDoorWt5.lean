/- Alarms: the document's Hex; an alarm as the document has it. (printed by gen/wt5.py) -/
import Derived.Test.YtggnkkmlabhofaaDoorWt4
namespace Go.Proofs.YtggnkkmlabhofaaDoor
set_option linter.unusedVariables false
set_option linter.unusedSimpArgs false
open Go.RowKit
attribute [local go_sem ↓] Go.wp_at_zero Go.wp_at_succ
attribute [local go_sem high] cat_ok

theorem rHex_eq (w : World) (n mm : Nat) (hn : n ≤ 65535) (hm : mm ≤ 4) : Calls Tryd.prog 47 #[.int .i64 n, .int .i64 mm] w fun e w' => e = .returned (.string (str (36 :: hexA mm n []))) ∧ w = w' := by
  have RH := rhex_eq w n mm hn hm
  have hs1 : (str (hexA mm n [])).size ≤ 1000000 := by rw [str_size, hexA_len]; simp; omega
  have HE := Lib.hid (show ByteArray.mk #[36] ++ str (hexA mm n []) = str (36 :: hexA mm n []) from str_app [36] _)
  go_enter Tryd.func47, Tryd.ntmps47
  go_wp2_with (go_at_call 68; (with_reducible refine RH.mono ?_); rintro e w1 ⟨rfl, rfl⟩)
  go_ret
  exact ⟨by rw [← HE.out]; rfl, rfl⟩
theorem aplain_eq (w : World) (ru cy at_ bi : Int) : Calls Tryd.prog 10 #[.agg #[.int .i64 ru, .int .i64 cy, .int .i64 at_, .int .u8 bi]] w fun e w' => e = .returned (.agg #[.int .i64 ru, .int .i64 cy, .int .i64 at_, .int .u8 bi]) ∧ Below w.heap.size w w' := by
  go_enter Tryd.func10, Tryd.ntmps10
  go_wp2
  go_returns
  exact ⟨rfl, (by repeat' (first | with_reducible exact Below.refl _ _ | with_reducible assumption | with_reducible refine Q.alloc ?_ _ | with_reducible refine Q.drew ?_ | with_reducible refine Q.drewN ?_ _ | with_reducible refine Q.call ?_ (by assumption)))⟩
end Go.Proofs.YtggnkkmlabhofaaDoor

/- The law WatchTexts: the walk. (printed by gen/wt8.py) -/
import Derived.Test.YtndjicomgdcfkaaDoorWt7
namespace Go.Proofs.YtndjicomgdcfkaaDoor
set_option linter.unusedVariables false
set_option linter.unusedSimpArgs false
open Go.RowKit
attribute [local go_sem ↓] Go.wp_at_zero Go.wp_at_succ
attribute [local go_sem high] cat_ok

theorem awk16 : str (alT 4 12 768 255) = ⟨#[115, 105, 110, 107, 32, 49, 50, 32, 36, 48, 51, 48, 48, 32, 36, 102, 102]⟩ := by
  unfold alT
  rw [show Lib.itoa 12 = [49, 50] from by rw [show Lib.itoa 12 = Lib.decDigits 12 from rfl, Lib.decDigits_two (by decide) (by decide)]; rfl]
  rfl
set_option maxRecDepth 100000 in
set_option maxHeartbeats 3200000 in
theorem aawake_eq (w : World) (hT : TB w) (hZ : TZ w) (hW : WD w) : Calls Tryd.prog 13 #[] w fun e w' => e = .returned (.bool true) ∧ Below w.heap.size w w' := by
  have TX : Calls Tryd.prog 27 #[.agg #[.int .i64 4, .int .i64 12, .int .i64 768, .int .u8 255]] w fun e w' => e = .returned (.tuple #[.string ⟨#[115, 105, 110, 107, 32, 49, 50, 32, 36, 48, 51, 48, 48, 32, 36, 102, 102]⟩, .int .i64 0]) ∧ Below w.heap.size w w' := by
    have h := atext_eq w 4 12 768 255 (by decide) (by decide) (by decide) (by decide) (by decide) (by decide) hT hZ hW
    rw [awk16] at h
    exact h
  clear hT hZ hW
  go_enter Tryd.func13, Tryd.ntmps13
  go_wp2_with (go_at_call 27; (with_reducible refine TX.mono ?_); rintro e w1 ⟨rfl, hb1⟩)
  go_ret
  exact ⟨rfl, (by repeat' (first | with_reducible exact Below.refl _ _ | with_reducible assumption | with_reducible refine Q.alloc ?_ _ | with_reducible refine Q.drew ?_ | with_reducible refine Q.drewN ?_ _ | with_reducible refine Q.call ?_ (by assumption)))⟩
set_option maxRecDepth 100000 in
set_option maxHeartbeats 3200000 in
theorem atext_bad (w : World) (ru cy ad bi : Int) (hF : alF ru cy ad = false) : Calls Tryd.prog 27 #[.agg #[.int .i64 ru, .int .i64 cy, .int .i64 ad, .int .u8 bi]] w fun e w' => e = .returned (.tuple #[.string ⟨#[]⟩, .int .i64 10]) ∧ Below w.heap.size w w' := by
  have FI := fun V => afits_eq V ru cy ad bi false hF.symm
  clear hF
  go_enter Tryd.func27, Tryd.ntmps27
  go_wp2_with (go_at_call 38; (with_reducible refine (FI _).mono ?_); rintro e w1 ⟨rfl, hb1⟩)
  go_ret2
  exact ⟨rfl, (by repeat' (first | with_reducible exact Below.refl _ _ | with_reducible assumption | with_reducible refine Q.alloc ?_ _ | with_reducible refine Q.drew ?_ | with_reducible refine Q.drewN ?_ _ | with_reducible refine Q.call ?_ (by assumption)))⟩
end Go.Proofs.YtndjicomgdcfkaaDoor

/- Policies: one that is the same as another one. (printed by gen/la9.py) -/
import Derived.Test.YtndjicomgdcfkaaDoorLa4
import Derived.Deep.RegionWith
namespace Go.Proofs.YtndjicomgdcfkaaDoor
set_option linter.unusedVariables false
set_option linter.unusedSimpArgs false
open Go.RowKit Go.Sort Go.Shelf Go.Lib
attribute [local go_sem ↓] Go.wp_at_zero Go.wp_at_succ

set_option maxHeartbeats 1000000 in
theorem neq_span (f t b : Int) (w : World) : (binOp .neq 95 (.agg #[.int .i64 f, .int .i64 t, .int .u8 b]) (.agg #[.int .i64 f, .int .i64 t, .int .u8 b])).run Tryd.prog w = .ok (.bool false) w := by
  have h : ∀ d : Nat, (Op.equalIn (d + 2) 95 (.agg #[.int .i64 f, .int .i64 t, .int .u8 b]) (.agg #[.int .i64 f, .int .i64 t, .int .u8 b])).run Tryd.prog w = .ok true w := fun d => by
    simp [Op.equalIn, part, isAgg, go_sem, run_underlying Tryd.underlying95, run_underlying Tryd.underlying3, run_underlying Tryd.underlying5]
  have hm : Tryd.prog.eqGuardType Tryd.prog.depth 95 = false := by kernel_rfl
  simp only [binOp, Sem.run_bind, run_eqGuard_agg _ _ _ _ _ _ _ hm, Result.andThen_ok]
  simp [Op.equal, Op.maxDepth, h 9998]
attribute [local go_sem high] neq_span
theorem psorted_eq3 (w : World) (R : Nat → Prop) (sv mv : Value) (s m : List Sp) (dc tr : Int) (hs : Rd ES w R sv s) (hm : Rd ES w R mv m) (ls : s.length ≤ 1000) (lm : m.length ≤ 1000) :
    Calls Tryd.prog 43 #[.agg #[sv, mv, .int .i64 dc, .int .i64 tr]] w fun e w' => ∃ a c a' c', e = .returned (.agg #[.slice a s.length c, .slice a' m.length c', .int .i64 dc, .int .i64 tr]) ∧ Rd ES w' (fun b => w.heap.size ≤ b) (.slice a s.length c) (srt s) ∧ Rd ES w' (fun b => w.heap.size ≤ b) (.slice a' m.length c') (srt m) ∧ Below w.heap.size w w' := by
  refine (psorted_eq w R sv mv s m dc tr hs hm ls lm).mono ?_
  rintro e w' ⟨v1, v2, rfl, h1, h2, hb⟩
  have k1 := h1
  have k2 := h2
  obtain ⟨a, c, rfl, _, _, _⟩ := h1
  obtain ⟨a', c', rfl, _, _, _⟩ := h2
  rw [srt_length] at k1 k2 ⊢
  rw [srt_length]
  exact ⟨a, c, a', c', rfl, k1, k2, hb⟩
end Go.Proofs.YtndjicomgdcfkaaDoor

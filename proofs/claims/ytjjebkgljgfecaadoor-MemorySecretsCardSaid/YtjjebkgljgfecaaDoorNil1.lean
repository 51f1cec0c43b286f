/- What calls upon a nil memory answer. -/
import Derived.Test.YtjjebkgljgfecaaDoorMem9
namespace Go.Proofs.YtjjebkgljgfecaaDoor
set_option linter.unusedVariables false
set_option linter.unusedSimpArgs false
open Go.RowKit

theorem load_nil (x : Int) (a : Option Addr) (n ca : Nat) (w : World) :
    Calls Tryd.prog 17 #[.pointer none, .int .i64 x, .slice a n ca] w fun e w' => e = .returned (.int .i64 2) ∧ w' = w := by
  go_enter Tryd.func17, Tryd.ntmps17
  go_wp2
  go_returns
  exact ⟨rfl, rfl⟩
theorem label_nil (x y t : Int) (w : World) :
    Calls Tryd.prog 18 #[.pointer none, .int .i64 x, .int .i64 y, .int .u8 t] w fun e w' => e = .returned (.int .i64 2) ∧ w' = w := by
  go_enter Tryd.func18, Tryd.ntmps18
  go_wp2
  go_returns
  exact ⟨rfl, rfl⟩
theorem eql_nil_some (a : Addr) (w : World) : (binOp .eql 25 (.pointer none) (.pointer (some a))).run Tryd.prog w = .ok (.bool false) w := by
  have h : ∀ d : Nat, (Op.equalIn (d + 1) 25 (.pointer none) (.pointer (some a))).run Tryd.prog w = .ok false w := fun d => by
    simp [Op.equalIn, run_underlying Tryd.underlying25, go_sem]
  simp only [binOp]
  simp [Op.equal, Op.maxDepth, h 9999]
attribute [local go_sem] eql_nil_some
theorem same_nn (g : Nat) (w : World) :
    Calls Tryd.prog 19 #[.pointer none, .pointer none] w fun e w' => e = .returned (.bool true) ∧ w' = w := by
  go_enter Tryd.func19, Tryd.ntmps19
  go_wp2
  go_returns
  exact ⟨rfl, rfl⟩
theorem same_ng (g : Nat) (w : World) :
    Calls Tryd.prog 19 #[.pointer none, .pointer (some ⟨g, 0, none⟩)] w fun e w' => e = .returned (.bool false) ∧ w' = w := by
  go_enter Tryd.func19, Tryd.ntmps19
  go_wp2
  go_returns
  exact ⟨rfl, rfl⟩
theorem same_gn (g : Nat) (w : World) :
    Calls Tryd.prog 19 #[.pointer (some ⟨g, 0, none⟩), .pointer none] w fun e w' => e = .returned (.bool false) ∧ w' = w := by
  go_enter Tryd.func19, Tryd.ntmps19
  go_wp2
  go_returns
  exact ⟨rfl, rfl⟩
theorem secret_nil (w : World) :
    Calls Tryd.prog 21 #[.pointer none] w fun e w' => ∃ g, e = .returned (.func (.func 34) #[] #[.pointer (some ⟨g, 0, none⟩)]) ∧ w'.cell? ⟨g, 0, none⟩ = some (.pointer none) ∧ Below w.heap.size w w' := by
  go_enter Tryd.func21, Tryd.ntmps21
  go_wp2_with (go_at_call 11; (with_reducible refine (clone_nil _).mono ?_); rintro e w1 ⟨rfl, hb1⟩)
  go_returns
  exact ⟨w.heap.size, rfl, by simp, (Below.refl _ _).alloc (Nat.le_refl _) _⟩
end Go.Proofs.YtjjebkgljgfecaaDoor

/- Two rows of calls in an array. (printed by gen/whopen.py) -/
import Derived.Test.YtjjebkgljgfecaaWhOpen
import Derived.Test.YtjjebkgljgfecaaWh12
namespace Go.Proofs.Ytjjebkgljgfecaa
set_option linter.unusedVariables false
set_option linter.unusedSimpArgs false
open Go.ChangeShapes Go.WideShapes Go.ChangeAt Go.RowKit Go.Deep
theorem wheelNil_all {H : Type} {enc : TypeId × Value → H} {w : World} {base : Nat} {spare : Nat → Bool} {held : Bool} {m0 m1 : Nat} {y0 y1 : DataW H × List MemPlace} {c0 c1 : Value} (r v t : Int)
    (h0 : DataW.trod enc Try.prog w base spare held m0 30 [c0] = some y0) (h1 : DataW.trod enc Try.prog w base spare held m1 30 [c1] = some y1) :
    Calls Try.prog 6 #[.agg #[.int .i64 r, .int .u8 v, .int .u8 t], .agg #[c0, c1]] w fun e w' => e = .returned (.bool true) ∧ Below w.heap.size w w' := by
  obtain ⟨a0, n0, p0, rfl, t0⟩ := leaf_slice Try.underlying30 h0
  obtain ⟨a1, n1, p1, rfl, t1⟩ := leaf_slice Try.underlying30 h1
  have w0 := readsW_of_rows (open_rows Try.underlying30 flatW (by kernel_rfl) t0)
  have w1 := readsW_of_rows (open_rows Try.underlying30 flatW (by kernel_rfl) t1)
  exact wheelNil_walk r v t a0 a1 n0 n1 p0 p1 _ _ w w0.2 w1.2 w0.1.choose_spec w1.1.choose_spec
end Go.Proofs.Ytjjebkgljgfecaa

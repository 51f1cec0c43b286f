/- LabelsNil: what comes in, opened. -/
import Derived.Test.YtggnkkmlabhofaaDoorLaOpen
import Derived.Test.YtggnkkmlabhofaaDoorLaN2
namespace Go.Proofs.YtggnkkmlabhofaaDoor
set_option linter.unusedVariables false
set_option linter.unusedSimpArgs false
open Go.RowKit

theorem labelsNil_open {H : Type} {enc : TypeId × Value → H} {W : World} {base : Nat} {spare : Nat → Bool} {held : Bool} {m0 m1 : Nat} {y0 y1 : DataW H × List MemPlace} {c0 c1 : Value} (dc tr x bv bt : Int)
    (h0 : DataW.trod enc Tryd.prog W base spare held m0 42 [c0] = some y0) (h1 : DataW.trod enc Tryd.prog W base spare held m1 42 [c1] = some y1) :
    Calls Tryd.prog 6 #[.agg #[c0, c1, .int .i64 dc, .int .i64 tr], .int .i64 x, .agg #[.int .u8 bv, .int .u8 bt]] W fun e w' => e = .returned (.bool true) ∧ Below W.heap.size W w' := by
  obtain ⟨sa, sc, s, rfl, rs⟩ := sp_of_trod h0
  obtain ⟨ma, mc, m, rfl, rm⟩ := sp_of_trod h1
  exact labelsNil_all W (fun _ => True) sa ma sc mc s m dc tr x bv bt rs rm
end Go.Proofs.YtggnkkmlabhofaaDoor

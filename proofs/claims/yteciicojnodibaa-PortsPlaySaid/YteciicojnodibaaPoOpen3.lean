/- The argument of PortsPlay. -/
import Derived.Test.YteciicojnodibaaPoOpen
import Derived.Test.YteciicojnodibaaPo25
namespace Go.Proofs.Yteciicojnodibaa
set_option linter.unusedVariables false
set_option linter.unusedSimpArgs false
open Go.ChangeShapes Go.WideShapes Go.ChangeAt Go.RowKit Go.Deep
theorem portsPlay_all {H : Type} {enc : TypeId × Value → H} {w : World} {base : Nat} {spare : Nat → Bool} {held : Bool} {m0 m1 : Nat} {y0 y1 : DataW H × List MemPlace} {c0 c1 : Value} {a : Option Addr} {len cap : Nat} {ops : List POp} {at_ : Int}
    (h0 : DataW.trod enc Try.prog w base spare held m0 29 [c0] = some y0) (h1 : DataW.trod enc Try.prog w base spare held m1 29 [c1] = some y1)
    (hr : ReadsP w w.heap.size a len ops) :
    Calls Try.prog 4 #[.agg #[c0, c1], .slice a len cap, .int .i64 at_] w fun e w' => e = .returned (.bool true) ∧ Below w.heap.size w w' := by
  obtain ⟨l0, r0⟩ := rd_of_trod h0
  obtain ⟨l1, r1⟩ := rd_of_trod h1
  exact portsPlay_walk c0 c1 l0 l1 a len cap ops at_ w r0 r1 hr
end Go.Proofs.Yteciicojnodibaa

/- The walk of awake of layer 8. -/
import Derived.Test.YtggnkkmlabhofaaDoorMem2
namespace Go.Proofs.YtggnkkmlabhofaaDoor
set_option linter.unusedVariables false
set_option linter.unusedSimpArgs false
open Go.RowKit

theorem Q.chg {w W w1 : World} {g : Nat} (h : Below w.heap.size w W) (hc : Chg (· = g) W w1) (hg : w.heap.size ≤ g) : Below w.heap.size w w1 := hc.below h h.size (fun b hb => by omega)
theorem KIN.q {w W : World} (h : KIN w) (hb : Below w.heap.size w W) : KIN W := h.below hb h.lt

end Go.Proofs.YtggnkkmlabhofaaDoor

/- The door's own heap meets the laid table of kinds. (printed by gen/laopen.py) -/
import Derived.Test.YtggnkkmlabhofaaDoorCards
import Derived.Test.YtggnkkmlabhofaaDoorTie
import Derived.Test.YtggnkkmlabhofaaDoorOpen
import Derived.ProofKit
import Derived.LaidMore
import Derived.OpenShut
import Derived.Stop.Joined
import Derived.SevenTiedAt
namespace Go.Proofs.YtggnkkmlabhofaaDoor
set_option linter.unusedVariables false
set_option linter.unusedSimpArgs false
open Go.ChangeShapes Go.WideShapes Go.ChangeAt Go.WideElems Go.RowKit

theorem own : ownKnob Tryd.prog.godebug = none := by kernel_rfl
theorem door_met (os : Os) (args : Array Value) : laidMetH Tryd.prog [("cochineal/memory.kinds", Rows.laid_cochineal_memory_kinds)] ((World.doorLaid Tryd.prog 400 os).forCall (fun _ _ => 0) ⟨#[], args, []⟩).memory :=
  laidMetH_of_parts3 (fuel := 8) (laidMet_of_run' 8 (by kernel_rfl) (by kernel_rfl)) (by kernel_rfl) (by kernel_rfl)
theorem of_laid {W : World} (_ : laidMetH Tryd.prog [("cochineal/memory.kinds", Rows.laid_cochineal_memory_kinds)] W) : True := trivial
end Go.Proofs.YtggnkkmlabhofaaDoor

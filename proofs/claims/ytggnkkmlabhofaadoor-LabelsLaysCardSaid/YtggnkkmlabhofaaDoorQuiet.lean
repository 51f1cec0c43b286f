/- Regions that draw their order, with calls that only lay new blocks: one walk in the text's order, in any world that has all old blocks. -/
import Derived.Test.YtggnkkmlabhofaaDoorWord
import Derived.Deep.QuietTactic
import Derived.BigQuiet
namespace Go.Proofs.YtggnkkmlabhofaaDoor
set_option linter.unusedVariables false
set_option linter.unusedSimpArgs false
open Go.RowKit

/-- A world that has all of w's blocks. -/
def BW (w : World) : Type := { w' : World // Below w.heap.size w w' }
/-- The world itself. -/
def BW.val {w : World} (x : BW w) : World := x.1
theorem BW.has {w : World} (x : BW w) : Below w.heap.size w x.val := x.2
instance (w : World) : Nonempty (BW w) := ⟨⟨w, Below.refl _ _⟩⟩
theorem wp_region_below {P : Program} {id : Nat} {Q : Exit → Act → World → Prop} {a : Act} {w : World} {l : List Oper} (hm : P.follows .mixedOrders = true) (hB : Region.lexB .any l.toArray = true)
    (h : wpQuiet P l.toArray (fun w' => ∃ x : BW w, w' = x.val) (fun a' => ∀ w', (∃ x : BW w, w' = x.val) → Q .normal a' w') l a) : (Code.region id l.toArray true).wp P Q a w :=
  wp_region_quiet (C := fun w' => ∃ x : BW w, w' = x.val) hm hB ⟨⟨w.drew, (Below.refl w.heap.size w).drew⟩, rfl⟩ (by simpa using h)
theorem calls_bw {P : Program} {f : FuncId} {args : Array Value} {w : World} {v : Value} {x : BW w}
    (h : Calls P f args x.val fun e w' => e = .returned v ∧ Below x.val.heap.size x.val w') : Calls P f args x.val fun e w'' => e = .returned v ∧ ∃ y : BW w, w'' = y.val :=
  h.mono fun _ _ ⟨he, hb⟩ => ⟨he, ⟨_, Q.call x.has hb⟩, rfl⟩
theorem calls_bw' {P : Program} {f : FuncId} {args : Array Value} {w : World} {v : Value} {x : BW w}
    (h : Calls P f args x.val fun e w' => e = .returned v ∧ w' = x.val) : Calls P f args x.val fun e w'' => e = .returned v ∧ ∃ y : BW w, w'' = y.val :=
  h.mono fun _ _ ⟨he, hb⟩ => ⟨he, x, hb⟩
end Go.Proofs.YtggnkkmlabhofaaDoor

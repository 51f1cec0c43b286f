/- What the laid table of kinds gives the walks, by its own number. (printed by gen/llopen.py) -/
import Derived.Test.YtggnkkmlabhofaaDoorCards
import Derived.Test.YtggnkkmlabhofaaDoorTie
import Derived.Test.YtggnkkmlabhofaaDoorOpen
import Derived.Test.YtggnkkmlabhofaaDoorMem
import Derived.ProofKit
import Derived.LaidMore
import Derived.OpenShut
import Derived.Stop.Joined
import Derived.SevenTiedAt
namespace Go.Proofs.YtggnkkmlabhofaaDoor
set_option linter.unusedVariables false
set_option linter.unusedSimpArgs false
open Go.ChangeShapes Go.WideShapes Go.ChangeAt Go.WideElems Go.RowKit

theorem own : ownKnob Tryd.prog.godebug = none := by kernel_rfl
theorem gKinds : Tryd.prog.globalNamed "cochineal/memory.kinds" = some 1 := by kernel_rfl
theorem tKinds : (Tryd.prog.globals[1]?).map (·.type) = some 127 := by kernel_rfl
theorem door_met (os : Os) (args : Array Value) : laidMetH Tryd.prog [("cochineal/memory.kinds", Rows.laid_cochineal_memory_kinds)] ((World.doorLaid Tryd.prog 400 os).forCall (fun _ _ => 0) ⟨#[], args, []⟩).memory :=
  laidMetH_of_parts3 (fuel := 8) (laidMet_of_run' 8 (by kernel_rfl) (by kernel_rfl)) (by kernel_rfl) (by kernel_rfl)

theorem of_laid {W : World} (h : laidMetH Tryd.prog [("cochineal/memory.kinds", Rows.laid_cochineal_memory_kinds)] W) : KIN W := by
  rw [MakeChecks.laidMetH_plain _ _ _ (by kernel_rfl)] at h
  obtain ⟨ps, ⟨g0, t0, cs0, f0, p0, q0, hg0, ht0, hv0, hd0, _, _⟩, _, _⟩ := h
  obtain rfl := Option.some.inj (gKinds.symm.trans hg0)
  obtain rfl := Option.some.inj (tKinds.symm.trans ht0)
  obtain ⟨xs, m1, rfl, hx1, hlen, hn3, hel⟩ := DataW.trod_array Tryd.underlying127 hd0
  have c3 : Tryd.prog.cellsOf 3 = 1 := by kernel_rfl
  have key : ∀ (i : Nat) (k : Int), i < 5 → (xs[i]?).map (·.1) = some (.lit (.int .i64 k)) → W.cell? ⟨1, i, none⟩ = some (.int .i64 k) := by
    intro i k hi hx
    have h0 := hel i hi
    rw [c3, Nat.mul_one] at h0
    have hxi : i < xs.length := by omega
    rw [List.getElem?_eq_getElem hxi] at h0 hx
    obtain ⟨n, e1, e2, _⟩ := DataW.trod_int Tryd.underlying3 (show DataW.trod _ Tryd.prog W 0 _ false m1 3 _ = some xs[i] from h0)
    have hk : n = k := by rw [e2] at hx; simpa using hx
    subst hk
    have hcell := World.var?_cell hg0 hv0 i
    rw [hcell]
    have e3 : (List.take 1 (List.drop i cs0.toList))[0]? = some (.int .i64 n) := by rw [e1]; rfl
    rw [List.getElem?_take_of_lt (by omega), List.getElem?_drop] at e3
    simpa using e3
  simp only [Prod.mk.injEq, Rows.laid_cochineal_memory_kinds, DataW.agg.injEq] at hx1
  have hx2 : ∀ i : Nat, (xs[i]?).map (·.1) = ([.lit (.int .i64 0), .lit (.int .i64 32768), .lit (.int .i64 32784), .lit (.int .i64 49152), .lit (.int .i64 65536)] : List (DataW Unit))[i]? := by
    intro i
    rw [hx1.1, List.getElem?_map]
  exact ⟨key 0 _ (by decide) (hx2 0), key 1 _ (by decide) (hx2 1), key 2 _ (by decide) (hx2 2), key 3 _ (by decide) (hx2 3), key 4 _ (by decide) (hx2 4)⟩
end Go.Proofs.YtggnkkmlabhofaaDoor

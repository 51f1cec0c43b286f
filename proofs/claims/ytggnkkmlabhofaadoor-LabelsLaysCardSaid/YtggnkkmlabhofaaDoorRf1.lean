/- Policies as the document's answer has them. (printed by gen/rf1.py) -/
import Derived.Test.YtggnkkmlabhofaaDoorLa3
namespace Go.Proofs.YtggnkkmlabhofaaDoor
set_option linter.unusedVariables false
set_option linter.unusedSimpArgs false
open Go.RowKit Go.Sort Go.Shelf Go.Lib
attribute [local go_sem ↓] Go.wp_at_zero Go.wp_at_succ

theorem few_eq (w : World) (sa ma : Option Addr) (s m sc mc : Nat) (dc tr : Int) (B : Bool) (hB : B = decide (s ≤ 80 ∧ m ≤ 80)) : Calls Tryd.prog 24 #[.agg #[.slice sa s sc, .slice ma m mc, .int .i64 dc, .int .i64 tr]] w fun e w' => e = .returned (.bool B) ∧ Below w.heap.size w w' := by
  have HB := Lib.hid hB
  clear hB
  by_cases h1 : s ≤ 80
  · have h1z : (s : Int) ≤ 80 := by omega
    by_cases h2 : m ≤ 80
    · have h2z : (m : Int) ≤ 80 := by omega
      have HE := Lib.hid (HB.out.trans (decide_eq_true ⟨h1, h2⟩))
      go_enter Tryd.func24, Tryd.ntmps24
      go_wp2_with fail
      go_ret
      exact ⟨boolE HE.out.symm, (by repeat' (first | with_reducible exact Below.refl _ _ | with_reducible assumption | with_reducible refine Q.alloc ?_ _ | with_reducible refine Q.drew ?_ | with_reducible refine Q.drewN ?_ _ | with_reducible refine Q.call ?_ (by assumption)))⟩
    · have h2z : ¬ (m : Int) ≤ 80 := by omega
      have HE := Lib.hid (HB.out.trans (decide_eq_false (fun h => h2 h.2)))
      go_enter Tryd.func24, Tryd.ntmps24
      go_wp2_with fail
      go_ret
      exact ⟨boolE HE.out.symm, (by repeat' (first | with_reducible exact Below.refl _ _ | with_reducible assumption | with_reducible refine Q.alloc ?_ _ | with_reducible refine Q.drew ?_ | with_reducible refine Q.drewN ?_ _ | with_reducible refine Q.call ?_ (by assumption)))⟩
  · have h1z : ¬ (s : Int) ≤ 80 := by omega
    have HE := Lib.hid (HB.out.trans (decide_eq_false (fun h => h1 h.1)))
    go_enter Tryd.func24, Tryd.ntmps24
    go_wp2_with fail
    go_ret
    exact ⟨boolE HE.out.symm, (by repeat' (first | with_reducible exact Below.refl _ _ | with_reducible assumption | with_reducible refine Q.alloc ?_ _ | with_reducible refine Q.drew ?_ | with_reducible refine Q.drewN ?_ _ | with_reducible refine Q.call ?_ (by assumption)))⟩
theorem wrap_u8 (b : Int) (h0 : 0 ≤ b) (h1 : b ≤ 255) : IntKind.i64.wrap b = b := by
  first | (apply IntKind.wrap_of_fits; simp [IntKind.fits, IntKind.min, IntKind.max, IntKind.signed, IntKind.bits]; omega) | (simp [IntKind.wrap, IntKind.signed, IntKind.bits]; omega)
/-- How a span of the document's answer lies. -/
def EN : Enc Sp 3 := ⟨fun x => [.int .i64 x.f, .int .i64 x.t, .int .i64 x.b], fun _ => rfl, fun _ v hv => by simp at hv; rcases hv with rfl | rfl | rfl <;> rfl, by decide⟩
theorem below_grown {B : Nat} {w wr V w1 : World} {o : Option Nat} (h : Below B w wr) (hB : B ≤ wr.heap.size) (hV : Below wr.heap.size wr V) (hg : V.grownBy w1 o) (ho : ∀ b, o = some b → B ≤ b) : Below B w w1 :=
  ⟨hg.os.trans (hV.os.trans h.os), hg.tape.trans (hV.tape.trans h.tape), hg.output.trans (hV.output.trans h.output), Nat.le_trans h.size (Nat.le_trans hV.size hg.size), fun k hk => (hg.block k (by have := hV.size; omega) (fun e => by have := ho k e.symm; omega)).trans ((hV.block k (by omega)).trans (h.block k hk))⟩
end Go.Proofs.YtggnkkmlabhofaaDoor

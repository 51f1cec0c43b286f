/- A table's bits of an address. (printed by gen/la7.py) -/
import Derived.Test.YtggnkkmlabhofaaDoorLa6
namespace Go.Proofs.YtggnkkmlabhofaaDoor
set_option linter.unusedVariables false
set_option linter.unusedSimpArgs false
open Go.RowKit
attribute [local go_sem ↓] Go.wp_at_zero Go.wp_at_succ

def bitsAt (a : Nat → Int) (x : Int) : Int := if 0 ≤ x ∧ x < 65536 then a x.toNat else 0
theorem there_eq (w : World) (g : Nat) (x : Int) : Calls Tryd.prog 60 #[.pointer (some ⟨g, 0, none⟩), .int .i64 x] w fun e w' => e = .returned (.bool (decide (0 ≤ x ∧ x < 65536))) ∧ w = w' := by
  by_cases h1 : 0 ≤ x
  · by_cases h2 : x < 65536
    · rw [decide_eq_true ⟨h1, h2⟩]
      go_enter Tryd.func60, Tryd.ntmps60
      go_wp2
      go_ret
      exact ⟨rfl, rfl⟩
    · rw [decide_eq_false (fun h => h2 h.2)]
      go_enter Tryd.func60, Tryd.ntmps60
      go_wp2
      go_ret
      exact ⟨rfl, rfl⟩
  · rw [decide_eq_false (fun h => h1 h.1)]
    go_enter Tryd.func60, Tryd.ntmps60
    go_wp2
    go_ret
    exact ⟨rfl, rfl⟩
theorem secret_eq (w : World) (g : Nat) (x : Int) (sv mv : Value) (dc tr : Int) (a b : Nat → Int) (hT : Tab w g sv mv dc tr a b) : Calls Tryd.prog 33 #[.pointer (some ⟨g, 0, none⟩), .int .i64 x] w fun e w' => e = .returned (.int .u8 (bitsAt a x)) ∧ Below w.heap.size w w' := by
  have TH := fun V => there_eq V g x
  by_cases h : 0 ≤ x ∧ x < 65536
  · rw [decide_eq_true h] at TH
    obtain ⟨k, rfl⟩ : ∃ k : Nat, x = k := ⟨x.toNat, by omega⟩
    have hk : k < 65536 := by omega
    have hkz : (k : Int) < 65536 := by omega
    have c0 := hT.ca hk
    have hgl := hT.lt
    rw [show bitsAt a (k : Int) = a k by unfold bitsAt; rw [if_pos h]; rfl]
    generalize a k = v at c0 ⊢
    clear hT h
    go_enter Tryd.func33, Tryd.ntmps33
    go_wp2_with (go_at_call 60; (with_reducible refine (TH _).mono ?_); rintro e w1 ⟨rfl, rfl⟩)
    go_ret
    exact ⟨rfl, (by repeat' (first | with_reducible exact Below.refl _ _ | with_reducible assumption | with_reducible refine Q.alloc ?_ _ | with_reducible refine Q.drew ?_ | with_reducible refine Q.drewN ?_ _ | with_reducible refine Q.call ?_ (by assumption)))⟩
  · rw [decide_eq_false h] at TH
    rw [show bitsAt a x = 0 by unfold bitsAt; rw [if_neg h]]
    clear hT
    go_enter Tryd.func33, Tryd.ntmps33
    go_wp2_with (go_at_call 60; (with_reducible refine (TH _).mono ?_); rintro e w1 ⟨rfl, rfl⟩)
    go_ret
    exact ⟨rfl, (by repeat' (first | with_reducible exact Below.refl _ _ | with_reducible assumption | with_reducible refine Q.alloc ?_ _ | with_reducible refine Q.drew ?_ | with_reducible refine Q.drewN ?_ _ | with_reducible refine Q.call ?_ (by assumption)))⟩
theorem sink_eq (w : World) (g : Nat) (x : Int) (sv mv : Value) (dc tr : Int) (a b : Nat → Int) (hT : Tab w g sv mv dc tr a b) : Calls Tryd.prog 38 #[.pointer (some ⟨g, 0, none⟩), .int .i64 x] w fun e w' => e = .returned (.int .u8 (bitsAt b x)) ∧ Below w.heap.size w w' := by
  have TH := fun V => there_eq V g x
  by_cases h : 0 ≤ x ∧ x < 65536
  · rw [decide_eq_true h] at TH
    obtain ⟨k, rfl⟩ : ∃ k : Nat, x = k := ⟨x.toNat, by omega⟩
    have hk : k < 65536 := by omega
    have hkz : (k : Int) < 65536 := by omega
    have c0 := hT.cb hk
    have hgl := hT.lt
    rw [show bitsAt b (k : Int) = b k by unfold bitsAt; rw [if_pos h]; rfl]
    generalize b k = v at c0 ⊢
    clear hT h
    go_enter Tryd.func38, Tryd.ntmps38
    go_wp2_with (go_at_call 60; (with_reducible refine (TH _).mono ?_); rintro e w1 ⟨rfl, rfl⟩)
    go_ret
    exact ⟨rfl, (by repeat' (first | with_reducible exact Below.refl _ _ | with_reducible assumption | with_reducible refine Q.alloc ?_ _ | with_reducible refine Q.drew ?_ | with_reducible refine Q.drewN ?_ _ | with_reducible refine Q.call ?_ (by assumption)))⟩
  · rw [decide_eq_false h] at TH
    rw [show bitsAt b x = 0 by unfold bitsAt; rw [if_neg h]]
    clear hT
    go_enter Tryd.func38, Tryd.ntmps38
    go_wp2_with (go_at_call 60; (with_reducible refine (TH _).mono ?_); rintro e w1 ⟨rfl, rfl⟩)
    go_ret
    exact ⟨rfl, (by repeat' (first | with_reducible exact Below.refl _ _ | with_reducible assumption | with_reducible refine Q.alloc ?_ _ | with_reducible refine Q.drew ?_ | with_reducible refine Q.drewN ?_ _ | with_reducible refine Q.call ?_ (by assumption)))⟩
theorem leaks_eq (w : World) (g : Nat) (x bv bt : Int) (sv mv : Value) (dc tr : Int) (a b : Nat → Int) (hT : Tab w g sv mv dc tr a b) : Calls Tryd.prog 39 #[.pointer (some ⟨g, 0, none⟩), .int .i64 x, .agg #[.int .u8 bv, .int .u8 bt]] w fun e w' => e = .returned (.int .u8 (bits .and .u8 (bitsAt b x) bt)) ∧ Below w.heap.size w w' := by
  obtain ⟨W, hW⟩ : ∃ W, W = w.alloc (.cells #[.int .u8 bv, .int .u8 bt] 57) := ⟨_, rfl⟩
  obtain ⟨hx, hhx⟩ : ∃ hx, hx = w.heap.size := ⟨_, rfl⟩
  have bW : Below w.heap.size w W := by rw [hW]; exact Q.alloc (Below.refl _ _) _
  have XB : Blk W hx 57 #[.int .u8 bv, .int .u8 bt] := by rw [hW]; exact Blk.new' hhx
  have C := fun y : BW W => sink_eq y.val g x sv mv dc tr a b ((hT.call bW).call y.has)
  have Lx1 : ∀ y : BW W, y.val.cell? ⟨hx, 1, none⟩ = some (.int .u8 bt) := fun y => (XB.call y.has).cell 1
  generalize bitsAt b x = v at C ⊢
  have HB := Lib.hid bW
  clear hT XB bW
  go_enter Tryd.func39, Tryd.ntmps39
  go_wp2_with fail
  rw [← hhx, ← hW]
  clear hW hhx
  refine wp_region_below (by kernel_rfl) (by kernel_rfl) ?_
  repeat (go_big_quiet_step ((go_at_call 38; exact calls_bw (C _))))
  refine wpQuiet_nil ?_
  first | (intro w9 hw9; obtain ⟨y1, rfl⟩ := hw9) | intro y1
  go_wp2_with fail
  go_ret
  exact ⟨rfl, Q.call HB.out y1.has⟩
end Go.Proofs.YtggnkkmlabhofaaDoor

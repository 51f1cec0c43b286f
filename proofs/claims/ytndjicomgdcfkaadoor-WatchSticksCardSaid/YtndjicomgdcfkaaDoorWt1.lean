/- Alarms: what is one; the document's hexadecimal digits. (printed by gen/wt1.py) -/
import Derived.Test.YtndjicomgdcfkaaDoorCp2
namespace Go.Proofs.YtndjicomgdcfkaaDoor
set_option linter.unusedVariables false
set_option linter.unusedSimpArgs false
open Go.RowKit
attribute [local go_sem ↓] Go.wp_at_zero Go.wp_at_succ
attribute [local go_sem high] cat_ok

def alF (ru cy at_ : Int) : Bool := decide (1 ≤ ru ∧ ru ≤ 4 ∧ 0 ≤ cy ∧ 0 ≤ at_ ∧ at_ ≤ 65535)
/-- A digit's byte; the last digits of a number. -/
def hd (d : Nat) : UInt8 := if d < 10 then UInt8.ofNat (48 + d) else UInt8.ofNat (87 + d)
def hexA : Nat → Nat → By → By
  | 0, _, out => out
  | k + 1, n, out => hexA k (n / 16) (hd (n % 16) :: out)
theorem hexA_len : ∀ (k n : Nat) (out : By), (hexA k n out).length = k + out.length
  | 0, _, out => by simp [hexA]
  | k + 1, n, out => by rw [hexA, hexA_len]; simp; omega
abbrev hx16 : ByteArray := ⟨#[48, 49, 50, 51, 52, 53, 54, 55, 56, 57, 97, 98, 99, 100, 101, 102]⟩
theorem hx_one (d : Nat) (h : d < 16) : hx16.extract d (d + 1) = str [hd d] := by
  have key : ∀ d : Fin 16, hx16.extract d.val (d.val + 1) = str [hd d.val] := by decide +kernel
  exact key ⟨d, h⟩
theorem afits_eq (w : World) (ru cy at_ bi : Int) (B : Bool) (hB : B = alF ru cy at_) : Calls Tryd.prog 38 #[.agg #[.int .i64 ru, .int .i64 cy, .int .i64 at_, .int .u8 bi]] w fun e w' => e = .returned (.bool B) ∧ Below w.heap.size w w' := by
  have HB := Lib.hid hB
  clear hB
  by_cases h1 : 1 ≤ ru
  rotate_left
  · have h5' : ¬ at_ < 65536 ∨ True := .inr trivial
    have HE := Lib.hid (HB.out.trans (show alF ru cy at_ = false from decide_eq_false (by omega)))
    go_enter Tryd.func38, Tryd.ntmps38
    go_wp2_with fail
    go_ret
    exact ⟨bool_eq HE.out.symm, (by repeat' (first | with_reducible exact Below.refl _ _ | with_reducible assumption | with_reducible refine Q.alloc ?_ _ | with_reducible refine Q.drew ?_ | with_reducible refine Q.drewN ?_ _ | with_reducible refine Q.call ?_ (by assumption)))⟩
  by_cases h2 : ru ≤ 4
  rotate_left
  · have h5' : ¬ at_ < 65536 ∨ True := .inr trivial
    have HE := Lib.hid (HB.out.trans (show alF ru cy at_ = false from decide_eq_false (by omega)))
    go_enter Tryd.func38, Tryd.ntmps38
    go_wp2_with fail
    go_ret
    exact ⟨bool_eq HE.out.symm, (by repeat' (first | with_reducible exact Below.refl _ _ | with_reducible assumption | with_reducible refine Q.alloc ?_ _ | with_reducible refine Q.drew ?_ | with_reducible refine Q.drewN ?_ _ | with_reducible refine Q.call ?_ (by assumption)))⟩
  by_cases h3 : 0 ≤ cy
  rotate_left
  · have h5' : ¬ at_ < 65536 ∨ True := .inr trivial
    have HE := Lib.hid (HB.out.trans (show alF ru cy at_ = false from decide_eq_false (by omega)))
    go_enter Tryd.func38, Tryd.ntmps38
    go_wp2_with fail
    go_ret
    exact ⟨bool_eq HE.out.symm, (by repeat' (first | with_reducible exact Below.refl _ _ | with_reducible assumption | with_reducible refine Q.alloc ?_ _ | with_reducible refine Q.drew ?_ | with_reducible refine Q.drewN ?_ _ | with_reducible refine Q.call ?_ (by assumption)))⟩
  by_cases h4 : 0 ≤ at_
  rotate_left
  · have h5' : ¬ at_ < 65536 ∨ True := .inr trivial
    have HE := Lib.hid (HB.out.trans (show alF ru cy at_ = false from decide_eq_false (by omega)))
    go_enter Tryd.func38, Tryd.ntmps38
    go_wp2_with fail
    go_ret
    exact ⟨bool_eq HE.out.symm, (by repeat' (first | with_reducible exact Below.refl _ _ | with_reducible assumption | with_reducible refine Q.alloc ?_ _ | with_reducible refine Q.drew ?_ | with_reducible refine Q.drewN ?_ _ | with_reducible refine Q.call ?_ (by assumption)))⟩
  by_cases h5 : at_ ≤ 65535
  rotate_left
  · have h5' : ¬ at_ < 65536 ∨ True := .inr trivial
    have h6 : ¬ at_ < 65536 := by omega
    have HE := Lib.hid (HB.out.trans (show alF ru cy at_ = false from decide_eq_false (by omega)))
    go_enter Tryd.func38, Tryd.ntmps38
    go_wp2_with fail
    go_ret
    exact ⟨bool_eq HE.out.symm, (by repeat' (first | with_reducible exact Below.refl _ _ | with_reducible assumption | with_reducible refine Q.alloc ?_ _ | with_reducible refine Q.drew ?_ | with_reducible refine Q.drewN ?_ _ | with_reducible refine Q.call ?_ (by assumption)))⟩
  have h6 : at_ < 65536 := by omega
  have HE := Lib.hid (HB.out.trans (show alF ru cy at_ = true from decide_eq_true (by omega)))
  go_enter Tryd.func38, Tryd.ntmps38
  go_wp2_with fail
  go_ret
  exact ⟨bool_eq HE.out.symm, (by repeat' (first | with_reducible exact Below.refl _ _ | with_reducible assumption | with_reducible refine Q.alloc ?_ _ | with_reducible refine Q.drew ?_ | with_reducible refine Q.drewN ?_ _ | with_reducible refine Q.call ?_ (by assumption)))⟩
theorem rafits_eq (w : World) (ru cy at_ bi : Int) (B : Bool) (hB : B = alF ru cy at_) : Calls Tryd.prog 32 #[.agg #[.int .i64 ru, .int .i64 cy, .int .i64 at_, .int .u8 bi]] w fun e w' => e = .returned (.bool B) ∧ Below w.heap.size w w' := by
  have HB := Lib.hid hB
  clear hB
  by_cases h1 : 1 ≤ ru
  rotate_left
  · have h5' : ¬ at_ < 65536 ∨ True := .inr trivial
    have HE := Lib.hid (HB.out.trans (show alF ru cy at_ = false from decide_eq_false (by omega)))
    go_enter Tryd.func32, Tryd.ntmps32
    go_wp2_with fail
    go_ret
    exact ⟨bool_eq HE.out.symm, (by repeat' (first | with_reducible exact Below.refl _ _ | with_reducible assumption | with_reducible refine Q.alloc ?_ _ | with_reducible refine Q.drew ?_ | with_reducible refine Q.drewN ?_ _ | with_reducible refine Q.call ?_ (by assumption)))⟩
  by_cases h2 : ru ≤ 4
  rotate_left
  · have h5' : ¬ at_ < 65536 ∨ True := .inr trivial
    have HE := Lib.hid (HB.out.trans (show alF ru cy at_ = false from decide_eq_false (by omega)))
    go_enter Tryd.func32, Tryd.ntmps32
    go_wp2_with fail
    go_ret
    exact ⟨bool_eq HE.out.symm, (by repeat' (first | with_reducible exact Below.refl _ _ | with_reducible assumption | with_reducible refine Q.alloc ?_ _ | with_reducible refine Q.drew ?_ | with_reducible refine Q.drewN ?_ _ | with_reducible refine Q.call ?_ (by assumption)))⟩
  by_cases h3 : 0 ≤ cy
  rotate_left
  · have h5' : ¬ at_ < 65536 ∨ True := .inr trivial
    have HE := Lib.hid (HB.out.trans (show alF ru cy at_ = false from decide_eq_false (by omega)))
    go_enter Tryd.func32, Tryd.ntmps32
    go_wp2_with fail
    go_ret
    exact ⟨bool_eq HE.out.symm, (by repeat' (first | with_reducible exact Below.refl _ _ | with_reducible assumption | with_reducible refine Q.alloc ?_ _ | with_reducible refine Q.drew ?_ | with_reducible refine Q.drewN ?_ _ | with_reducible refine Q.call ?_ (by assumption)))⟩
  by_cases h4 : 0 ≤ at_
  rotate_left
  · have h5' : ¬ at_ < 65536 ∨ True := .inr trivial
    have HE := Lib.hid (HB.out.trans (show alF ru cy at_ = false from decide_eq_false (by omega)))
    go_enter Tryd.func32, Tryd.ntmps32
    go_wp2_with fail
    go_ret
    exact ⟨bool_eq HE.out.symm, (by repeat' (first | with_reducible exact Below.refl _ _ | with_reducible assumption | with_reducible refine Q.alloc ?_ _ | with_reducible refine Q.drew ?_ | with_reducible refine Q.drewN ?_ _ | with_reducible refine Q.call ?_ (by assumption)))⟩
  by_cases h5 : at_ ≤ 65535
  rotate_left
  · have h5' : ¬ at_ < 65536 ∨ True := .inr trivial
    have h6 : ¬ at_ < 65536 := by omega
    have HE := Lib.hid (HB.out.trans (show alF ru cy at_ = false from decide_eq_false (by omega)))
    go_enter Tryd.func32, Tryd.ntmps32
    go_wp2_with fail
    go_ret
    exact ⟨bool_eq HE.out.symm, (by repeat' (first | with_reducible exact Below.refl _ _ | with_reducible assumption | with_reducible refine Q.alloc ?_ _ | with_reducible refine Q.drew ?_ | with_reducible refine Q.drewN ?_ _ | with_reducible refine Q.call ?_ (by assumption)))⟩
  have h6 : at_ < 65536 := by omega
  have HE := Lib.hid (HB.out.trans (show alF ru cy at_ = true from decide_eq_true (by omega)))
  go_enter Tryd.func32, Tryd.ntmps32
  go_wp2_with fail
  go_ret
  exact ⟨bool_eq HE.out.symm, (by repeat' (first | with_reducible exact Below.refl _ _ | with_reducible assumption | with_reducible refine Q.alloc ?_ _ | with_reducible refine Q.drew ?_ | with_reducible refine Q.drewN ?_ _ | with_reducible refine Q.call ?_ (by assumption)))⟩
end Go.Proofs.YtndjicomgdcfkaaDoor

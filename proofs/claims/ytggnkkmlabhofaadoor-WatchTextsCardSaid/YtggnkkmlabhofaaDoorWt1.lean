/- Alarms: what is one; the document's hexadecimal digits. (printed by gen/wt1.py) -/
import Derived.Test.YtggnkkmlabhofaaDoorCp2
namespace Go.Proofs.YtggnkkmlabhofaaDoor
set_option linter.unusedVariables false
set_option linter.unusedSimpArgs false
open Go.RowKit
attribute [local go_sem ↓] Go.wp_at_zero Go.wp_at_succ
attribute [local go_sem high] cat_ok

def alF (ru cy at_ : Int) : Bool := decide (1 ≤ ru ∧ ru ≤ 4 ∧ 0 ≤ cy ∧ 0 ≤ at_ ∧ at_ ≤ 65535)
/-- A digit's byte; the last digits of a number. -/
def hd (d : Nat) : UInt8 := if d < 10 then UInt8.ofNat (48 + d) else UInt8.ofNat (87 + d)
def hexA : Nat → Nat → By → By
  | 0, _, out => out
  | k + 1, n, out => hexA k (n / 16) (hd (n % 16) :: out)
theorem hexA_len : ∀ (k n : Nat) (out : By), (hexA k n out).length = k + out.length
  | 0, _, out => by simp [hexA]
  | k + 1, n, out => by rw [hexA, hexA_len]; simp; omega
abbrev hx16 : ByteArray := ⟨#[48, 49, 50, 51, 52, 53, 54, 55, 56, 57, 97, 98, 99, 100, 101, 102]⟩
theorem hx_one (d : Nat) (h : d < 16) : hx16.extract d (d + 1) = str [hd d] := by
  have key : ∀ d : Fin 16, hx16.extract d.val (d.val + 1) = str [hd d.val] := by decide +kernel
  exact key ⟨d, h⟩
set_option maxRecDepth 100000 in
set_option maxHeartbeats 1600000 in
theorem rhex_eq (w : World) (n mm : Nat) (hn : n ≤ 65535) (hm : mm ≤ 4) : Calls Tryd.prog 68 #[.int .i64 n, .int .i64 mm] w fun e w' => e = .returned (.string (str (hexA mm n []))) ∧ w = w' := by
  go_enter Tryd.func68, Tryd.ntmps68
  go_wp2_with fail
  go_loop [0, 6, 7] (fun x0 x5 x7 => ∃ (j n' : Nat) (ob : ByteArray) (out : By), j ≤ mm ∧ n' ≤ 65535 ∧ x0 = .int .i64 (n' : Int) ∧ x5 = .string ob ∧ x7 = .int .i64 (j : Int) ∧ ob.size ≤ 100 ∧ Hid (ob = str out ∧ out.length = j ∧ hexA (mm - j) n' out = hexA mm n [])) (fun _ _ i => mm - (intOf i).toNat)
  case atStart => exact ⟨0, n, ⟨#[]⟩, [], Nat.zero_le _, hn, rfl, rfl, rfl, by decide, Lib.hid ⟨rfl, rfl, rfl⟩⟩
  case round =>
    obtain ⟨j, n', ob, out, hj, hn', rfl, rfl, rfl, hob, HH⟩ := hrel
    by_cases hlt : j < mm
    · have hlti : (j : Int) < (mm : Int) := by omega
      obtain ⟨d, hd0⟩ : ∃ d, d = n' % 16 := ⟨_, rfl⟩
      obtain ⟨q, hq0⟩ : ∃ q, q = n' / 16 := ⟨_, rfl⟩
      have e1 : (n' : Int) % 16 = (d : Int) := by omega
      have e2 : (n' : Int) / 16 = (q : Int) := by omega
      have hdl : d < 16 := by omega
      have h1 : (d : Int) ≤ (d : Int) + 1 := by omega
      have h2 : (d : Int) + 1 ≤ 16 := by omega
      have h3 : d + 1 ≤ 16 := by omega
      have h4 : ((d : Int) + 1).toNat = d + 1 := by omega
      have hn0 : (0 : Int) ≤ (n' : Int) := by omega
      have HX := Lib.hid (hx_one d hdl)
      have hx3 : (hx16.extract d (d + 1)).size ≤ 1000000 := by rw [HX.out, str_size]; simp
      have hob2 : ob.size ≤ 1000000 := by omega
      have HN := Lib.hid (show hexA (mm - (j + 1)) q (hd d :: out) = hexA mm n [] from by
        have h := HH.out.2.2
        rw [show mm - j = (mm - (j + 1)) + 1 by omega, hexA, ← hd0, ← hq0] at h
        exact h)
      have hql : q ≤ 65535 := by omega
      have HE := Lib.hid (show hx16.extract d (d + 1) ++ ob = str (hd d :: out) from by rw [HX.out, HH.out.1, str_app]; rfl)
      clear hd0 hq0
      go_wp2_with fail
      go_round
      case rel => exact ⟨j + 1, q, _, hd d :: out, by omega, hql, by first | rfl | (rw [e2]), rfl, by go_num, by rw [HE.out, str_size, List.length_cons, HH.out.2.1]; omega, Lib.hid ⟨HE.out, by rw [List.length_cons, HH.out.2.1], HN.out⟩⟩
      case measure => simp [intOf]; omega
    · have hlti : ¬ (j : Int) < (mm : Int) := by omega
      go_wp2_with fail
      go_ret
      refine ⟨?_, rfl⟩
      obtain ⟨h1, h2, h3⟩ := HH.out
      rw [show mm - j = 0 by omega, hexA] at h3
      rw [h1, h3]
      rfl
theorem afits_eq (w : World) (ru cy at_ bi : Int) (B : Bool) (hB : B = alF ru cy at_) : Calls Tryd.prog 42 #[.agg #[.int .i64 ru, .int .i64 cy, .int .i64 at_, .int .u8 bi]] w fun e w' => e = .returned (.bool B) ∧ Below w.heap.size w w' := by
  have HB := Lib.hid hB
  clear hB
  by_cases h1 : 1 ≤ ru
  rotate_left
  · have h5' : ¬ at_ < 65536 ∨ True := .inr trivial
    have HE := Lib.hid (HB.out.trans (show alF ru cy at_ = false from decide_eq_false (by omega)))
    go_enter Tryd.func42, Tryd.ntmps42
    go_wp2_with fail
    go_ret
    exact ⟨bool_eq HE.out.symm, (by repeat' (first | with_reducible exact Below.refl _ _ | with_reducible assumption | with_reducible refine Q.alloc ?_ _ | with_reducible refine Q.drew ?_ | with_reducible refine Q.drewN ?_ _ | with_reducible refine Q.call ?_ (by assumption)))⟩
  by_cases h2 : ru ≤ 4
  rotate_left
  · have h5' : ¬ at_ < 65536 ∨ True := .inr trivial
    have HE := Lib.hid (HB.out.trans (show alF ru cy at_ = false from decide_eq_false (by omega)))
    go_enter Tryd.func42, Tryd.ntmps42
    go_wp2_with fail
    go_ret
    exact ⟨bool_eq HE.out.symm, (by repeat' (first | with_reducible exact Below.refl _ _ | with_reducible assumption | with_reducible refine Q.alloc ?_ _ | with_reducible refine Q.drew ?_ | with_reducible refine Q.drewN ?_ _ | with_reducible refine Q.call ?_ (by assumption)))⟩
  by_cases h3 : 0 ≤ cy
  rotate_left
  · have h5' : ¬ at_ < 65536 ∨ True := .inr trivial
    have HE := Lib.hid (HB.out.trans (show alF ru cy at_ = false from decide_eq_false (by omega)))
    go_enter Tryd.func42, Tryd.ntmps42
    go_wp2_with fail
    go_ret
    exact ⟨bool_eq HE.out.symm, (by repeat' (first | with_reducible exact Below.refl _ _ | with_reducible assumption | with_reducible refine Q.alloc ?_ _ | with_reducible refine Q.drew ?_ | with_reducible refine Q.drewN ?_ _ | with_reducible refine Q.call ?_ (by assumption)))⟩
  by_cases h4 : 0 ≤ at_
  rotate_left
  · have h5' : ¬ at_ < 65536 ∨ True := .inr trivial
    have HE := Lib.hid (HB.out.trans (show alF ru cy at_ = false from decide_eq_false (by omega)))
    go_enter Tryd.func42, Tryd.ntmps42
    go_wp2_with fail
    go_ret
    exact ⟨bool_eq HE.out.symm, (by repeat' (first | with_reducible exact Below.refl _ _ | with_reducible assumption | with_reducible refine Q.alloc ?_ _ | with_reducible refine Q.drew ?_ | with_reducible refine Q.drewN ?_ _ | with_reducible refine Q.call ?_ (by assumption)))⟩
  by_cases h5 : at_ ≤ 65535
  rotate_left
  · have h5' : ¬ at_ < 65536 ∨ True := .inr trivial
    have h6 : ¬ at_ < 65536 := by omega
    have HE := Lib.hid (HB.out.trans (show alF ru cy at_ = false from decide_eq_false (by omega)))
    go_enter Tryd.func42, Tryd.ntmps42
    go_wp2_with fail
    go_ret
    exact ⟨bool_eq HE.out.symm, (by repeat' (first | with_reducible exact Below.refl _ _ | with_reducible assumption | with_reducible refine Q.alloc ?_ _ | with_reducible refine Q.drew ?_ | with_reducible refine Q.drewN ?_ _ | with_reducible refine Q.call ?_ (by assumption)))⟩
  have h6 : at_ < 65536 := by omega
  have HE := Lib.hid (HB.out.trans (show alF ru cy at_ = true from decide_eq_true (by omega)))
  go_enter Tryd.func42, Tryd.ntmps42
  go_wp2_with fail
  go_ret
  exact ⟨bool_eq HE.out.symm, (by repeat' (first | with_reducible exact Below.refl _ _ | with_reducible assumption | with_reducible refine Q.alloc ?_ _ | with_reducible refine Q.drew ?_ | with_reducible refine Q.drewN ?_ _ | with_reducible refine Q.call ?_ (by assumption)))⟩
theorem rafits_eq (w : World) (ru cy at_ bi : Int) (B : Bool) (hB : B = alF ru cy at_) : Calls Tryd.prog 9 #[.agg #[.int .i64 ru, .int .i64 cy, .int .i64 at_, .int .u8 bi]] w fun e w' => e = .returned (.bool B) ∧ Below w.heap.size w w' := by
  have HB := Lib.hid hB
  clear hB
  by_cases h1 : 1 ≤ ru
  rotate_left
  · have h5' : ¬ at_ < 65536 ∨ True := .inr trivial
    have HE := Lib.hid (HB.out.trans (show alF ru cy at_ = false from decide_eq_false (by omega)))
    go_enter Tryd.func9, Tryd.ntmps9
    go_wp2_with fail
    go_ret
    exact ⟨bool_eq HE.out.symm, (by repeat' (first | with_reducible exact Below.refl _ _ | with_reducible assumption | with_reducible refine Q.alloc ?_ _ | with_reducible refine Q.drew ?_ | with_reducible refine Q.drewN ?_ _ | with_reducible refine Q.call ?_ (by assumption)))⟩
  by_cases h2 : ru ≤ 4
  rotate_left
  · have h5' : ¬ at_ < 65536 ∨ True := .inr trivial
    have HE := Lib.hid (HB.out.trans (show alF ru cy at_ = false from decide_eq_false (by omega)))
    go_enter Tryd.func9, Tryd.ntmps9
    go_wp2_with fail
    go_ret
    exact ⟨bool_eq HE.out.symm, (by repeat' (first | with_reducible exact Below.refl _ _ | with_reducible assumption | with_reducible refine Q.alloc ?_ _ | with_reducible refine Q.drew ?_ | with_reducible refine Q.drewN ?_ _ | with_reducible refine Q.call ?_ (by assumption)))⟩
  by_cases h3 : 0 ≤ cy
  rotate_left
  · have h5' : ¬ at_ < 65536 ∨ True := .inr trivial
    have HE := Lib.hid (HB.out.trans (show alF ru cy at_ = false from decide_eq_false (by omega)))
    go_enter Tryd.func9, Tryd.ntmps9
    go_wp2_with fail
    go_ret
    exact ⟨bool_eq HE.out.symm, (by repeat' (first | with_reducible exact Below.refl _ _ | with_reducible assumption | with_reducible refine Q.alloc ?_ _ | with_reducible refine Q.drew ?_ | with_reducible refine Q.drewN ?_ _ | with_reducible refine Q.call ?_ (by assumption)))⟩
  by_cases h4 : 0 ≤ at_
  rotate_left
  · have h5' : ¬ at_ < 65536 ∨ True := .inr trivial
    have HE := Lib.hid (HB.out.trans (show alF ru cy at_ = false from decide_eq_false (by omega)))
    go_enter Tryd.func9, Tryd.ntmps9
    go_wp2_with fail
    go_ret
    exact ⟨bool_eq HE.out.symm, (by repeat' (first | with_reducible exact Below.refl _ _ | with_reducible assumption | with_reducible refine Q.alloc ?_ _ | with_reducible refine Q.drew ?_ | with_reducible refine Q.drewN ?_ _ | with_reducible refine Q.call ?_ (by assumption)))⟩
  by_cases h5 : at_ ≤ 65535
  rotate_left
  · have h5' : ¬ at_ < 65536 ∨ True := .inr trivial
    have h6 : ¬ at_ < 65536 := by omega
    have HE := Lib.hid (HB.out.trans (show alF ru cy at_ = false from decide_eq_false (by omega)))
    go_enter Tryd.func9, Tryd.ntmps9
    go_wp2_with fail
    go_ret
    exact ⟨bool_eq HE.out.symm, (by repeat' (first | with_reducible exact Below.refl _ _ | with_reducible assumption | with_reducible refine Q.alloc ?_ _ | with_reducible refine Q.drew ?_ | with_reducible refine Q.drewN ?_ _ | with_reducible refine Q.call ?_ (by assumption)))⟩
  have h6 : at_ < 65536 := by omega
  have HE := Lib.hid (HB.out.trans (show alF ru cy at_ = true from decide_eq_true (by omega)))
  go_enter Tryd.func9, Tryd.ntmps9
  go_wp2_with fail
  go_ret
  exact ⟨bool_eq HE.out.symm, (by repeat' (first | with_reducible exact Below.refl _ _ | with_reducible assumption | with_reducible refine Q.alloc ?_ _ | with_reducible refine Q.drew ?_ | with_reducible refine Q.drewN ?_ _ | with_reducible refine Q.call ?_ (by assumption)))⟩
end Go.Proofs.YtggnkkmlabhofaaDoor

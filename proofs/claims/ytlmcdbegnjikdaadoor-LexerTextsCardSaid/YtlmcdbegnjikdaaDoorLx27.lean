/- The lexer: a token's text. (printed by gen/lx27.py) -/
import Derived.Test.YtlmcdbegnjikdaaDoorLx26
namespace Go.Proofs.YtlmcdbegnjikdaaDoor
set_option linter.unusedVariables false
set_option linter.unusedSimpArgs false
open Go.RowKit
attribute [local go_sem ↓] Go.wp_at_zero Go.wp_at_succ
attribute [local go_sem high] cat_ok

theorem hexA_size (k n : Nat) (h : k ≤ 4) : (str (hexA k n [])).size ≤ 1000000 := by rw [str_size, hexA_len]; simp; omega
theorem hex_at (w : World) (n m : Int) (mm : Nat) (h0 : ¬ n < 0) (hn : ¬ 65535 < n) (hm : mm ≤ 4) (e : m = (mm : Int)) : Calls Tryd.prog 21 #[.int .i64 n, .int .i64 m] w fun e w' => e = .returned (.string (str (hexA mm n.toNat []))) ∧ w = w' := by
  have h := hex_eq w n.toNat mm (by omega) hm
  rw [show ((n.toNat : Nat) : Int) = n by omega, ← e] at h
  exact h
theorem refhex_at (w : World) (n m : Int) (mm : Nat) (h0 : ¬ n < 0) (hn : ¬ 65535 < n) (hm : mm ≤ 4) (e : m = (mm : Int)) : Calls Tryd.prog 23 #[.int .i64 n, .int .i64 m] w fun e w' => e = .returned (.string (str (hexA mm n.toNat []))) ∧ Below w.heap.size w w' := by
  have h := refhex_eq w n.toNat mm (by omega) hm
  rw [show ((n.toNat : Nat) : Int) = n by omega, ← e] at h
  exact h
theorem str_nil_iff (x : By) : (str x = ⟨#[]⟩) ↔ x = [] := by
  constructor
  · intro h
    have := congrArg ByteArray.size h
    rw [str_size] at this
    exact List.eq_nil_of_length_eq_zero this
  · rintro rfl; rfl
theorem str_ne {x : By} (h : x ≠ []) : (str x).toList.isEmpty = false := by
  rw [← decide_eq_emptyBytes]
  exact decide_eq_false fun e => h ((str_nil_iff x).1 e)
set_option maxHeartbeats 1600000 in
theorem lexText_three (w : World) (k n ln c : Int) (x : By) (hk : k = 3) : Calls Tryd.prog 12 #[.agg #[.int .i64 k, .string (str x), .int .i64 n, .int .i64 ln, .int .i64 c]] w fun e w' => e = .returned (.tuple #[.string ⟨#[46, 46]⟩, .int .i64 0]) ∧ Below w.heap.size w w' := by
  subst hk
  go_enter Tryd.func12, Tryd.ntmps12
  go_wp2_with (fail)
  go_ret2
  exact ⟨by first | rfl | (simp only [str_app]; rfl), by repeat' (first | with_reducible exact Below.refl _ _ | with_reducible assumption | with_reducible refine Q.alloc ?_ _ | with_reducible refine Q.drew ?_ | with_reducible refine Q.drewN ?_ _ | with_reducible refine Q.call ?_ (by assumption))⟩
set_option maxHeartbeats 1600000 in
theorem lexText_four (w : World) (k n ln c : Int) (x : By) (hk : k = 4) : Calls Tryd.prog 12 #[.agg #[.int .i64 k, .string (str x), .int .i64 n, .int .i64 ln, .int .i64 c]] w fun e w' => e = .returned (.tuple #[.string ⟨#[10]⟩, .int .i64 0]) ∧ Below w.heap.size w w' := by
  subst hk
  go_enter Tryd.func12, Tryd.ntmps12
  go_wp2_with (fail)
  go_ret2
  exact ⟨by first | rfl | (simp only [str_app]; rfl), by repeat' (first | with_reducible exact Below.refl _ _ | with_reducible assumption | with_reducible refine Q.alloc ?_ _ | with_reducible refine Q.drew ?_ | with_reducible refine Q.drewN ?_ _ | with_reducible refine Q.call ?_ (by assumption))⟩
set_option maxHeartbeats 1600000 in
theorem lexText_other (w : World) (k n ln c : Int) (x : By) (h1 : k ≠ 1) (h2 : k ≠ 2) (h3 : k ≠ 3) (h4 : k ≠ 4) : Calls Tryd.prog 12 #[.agg #[.int .i64 k, .string (str x), .int .i64 n, .int .i64 ln, .int .i64 c]] w fun e w' => e = .returned (.tuple #[.string ⟨#[]⟩, .int .i64 15]) ∧ Below w.heap.size w w' := by
  have b1 : (k == 1) = false := by simp [h1]
  have b2 : (k == 2) = false := by simp [h2]
  have b3 : (k == 3) = false := by simp [h3]
  have b4 : (k == 4) = false := by simp [h4]
  go_enter Tryd.func12, Tryd.ntmps12
  go_wp2_with (fail)
  go_ret2
  exact ⟨by first | rfl | (simp only [str_app]; rfl), by repeat' (first | with_reducible exact Below.refl _ _ | with_reducible assumption | with_reducible refine Q.alloc ?_ _ | with_reducible refine Q.drew ?_ | with_reducible refine Q.drewN ?_ _ | with_reducible refine Q.call ?_ (by assumption))⟩
set_option maxHeartbeats 1600000 in
theorem lexText_neg (w : World) (k n ln c : Int) (x : By) (hk : k = 2) (hn : n < 0) : Calls Tryd.prog 12 #[.agg #[.int .i64 k, .string (str x), .int .i64 n, .int .i64 ln, .int .i64 c]] w fun e w' => e = .returned (.tuple #[.string ⟨#[]⟩, .int .i64 10]) ∧ Below w.heap.size w w' := by
  subst hk
  go_enter Tryd.func12, Tryd.ntmps12
  go_wp2_with (fail)
  go_ret2
  exact ⟨by first | rfl | (simp only [str_app]; rfl), by repeat' (first | with_reducible exact Below.refl _ _ | with_reducible assumption | with_reducible refine Q.alloc ?_ _ | with_reducible refine Q.drew ?_ | with_reducible refine Q.drewN ?_ _ | with_reducible refine Q.call ?_ (by assumption))⟩
set_option maxHeartbeats 1600000 in
theorem lexText_big (w : World) (k n ln c : Int) (x : By) (hk : k = 2) (hn : ¬ n < 0) (hn2 : 65535 < n) : Calls Tryd.prog 12 #[.agg #[.int .i64 k, .string (str x), .int .i64 n, .int .i64 ln, .int .i64 c]] w fun e w' => e = .returned (.tuple #[.string ⟨#[]⟩, .int .i64 10]) ∧ Below w.heap.size w w' := by
  subst hk
  go_enter Tryd.func12, Tryd.ntmps12
  go_wp2_with (fail)
  go_ret2
  exact ⟨by first | rfl | (simp only [str_app]; rfl), by repeat' (first | with_reducible exact Below.refl _ _ | with_reducible assumption | with_reducible refine Q.alloc ?_ _ | with_reducible refine Q.drew ?_ | with_reducible refine Q.drewN ?_ _ | with_reducible refine Q.call ?_ (by assumption))⟩
set_option maxHeartbeats 1600000 in
theorem lexText_lo (w : World) (k n ln c : Int) (x : By) (hk : k = 2) (hn : ¬ n < 0) (hn2 : ¬ 65535 < n) (hn3 : n < 256) : Calls Tryd.prog 12 #[.agg #[.int .i64 k, .string (str x), .int .i64 n, .int .i64 ln, .int .i64 c]] w fun e w' => e = .returned (.tuple #[.string (⟨#[36]⟩ ++ str (hexA 2 n.toNat [])), .int .i64 0]) ∧ Below w.heap.size w w' := by
  subst hk
  have hn5 : ¬ 255 < n := by omega
  have hsz := hexA_size 2 n.toNat (by decide)
  go_enter Tryd.func12, Tryd.ntmps12
  go_wp2_with (first
      | (go_at_call 21; (with_reducible refine (hex_at _ n 2 2 hn hn2 (by decide) rfl).mono ?_); rintro e w1 ⟨rfl, rfl⟩))
  go_ret2
  exact ⟨by first | rfl | (simp only [str_app]; rfl), by repeat' (first | with_reducible exact Below.refl _ _ | with_reducible assumption | with_reducible refine Q.alloc ?_ _ | with_reducible refine Q.drew ?_ | with_reducible refine Q.drewN ?_ _ | with_reducible refine Q.call ?_ (by assumption))⟩
set_option maxHeartbeats 1600000 in
theorem lexText_hi (w : World) (k n ln c : Int) (x : By) (hk : k = 2) (hn : ¬ n < 0) (hn2 : ¬ 65535 < n) (hn3 : ¬ n < 256) : Calls Tryd.prog 12 #[.agg #[.int .i64 k, .string (str x), .int .i64 n, .int .i64 ln, .int .i64 c]] w fun e w' => e = .returned (.tuple #[.string (⟨#[36]⟩ ++ str (hexA 4 n.toNat [])), .int .i64 0]) ∧ Below w.heap.size w w' := by
  subst hk
  have hn5 : 255 < n := by omega
  have hsz := hexA_size 4 n.toNat (by decide)
  go_enter Tryd.func12, Tryd.ntmps12
  go_wp2_with (first
      | (go_at_call 21; (with_reducible refine (hex_at _ n 4 4 hn hn2 (by decide) rfl).mono ?_); rintro e w1 ⟨rfl, rfl⟩))
  go_ret2
  exact ⟨by first | rfl | (simp only [str_app]; rfl), by repeat' (first | with_reducible exact Below.refl _ _ | with_reducible assumption | with_reducible refine Q.alloc ?_ _ | with_reducible refine Q.drew ?_ | with_reducible refine Q.drewN ?_ _ | with_reducible refine Q.call ?_ (by assumption))⟩
set_option maxHeartbeats 1600000 in
theorem lexText_empty (w : World) (k n ln c : Int) (x : By) (hk : k = 1) (hx : x = []) : Calls Tryd.prog 12 #[.agg #[.int .i64 k, .string (str x), .int .i64 n, .int .i64 ln, .int .i64 c]] w fun e w' => e = .returned (.tuple #[.string ⟨#[]⟩, .int .i64 11]) ∧ Below w.heap.size w w' := by
  subst hk
  subst hx
  have he : (str ([] : By)).toList.isEmpty = true := by decide +kernel
  go_enter Tryd.func12, Tryd.ntmps12
  go_wp2_with (fail)
  go_ret2
  exact ⟨by first | rfl | (simp only [str_app]; rfl), by repeat' (first | with_reducible exact Below.refl _ _ | with_reducible assumption | with_reducible refine Q.alloc ?_ _ | with_reducible refine Q.drew ?_ | with_reducible refine Q.drewN ?_ _ | with_reducible refine Q.call ?_ (by assumption))⟩
set_option maxHeartbeats 1600000 in
theorem refText_three (w : World) (k n ln c : Int) (x : By) (hk : k = 3) : Calls Tryd.prog 13 #[.agg #[.int .i64 k, .string (str x), .int .i64 n, .int .i64 ln, .int .i64 c]] w fun e w' => e = .returned (.tuple #[.string ⟨#[46, 46]⟩, .int .i64 0]) ∧ Below w.heap.size w w' := by
  subst hk
  go_enter Tryd.func13, Tryd.ntmps13
  go_wp2_with (fail)
  go_ret2
  exact ⟨by first | rfl | (simp only [str_app]; rfl), by repeat' (first | with_reducible exact Below.refl _ _ | with_reducible assumption | with_reducible refine Q.alloc ?_ _ | with_reducible refine Q.drew ?_ | with_reducible refine Q.drewN ?_ _ | with_reducible refine Q.call ?_ (by assumption))⟩
set_option maxHeartbeats 1600000 in
theorem refText_four (w : World) (k n ln c : Int) (x : By) (hk : k = 4) : Calls Tryd.prog 13 #[.agg #[.int .i64 k, .string (str x), .int .i64 n, .int .i64 ln, .int .i64 c]] w fun e w' => e = .returned (.tuple #[.string ⟨#[10]⟩, .int .i64 0]) ∧ Below w.heap.size w w' := by
  subst hk
  go_enter Tryd.func13, Tryd.ntmps13
  go_wp2_with (fail)
  go_ret2
  exact ⟨by first | rfl | (simp only [str_app]; rfl), by repeat' (first | with_reducible exact Below.refl _ _ | with_reducible assumption | with_reducible refine Q.alloc ?_ _ | with_reducible refine Q.drew ?_ | with_reducible refine Q.drewN ?_ _ | with_reducible refine Q.call ?_ (by assumption))⟩
set_option maxHeartbeats 1600000 in
theorem refText_other (w : World) (k n ln c : Int) (x : By) (h1 : k ≠ 1) (h2 : k ≠ 2) (h3 : k ≠ 3) (h4 : k ≠ 4) : Calls Tryd.prog 13 #[.agg #[.int .i64 k, .string (str x), .int .i64 n, .int .i64 ln, .int .i64 c]] w fun e w' => e = .returned (.tuple #[.string ⟨#[]⟩, .int .i64 15]) ∧ Below w.heap.size w w' := by
  have b1 : (k == 1) = false := by simp [h1]
  have b2 : (k == 2) = false := by simp [h2]
  have b3 : (k == 3) = false := by simp [h3]
  have b4 : (k == 4) = false := by simp [h4]
  go_enter Tryd.func13, Tryd.ntmps13
  go_wp2_with (fail)
  go_ret2
  exact ⟨by first | rfl | (simp only [str_app]; rfl), by repeat' (first | with_reducible exact Below.refl _ _ | with_reducible assumption | with_reducible refine Q.alloc ?_ _ | with_reducible refine Q.drew ?_ | with_reducible refine Q.drewN ?_ _ | with_reducible refine Q.call ?_ (by assumption))⟩
set_option maxHeartbeats 1600000 in
theorem refText_neg (w : World) (k n ln c : Int) (x : By) (hk : k = 2) (hn : n < 0) : Calls Tryd.prog 13 #[.agg #[.int .i64 k, .string (str x), .int .i64 n, .int .i64 ln, .int .i64 c]] w fun e w' => e = .returned (.tuple #[.string ⟨#[]⟩, .int .i64 10]) ∧ Below w.heap.size w w' := by
  subst hk
  go_enter Tryd.func13, Tryd.ntmps13
  go_wp2_with (fail)
  go_ret2
  exact ⟨by first | rfl | (simp only [str_app]; rfl), by repeat' (first | with_reducible exact Below.refl _ _ | with_reducible assumption | with_reducible refine Q.alloc ?_ _ | with_reducible refine Q.drew ?_ | with_reducible refine Q.drewN ?_ _ | with_reducible refine Q.call ?_ (by assumption))⟩
set_option maxHeartbeats 1600000 in
theorem refText_big (w : World) (k n ln c : Int) (x : By) (hk : k = 2) (hn : ¬ n < 0) (hn2 : 65535 < n) : Calls Tryd.prog 13 #[.agg #[.int .i64 k, .string (str x), .int .i64 n, .int .i64 ln, .int .i64 c]] w fun e w' => e = .returned (.tuple #[.string ⟨#[]⟩, .int .i64 10]) ∧ Below w.heap.size w w' := by
  subst hk
  go_enter Tryd.func13, Tryd.ntmps13
  go_wp2_with (fail)
  go_ret2
  exact ⟨by first | rfl | (simp only [str_app]; rfl), by repeat' (first | with_reducible exact Below.refl _ _ | with_reducible assumption | with_reducible refine Q.alloc ?_ _ | with_reducible refine Q.drew ?_ | with_reducible refine Q.drewN ?_ _ | with_reducible refine Q.call ?_ (by assumption))⟩
set_option maxHeartbeats 1600000 in
theorem refText_lo (w : World) (k n ln c : Int) (x : By) (hk : k = 2) (hn : ¬ n < 0) (hn2 : ¬ 65535 < n) (hn3 : n < 256) : Calls Tryd.prog 13 #[.agg #[.int .i64 k, .string (str x), .int .i64 n, .int .i64 ln, .int .i64 c]] w fun e w' => e = .returned (.tuple #[.string (⟨#[36]⟩ ++ str (hexA 2 n.toNat [])), .int .i64 0]) ∧ Below w.heap.size w w' := by
  subst hk
  have hn5 : ¬ 255 < n := by omega
  have hsz := hexA_size 2 n.toNat (by decide)
  go_enter Tryd.func13, Tryd.ntmps13
  go_wp2_with (first
      | (go_at_call 23; (with_reducible refine (refhex_at _ n 2 2 hn hn2 (by decide) rfl).mono ?_); rintro e w1 ⟨rfl, hb1⟩))
  go_ret2
  exact ⟨by first | rfl | (simp only [str_app]; rfl), by repeat' (first | with_reducible exact Below.refl _ _ | with_reducible assumption | with_reducible refine Q.alloc ?_ _ | with_reducible refine Q.drew ?_ | with_reducible refine Q.drewN ?_ _ | with_reducible refine Q.call ?_ (by assumption))⟩
set_option maxHeartbeats 1600000 in
theorem refText_hi (w : World) (k n ln c : Int) (x : By) (hk : k = 2) (hn : ¬ n < 0) (hn2 : ¬ 65535 < n) (hn3 : ¬ n < 256) : Calls Tryd.prog 13 #[.agg #[.int .i64 k, .string (str x), .int .i64 n, .int .i64 ln, .int .i64 c]] w fun e w' => e = .returned (.tuple #[.string (⟨#[36]⟩ ++ str (hexA 4 n.toNat [])), .int .i64 0]) ∧ Below w.heap.size w w' := by
  subst hk
  have hn5 : 255 < n := by omega
  have hsz := hexA_size 4 n.toNat (by decide)
  go_enter Tryd.func13, Tryd.ntmps13
  go_wp2_with (first
      | (go_at_call 23; (with_reducible refine (refhex_at _ n 4 4 hn hn2 (by decide) rfl).mono ?_); rintro e w1 ⟨rfl, hb1⟩))
  go_ret2
  exact ⟨by first | rfl | (simp only [str_app]; rfl), by repeat' (first | with_reducible exact Below.refl _ _ | with_reducible assumption | with_reducible refine Q.alloc ?_ _ | with_reducible refine Q.drew ?_ | with_reducible refine Q.drewN ?_ _ | with_reducible refine Q.call ?_ (by assumption))⟩
set_option maxHeartbeats 1600000 in
theorem lexText_wbad (w : World) (k n ln c : Int) (x : By) (hk : k = 1) (hx : x ≠ []) (ha : (x.any fun b => !isLet b) = true) : Calls Tryd.prog 12 #[.agg #[.int .i64 k, .string (str x), .int .i64 n, .int .i64 ln, .int .i64 c]] w fun e w' => e = .returned (.tuple #[.string ⟨#[]⟩, .int .i64 11]) ∧ Below w.heap.size w w' := by
  subst hk
  obtain ⟨s, hs⟩ : ∃ s, s = str x := ⟨_, rfl⟩
  have he : s.toList.isEmpty = false := by rw [hs]; exact str_ne hx
  have CX := fun V => contains_eq V s
  rw [show s.data.toList = x by rw [hs]; rfl, ha] at CX
  rw [← hs]
  clear hs
  go_enter Tryd.func12, Tryd.ntmps12
  go_wp2_with (first
      | (go_at_call 19; (with_reducible refine (CX _).mono ?_); rintro e w1 ⟨rfl, hb1⟩; obtain ⟨hc1, hf1, hz1⟩ := bcell hb1))
  go_ret2
  exact ⟨by first | rfl | (simp only [str_app]; rfl), by repeat' (first | with_reducible exact Below.refl _ _ | with_reducible assumption | with_reducible refine Q.alloc ?_ _ | with_reducible refine Q.drew ?_ | with_reducible refine Q.drewN ?_ _ | with_reducible refine Q.call ?_ (by assumption))⟩
set_option maxHeartbeats 1600000 in
theorem lexText_wok (w : World) (k n ln c : Int) (x : By) (hk : k = 1) (hx : x ≠ []) (ha : (x.any fun b => !isLet b) = false) : Calls Tryd.prog 12 #[.agg #[.int .i64 k, .string (str x), .int .i64 n, .int .i64 ln, .int .i64 c]] w fun e w' => e = .returned (.tuple #[.string (str x), .int .i64 0]) ∧ Below w.heap.size w w' := by
  subst hk
  obtain ⟨s, hs⟩ : ∃ s, s = str x := ⟨_, rfl⟩
  have he : s.toList.isEmpty = false := by rw [hs]; exact str_ne hx
  have CX := fun V => contains_eq V s
  rw [show s.data.toList = x by rw [hs]; rfl, ha] at CX
  rw [← hs]
  clear hs
  go_enter Tryd.func12, Tryd.ntmps12
  go_wp2_with (first
      | (go_at_call 19; (with_reducible refine (CX _).mono ?_); rintro e w1 ⟨rfl, hb1⟩; obtain ⟨hc1, hf1, hz1⟩ := bcell hb1))
  go_ret2
  exact ⟨by first | rfl | (simp only [str_app]; rfl), by repeat' (first | with_reducible exact Below.refl _ _ | with_reducible assumption | with_reducible refine Q.alloc ?_ _ | with_reducible refine Q.drew ?_ | with_reducible refine Q.drewN ?_ _ | with_reducible refine Q.call ?_ (by assumption))⟩
theorem word_bad {c : Bool} {s : ByteArray} (h : c = true) : Ending.returned (.tuple #[.string ⟨#[]⟩, .int .i64 11]) = .returned (if c = true then .tuple #[.string ⟨#[]⟩, .int .i64 11] else .tuple #[.string s, .int .i64 0]) := by rw [if_pos h]
theorem word_ok {c : Bool} {s : ByteArray} (h : c = false) : Ending.returned (.tuple #[.string s, .int .i64 0]) = .returned (if c = true then .tuple #[.string ⟨#[]⟩, .int .i64 11] else .tuple #[.string s, .int .i64 0]) := by rw [if_neg (by simp [h])]
set_option maxHeartbeats 1600000 in
theorem refText_word (w : World) (n ln c : Int) (s : ByteArray) (hs : s.size ≤ 1000000) (R : Value) (hR : R = (if (decide (s.size = 0) || (s.data.toList.any fun b => !isLet b)) = true then .tuple #[.string ⟨#[]⟩, .int .i64 11] else .tuple #[.string s, .int .i64 0])) : Calls Tryd.prog 13 #[.agg #[.int .i64 1, .string s, .int .i64 n, .int .i64 ln, .int .i64 c]] w fun e w' => e = .returned R ∧ Below w.heap.size w w' := by
  have HR := Lib.hid hR
  clear hR
  go_enter Tryd.func13, Tryd.ntmps13
  go_wp2_with fail
  go_loop [4] (fun i => ∃ j : Nat, i = .int .i64 (j : Int) ∧ j ≤ s.size ∧ Hid (((from_ s j).any fun b => !isLet b) = s.data.toList.any fun b => !isLet b)) (fun i => s.size - (intOf i).toNat)
  case atStart => exact ⟨0, rfl, Nat.zero_le _, Lib.hid rfl⟩
  case round =>
    obtain ⟨j, rfl, hj, HA⟩ := hrel
    by_cases hlt : j < s.size
    · have hlti : (j : Int) < (s.size : Int) := by omega
      have HF := Lib.hid (from_lt hlt)
      cases hl : isLet s[j] with
      | true =>
        have HA2 := Lib.hid (show ((from_ s (j + 1)).any fun b => !isLet b) = s.data.toList.any fun b => !isLet b from by rw [← HA.out, HF.out, List.any_cons, hl]; rfl)
        go_wp2_with (go_at_call 22; (with_reducible refine (refletter_eq _ _).mono ?_); rintro e w1 ⟨rfl, rfl⟩)
        go_round
        case rel => exact ⟨j + 1, by go_num, by omega, HA2⟩
        case measure => simp [intOf]; omega
      | false =>
        have HA2 := Lib.hid (show (s.data.toList.any fun b => !isLet b) = true from by rw [← HA.out, HF.out, List.any_cons, hl]; rfl)
        go_wp2_with (go_at_call 22; (with_reducible refine (refletter_eq _ _).mono ?_); rintro e w1 ⟨rfl, rfl⟩)
        go_ret2
        exact ⟨by rw [HR.out]; exact word_bad (by rw [HA2.out, Bool.or_true]), Q.alloc (Below.refl _ _) _⟩
    · have hlti : ¬ (j : Int) < (s.size : Int) := by omega
      have HA2 := Lib.hid (show (s.data.toList.any fun b => !isLet b) = false from by rw [← HA.out, from_ge (by omega)]; rfl)
      by_cases h0 : s.size = 0
      · have h0i : ((s.size : Int) == 0) = true := by simp [h0]
        have HD := Lib.hid (decide_eq_true h0)
        go_wp2_with fail
        go_ret2
        exact ⟨by rw [HR.out]; exact word_bad (by rw [HD.out, Bool.true_or]), Q.alloc (Below.refl _ _) _⟩
      · have h0i : ((s.size : Int) == 0) = false := by rw [beq_eq_false_iff_ne]; omega
        have HD := Lib.hid (decide_eq_false h0)
        go_wp2_with fail
        go_ret2
        exact ⟨by rw [HR.out]; exact word_ok (by rw [HD.out, HA2.out]; rfl), Q.alloc (Below.refl _ _) _⟩
/-- What both Texts answer. -/
def TextRes (t : Tok) (e : Ending) : Prop := e = .returned (.tuple #[.string (str (txt t).1), .int .i64 (txt t).2])
theorem tx_of {t : Tok} {a : By} {b : Int} (h : txt t = (a, b)) (v : ByteArray) (hv : v = str a) : Ending.returned (.tuple #[.string v, .int .i64 b]) = .returned (.tuple #[.string (str (txt t).1), .int .i64 (txt t).2]) := by rw [h, hv]
theorem lexText_eq (w : World) (k n ln c : Int) (x : By) (hx100 : x.length ≤ 100) : Calls Tryd.prog 12 #[.agg #[.int .i64 k, .string (str x), .int .i64 n, .int .i64 ln, .int .i64 c]] w fun e w' => e = .returned (.tuple #[.string (str (txt ⟨k, x, n, ln, c⟩).1), .int .i64 (txt ⟨k, x, n, ln, c⟩).2]) ∧ Below w.heap.size w w' := by
  by_cases hk : k = 1
  · skip
    by_cases hx : x = []
    · exact (lexText_empty w k n ln c x hk hx).mono fun e w' h => ⟨h.1.trans (tx_of (by subst hk; subst hx; rfl) _ rfl), h.2⟩
    · cases ha : x.any fun b => !isLet b with
      | true => exact (lexText_wbad w k n ln c x hk hx ha).mono fun e w' h => ⟨h.1.trans (tx_of (by subst hk; unfold txt; rw [if_pos rfl, if_pos (.inr ha)]) _ rfl), h.2⟩
      | false => exact (lexText_wok w k n ln c x hk hx ha).mono fun e w' h => ⟨h.1.trans (tx_of (by subst hk; unfold txt; rw [if_pos rfl, if_neg (by simp [hx, ha])]) _ rfl), h.2⟩
  by_cases hk2 : k = 2
  · by_cases h1 : n < 0
    · exact (lexText_neg w k n ln c x hk2 h1).mono fun e w' h => ⟨h.1.trans (tx_of (by subst hk2; unfold txt; rw [if_neg (by simp), if_pos rfl, if_pos (.inl h1)]) _ rfl), h.2⟩
    by_cases h2 : 65535 < n
    · exact (lexText_big w k n ln c x hk2 h1 h2).mono fun e w' h => ⟨h.1.trans (tx_of (by subst hk2; unfold txt; rw [if_neg (by simp), if_pos rfl, if_pos (.inr h2)]) _ rfl), h.2⟩
    by_cases h3 : n < 256
    · exact (lexText_lo w k n ln c x hk2 h1 h2 h3).mono fun e w' h => ⟨h.1.trans (tx_of (by subst hk2; unfold txt; rw [if_neg (by simp), if_pos rfl, if_neg (by simp only [not_or]; omega), if_pos h3]; rfl) _ (str_app [36] _)), h.2⟩
    · exact (lexText_hi w k n ln c x hk2 h1 h2 h3).mono fun e w' h => ⟨h.1.trans (tx_of (by subst hk2; unfold txt; rw [if_neg (by simp), if_pos rfl, if_neg (by simp only [not_or]; omega), if_neg h3]; rfl) _ (str_app [36] _)), h.2⟩
  by_cases hk3 : k = 3
  · exact (lexText_three w k n ln c x hk3).mono fun e w' h => ⟨h.1.trans (tx_of (by subst hk3; rfl) _ rfl), h.2⟩
  by_cases hk4 : k = 4
  · exact (lexText_four w k n ln c x hk4).mono fun e w' h => ⟨h.1.trans (tx_of (by subst hk4; rfl) _ rfl), h.2⟩
  exact (lexText_other w k n ln c x hk hk2 hk3 hk4).mono fun e w' h => ⟨h.1.trans (tx_of (by unfold txt; rw [if_neg hk, if_neg hk2, if_neg hk3, if_neg hk4]) _ rfl), h.2⟩
theorem refText_eq (w : World) (k n ln c : Int) (x : By) (hx100 : x.length ≤ 100) : Calls Tryd.prog 13 #[.agg #[.int .i64 k, .string (str x), .int .i64 n, .int .i64 ln, .int .i64 c]] w fun e w' => e = .returned (.tuple #[.string (str (txt ⟨k, x, n, ln, c⟩).1), .int .i64 (txt ⟨k, x, n, ln, c⟩).2]) ∧ Below w.heap.size w w' := by
  by_cases hk : k = 1
  · skip
    subst hk
    refine (refText_word w n ln c (str x) (by rw [str_size]; omega) _ rfl).mono fun e w' h => ⟨h.1.trans ?_, h.2⟩
    rw [str_data, str_size]
    by_cases hx : x = []
    · rw [if_pos (by simp [hx])]
      exact tx_of (by subst hx; rfl) _ rfl
    · have hx2 : decide (x.length = 0) = false := decide_eq_false fun h => hx (List.eq_nil_of_length_eq_zero h)
      cases ha : x.any fun b => !isLet b with
      | true =>
        rw [hx2, if_pos (by rfl)]
        exact tx_of (by unfold txt; rw [if_pos rfl, if_pos (.inr ha)]) _ rfl
      | false =>
        rw [hx2, if_neg (by simp)]
        exact tx_of (by unfold txt; rw [if_pos rfl, if_neg (by simp [hx, ha])]) _ rfl
  by_cases hk2 : k = 2
  · by_cases h1 : n < 0
    · exact (refText_neg w k n ln c x hk2 h1).mono fun e w' h => ⟨h.1.trans (tx_of (by subst hk2; unfold txt; rw [if_neg (by simp), if_pos rfl, if_pos (.inl h1)]) _ rfl), h.2⟩
    by_cases h2 : 65535 < n
    · exact (refText_big w k n ln c x hk2 h1 h2).mono fun e w' h => ⟨h.1.trans (tx_of (by subst hk2; unfold txt; rw [if_neg (by simp), if_pos rfl, if_pos (.inr h2)]) _ rfl), h.2⟩
    by_cases h3 : n < 256
    · exact (refText_lo w k n ln c x hk2 h1 h2 h3).mono fun e w' h => ⟨h.1.trans (tx_of (by subst hk2; unfold txt; rw [if_neg (by simp), if_pos rfl, if_neg (by simp only [not_or]; omega), if_pos h3]; rfl) _ (str_app [36] _)), h.2⟩
    · exact (refText_hi w k n ln c x hk2 h1 h2 h3).mono fun e w' h => ⟨h.1.trans (tx_of (by subst hk2; unfold txt; rw [if_neg (by simp), if_pos rfl, if_neg (by simp only [not_or]; omega), if_neg h3]; rfl) _ (str_app [36] _)), h.2⟩
  by_cases hk3 : k = 3
  · exact (refText_three w k n ln c x hk3).mono fun e w' h => ⟨h.1.trans (tx_of (by subst hk3; rfl) _ rfl), h.2⟩
  by_cases hk4 : k = 4
  · exact (refText_four w k n ln c x hk4).mono fun e w' h => ⟨h.1.trans (tx_of (by subst hk4; rfl) _ rfl), h.2⟩
  exact (refText_other w k n ln c x hk hk2 hk3 hk4).mono fun e w' h => ⟨h.1.trans (tx_of (by unfold txt; rw [if_neg hk, if_neg hk2, if_neg hk3, if_neg hk4]) _ rfl), h.2⟩
theorem txt_len {t : Tok} (h : t.text.length ≤ 100) : (txt t).1.length ≤ 100 := by
  unfold txt
  repeat' split
  all_goals simp [hexA_len] <;> omega
end Go.Proofs.YtlmcdbegnjikdaaDoor

/- The wheel: the walk of WheelWhole. (printed by gen/wh9.py) -/
import Derived.Test.YtjjebkgljgfecaaWh8
namespace Go.Proofs.Ytjjebkgljgfecaa
set_option linter.unusedVariables false
set_option linter.unusedSimpArgs false
open Go.RowKit
attribute [local go_sem] run_store_complex run_store_float

set_option maxRecDepth 100000 in
set_option maxHeartbeats 3200000 in
theorem wholeFar (x y a0 a1 : Int) (w : World) (hx : -9223372036854775808 ≤ x ∧ x ≤ 9223372036854775807) (hy : -9223372036854775808 ≤ y ∧ y ≤ 9223372036854775807)
    (h : ¬ (-1099511627776 ≤ x ∧ x ≤ 1099511627776 ∧ -1099511627776 ≤ y ∧ y ≤ 1099511627776)) :
    Calls Try.prog 3 #[.int .i64 x, .int .i64 y, .agg #[.int .i64 a0, .int .i64 a1]] w fun e w' => e = .returned (.bool true) ∧ Below w.heap.size w w' := by
  obtain ⟨c, p, hc, hp⟩ := whole_int x hx.1 hx.2
  obtain ⟨d, q, hd, hq⟩ := whole_int y hy.1 hy.2
  have hpq : (p && q) = false := by
    cases p
    · rfl
    · cases q
      · rfl
      · have := hp rfl
        have := hq rfl
        exact absurd ⟨‹-1099511627776 ≤ x ∧ _›.1, ‹-1099511627776 ≤ x ∧ _›.2, ‹-1099511627776 ≤ y ∧ _›⟩ h
  have C := fun W => whole2_no _ _ c d p q hpq hc hd W
  have P := fun W => plain_calls 0 0 W (by decide) (by decide)
  rw [fo_0] at P
  clear hc hd hp hq hpq
  by_cases hn : -1099511627779 < x ∧ x < 1099511627779 ∧ -1099511627779 < y ∧ y < 1099511627779
  · obtain ⟨n1, n2, n3, n4⟩ := hn
    have o1 : decide (-1099511627779 < x) = true := decide_eq_true n1
    have o2 : decide (x < 1099511627779) = true := decide_eq_true n2
    have o3 : decide (-1099511627779 < y) = true := decide_eq_true n3
    have o4 : decide (y < 1099511627779) = true := decide_eq_true n4
    go_enter Try.func3, Try.ntmps3
    go_wp2_with (first
    | (go_at_call 8; (with_reducible refine (C _).mono ?_); rintro e w1 ⟨rfl, rfl⟩)
    | (go_at_call 10; first | ((with_reducible refine (B1 _).mono ?_); rintro e w1 ⟨rfl, rfl⟩) | ((with_reducible refine (B2 _).mono ?_); rintro e w1 ⟨rfl, rfl⟩))
    | (go_at_call 7; (with_reducible refine (P _).mono ?_); rintro e w1 ⟨rfl, rfl⟩)
    | (go_at_call 9; (with_reducible refine (awake12_calls _).mono ?_); rintro e w3 ⟨rfl, b3⟩))
    all_goals
      go_returns
      exact ⟨rfl, Q.call (Q.alloc (Below.refl _ _) _) b3⟩
  · go_enter Try.func3, Try.ntmps3
    go_wp2_with (first
    | (go_at_call 8; (with_reducible refine (C _).mono ?_); rintro e w1 ⟨rfl, rfl⟩)
    | (go_at_call 10; first | ((with_reducible refine (B1 _).mono ?_); rintro e w1 ⟨rfl, rfl⟩) | ((with_reducible refine (B2 _).mono ?_); rintro e w1 ⟨rfl, rfl⟩))
    | (go_at_call 7; (with_reducible refine (P _).mono ?_); rintro e w1 ⟨rfl, rfl⟩)
    | (go_at_call 9; (with_reducible refine (awake12_calls _).mono ?_); rintro e w3 ⟨rfl, b3⟩))
    all_goals
      go_returns
      exact ⟨rfl, Q.call (Q.alloc (Below.refl _ _) _) b3⟩
theorem eighths (a : Int) (b : -8 < a) (c : a < 8) : ∃ p : Nat, (a + 8) % 8 = (p : Int) ∧ p < 8 := ⟨((a + 8) % 8).toNat, by omega, by omega⟩
set_option maxRecDepth 100000 in
set_option maxHeartbeats 3200000 in
theorem wholeNear (x y a0 a1 : Int) (w : World) (hx1 : -1099511627776 ≤ x) (hx2 : x ≤ 1099511627776) (hy1 : -1099511627776 ≤ y) (hy2 : y ≤ 1099511627776) :
    Calls Try.prog 3 #[.int .i64 x, .int .i64 y, .agg #[.int .i64 a0, .int .i64 a1]] w fun e w' => e = .returned (.bool true) ∧ Below w.heap.size w w' := by
  have u1 := Int.tmod_lt_of_pos a0 (b := 8) (by omega)
  have u2 : -8 < a0.tmod 8 := Int.lt_tmod_of_pos _ (by omega)
  have v1 := Int.tmod_lt_of_pos a1 (b := 8) (by omega)
  have v2 : -8 < a1.tmod 8 := Int.lt_tmod_of_pos _ (by omega)
  obtain ⟨t0, ht0⟩ : ∃ t, a0.tmod 8 = t := ⟨_, rfl⟩
  obtain ⟨t1, ht1⟩ : ∃ t, a1.tmod 8 = t := ⟨_, rfl⟩
  rw [ht0] at u1 u2
  rw [ht1] at v1 v2
  obtain ⟨p, hp, hp8⟩ := eighths t0 u2 u1
  obtain ⟨q, hq, hq8⟩ := eighths t1 v2 v1
  obtain ⟨c, d, hc, hd, hG⟩ := parted x p hp8 hx1 hx2
  obtain ⟨c', d', hc', hd', hG'⟩ := parted y q hq8 hy1 hy2
  have M1 := fun W => run_float_arith (P := Try.prog) (w := W) .quo 26 .f64 _ _ _ hc
  have M2 := fun W => run_float_arith (P := Try.prog) (w := W) .add 26 .f64 _ _ _ hd
  have M3 := fun W => run_float_arith (P := Try.prog) (w := W) .quo 26 .f64 _ _ _ hc'
  have M4 := fun W => run_float_arith (P := Try.prog) (w := W) .add 26 .f64 _ _ _ hd'
  have B1 := fun W => back_calls x W hx1 hx2
  have B2 := fun W => back_calls y W hy1 hy2
  have HC := Lib.hid hc
  have HC' := Lib.hid hc'
  clear hc hd hc' hd'
  by_cases h0 : p = 0 ∧ q = 0
  · obtain ⟨rfl, rfl⟩ := h0
    obtain rfl : c = c' := Option.some.inj (HC.out.symm.trans HC'.out)
    rw [show ((0 : Nat) : Int) = 0 from rfl] at hp hq M1 M3
    have C := fun W => whole2_yes d d' _ _ (whole_yes d x (by simpa using hG) hx1 hx2) (whole_yes d' y (by simpa using hG') hy1 hy2) W
    have P := fun W => plain_calls (bk x) (bk y) W (by have := bk_bnd x; omega) (by have := bk_bnd y; omega)
    clear hG hG'
    go_enter Try.func3, Try.ntmps3
    go_wp2_with (first
    | (go_at_call 8; (with_reducible refine (C _).mono ?_); rintro e w1 ⟨rfl, rfl⟩)
    | (go_at_call 10; first | ((with_reducible refine (B1 _).mono ?_); rintro e w1 ⟨rfl, rfl⟩) | ((with_reducible refine (B2 _).mono ?_); rintro e w1 ⟨rfl, rfl⟩))
    | (go_at_call 7; (with_reducible refine (P _).mono ?_); rintro e w1 ⟨rfl, rfl⟩)
    | (go_at_call 9; (with_reducible refine (awake12_calls _).mono ?_); rintro e w3 ⟨rfl, b3⟩))
    all_goals
      go_returns
      exact ⟨rfl, Q.call (Q.alloc (Below.refl _ _) _) b3⟩
  · obtain ⟨e, he⟩ := whole_part d x p hp8 hx1 hx2 hG
    obtain ⟨e', he'⟩ := whole_part d' y q hq8 hy1 hy2 hG'
    have C := fun W => whole2_no d d' e e' _ _ (by
      rw [← Bool.not_eq_true, Bool.and_eq_true, decide_eq_true_eq, decide_eq_true_eq]
      exact h0) he he' W
    have P := fun W => plain_calls 0 0 W (by decide) (by decide)
    rw [fo_0] at P
    clear hG hG' he he'
    by_cases hp0 : p = 0
    · have hq0 : q ≠ 0 := fun h => h0 ⟨hp0, h⟩
      subst hp0
      rw [show ((0 : Nat) : Int) = 0 from rfl] at hp M1
      have z1 : ((q : Int) == 0) = false := beq_eq_false_iff_ne.2 (by omega)
      have z2 : ((q : Int) != 0) = true := by simp [bne, z1]
      clear h0
      go_enter Try.func3, Try.ntmps3
      go_wp2_with (first
    | (go_at_call 8; (with_reducible refine (C _).mono ?_); rintro e w1 ⟨rfl, rfl⟩)
    | (go_at_call 10; first | ((with_reducible refine (B1 _).mono ?_); rintro e w1 ⟨rfl, rfl⟩) | ((with_reducible refine (B2 _).mono ?_); rintro e w1 ⟨rfl, rfl⟩))
    | (go_at_call 7; (with_reducible refine (P _).mono ?_); rintro e w1 ⟨rfl, rfl⟩)
    | (go_at_call 9; (with_reducible refine (awake12_calls _).mono ?_); rintro e w3 ⟨rfl, b3⟩))
      all_goals
        go_returns
        exact ⟨rfl, Q.call (Q.alloc (Below.refl _ _) _) b3⟩
    · have z1 : ((p : Int) == 0) = false := beq_eq_false_iff_ne.2 (by omega)
      have z2 : ((p : Int) != 0) = true := by simp [bne, z1]
      clear h0
      go_enter Try.func3, Try.ntmps3
      go_wp2_with (first
    | (go_at_call 8; (with_reducible refine (C _).mono ?_); rintro e w1 ⟨rfl, rfl⟩)
    | (go_at_call 10; first | ((with_reducible refine (B1 _).mono ?_); rintro e w1 ⟨rfl, rfl⟩) | ((with_reducible refine (B2 _).mono ?_); rintro e w1 ⟨rfl, rfl⟩))
    | (go_at_call 7; (with_reducible refine (P _).mono ?_); rintro e w1 ⟨rfl, rfl⟩)
    | (go_at_call 9; (with_reducible refine (awake12_calls _).mono ?_); rintro e w3 ⟨rfl, b3⟩))
      all_goals
        go_returns
        exact ⟨rfl, Q.call (Q.alloc (Below.refl _ _) _) b3⟩
theorem wheelWhole_walk (x y a0 a1 : Int) (w : World) (hx : -9223372036854775808 ≤ x ∧ x ≤ 9223372036854775807) (hy : -9223372036854775808 ≤ y ∧ y ≤ 9223372036854775807) :
    Calls Try.prog 3 #[.int .i64 x, .int .i64 y, .agg #[.int .i64 a0, .int .i64 a1]] w fun e w' => e = .returned (.bool true) ∧ Below w.heap.size w w' := by
  by_cases h : -1099511627776 ≤ x ∧ x ≤ 1099511627776 ∧ -1099511627776 ≤ y ∧ y ≤ 1099511627776
  · exact wholeNear x y a0 a1 w h.1 h.2.1 h.2.2.1 h.2.2.2
  · exact wholeFar x y a0 a1 w hx hy h
end Go.Proofs.Ytjjebkgljgfecaa

/- Verdicts: what holds of them. (printed by gen/cp1.py) -/
import Derived.Test.YtggnkkmlabhofaaDoorCp0
namespace Go.Proofs.YtggnkkmlabhofaaDoor
set_option linter.unusedVariables false
set_option linter.unusedSimpArgs false
open Go.RowKit
attribute [local go_sem ↓] Go.wp_at_zero Go.wp_at_succ

theorem arr2_eq (W : World) (a b c d : Int) : (Op.equalIn 10000 33 (.agg #[.int .i64 a, .int .i64 b]) (.agg #[.int .i64 c, .int .i64 d])).run Tryd.prog W = .ok (a == c && b == d) W := by
  rw [show (10000 : Nat) = 9998 + 1 + 1 from rfl, Op.equalIn]
  simp only [Sem.run_bind, run_underlying Tryd.underlying33, Result.andThen_ok, Tryd.sizeOf3, Std.Legacy.Range.forIn_eq_forIn_range', Std.Legacy.Range.size, Nat.sub_zero, Nat.add_sub_cancel, Nat.div_one]
  rw [show List.range' 0 2 1 = [0, 1] from rfl]
  have p0 : ∀ x y : Int, (part 3 #[.int .i64 x, .int .i64 y] (0 * 1)).run Tryd.prog W = .ok (.int .i64 x) W := fun x y => by simp [part, Tryd.isAgg3]
  have p1 : ∀ x y : Int, (part 3 #[.int .i64 x, .int .i64 y] (1 * 1)).run Tryd.prog W = .ok (.int .i64 y) W := fun x y => by simp [part, Tryd.isAgg3]
  have pe : ∀ x y : Int, (Op.equalIn (9998 + 1) 3 (.int .i64 x) (.int .i64 y)).run Tryd.prog W = .ok (x == y) W := fun x y => by rw [run_equalIn_int W 9998 3 .i64 .i64 x y Tryd.underlying3]
  simp only [List.forIn_cons, List.forIn_nil, Sem.run_bind, p0, pe, Result.andThen_ok]
  cases h : (a == c)
  · simp only [Bool.not_false, if_true, Sem.run_pure, Result.andThen_ok, Bool.false_and]
  · simp only [Bool.not_true, Bool.false_eq_true, if_false, Sem.run_pure, Result.andThen_ok, Sem.run_bind, p1, pe, Bool.true_and]
    cases h2 : (b == d)
    · simp only [Bool.not_false, if_true, Sem.run_pure, Result.andThen_ok]
    · simp only [Bool.not_true, Bool.false_eq_true, if_false, Sem.run_pure, Result.andThen_ok]
attribute [local go_sem high] arr2_eq
set_option maxRecDepth 100000 in
set_option maxHeartbeats 1600000 in
theorem quiet_eq (w : World) (lw : Bool) (c0 c1 y0 y1 ap ou lo wh : Int) : Calls Tryd.prog 15 #[.agg #[.bool lw, .int .i64 c0, .int .i64 c1, .int .i64 y0, .int .i64 y1, .int .i64 ap, .int .i64 ou, .int .i64 lo, .int .i64 wh]] w fun e w' => e = .returned (.bool (qt c0)) ∧ Below w.heap.size w w' := by
  by_cases h0 : c0 = 0
  · have b0 : (c0 == 0) = true := by simp [h0]
    go_enter Tryd.func15, Tryd.ntmps15
    go_wp2_with fail
    go_ret
    exact ⟨bool_eq (by simp [qt, h0]), (by repeat' (first | with_reducible exact Below.refl _ _ | with_reducible assumption | with_reducible refine Q.alloc ?_ _ | with_reducible refine Q.drew ?_ | with_reducible refine Q.drewN ?_ _ | with_reducible refine Q.call ?_ (by assumption)))⟩
  · have b0 : (c0 == 0) = false := by simp [h0]
    by_cases h1 : c0 = 1
    · have b1 : (c0 == 1) = true := by simp [h1]
      go_enter Tryd.func15, Tryd.ntmps15
      go_wp2_with fail
      go_ret
      exact ⟨bool_eq (by simp [qt, h1]), (by repeat' (first | with_reducible exact Below.refl _ _ | with_reducible assumption | with_reducible refine Q.alloc ?_ _ | with_reducible refine Q.drew ?_ | with_reducible refine Q.drewN ?_ _ | with_reducible refine Q.call ?_ (by assumption)))⟩
    · have b1 : (c0 == 1) = false := by simp [h1]
      go_enter Tryd.func15, Tryd.ntmps15
      go_wp2_with fail
      go_ret
      exact ⟨bool_eq (by simp [qt, h0, h1]), (by repeat' (first | with_reducible exact Below.refl _ _ | with_reducible assumption | with_reducible refine Q.alloc ?_ _ | with_reducible refine Q.drew ?_ | with_reducible refine Q.drewN ?_ _ | with_reducible refine Q.call ?_ (by assumption)))⟩
set_option maxRecDepth 100000 in
set_option maxHeartbeats 1600000 in
theorem rquiet_eq (w : World) (lw : Bool) (c0 c1 y0 y1 ap ou lo wh : Int) : Calls Tryd.prog 16 #[.agg #[.bool lw, .int .i64 c0, .int .i64 c1, .int .i64 y0, .int .i64 y1, .int .i64 ap, .int .i64 ou, .int .i64 lo, .int .i64 wh]] w fun e w' => e = .returned (.bool (qt c0)) ∧ Below w.heap.size w w' := by
  by_cases h0 : c0 = 0
  · have b0 : (c0 == 0) = true := by simp [h0]
    go_enter Tryd.func16, Tryd.ntmps16
    go_wp2_with fail
    go_ret
    exact ⟨bool_eq (by simp [qt, h0]), (by repeat' (first | with_reducible exact Below.refl _ _ | with_reducible assumption | with_reducible refine Q.alloc ?_ _ | with_reducible refine Q.drew ?_ | with_reducible refine Q.drewN ?_ _ | with_reducible refine Q.call ?_ (by assumption)))⟩
  · have b0 : (c0 == 0) = false := by simp [h0]
    by_cases h1 : c0 = 1
    · have b1 : (c0 == 1) = true := by simp [h1]
      go_enter Tryd.func16, Tryd.ntmps16
      go_wp2_with fail
      go_ret
      exact ⟨bool_eq (by simp [qt, h1]), (by repeat' (first | with_reducible exact Below.refl _ _ | with_reducible assumption | with_reducible refine Q.alloc ?_ _ | with_reducible refine Q.drew ?_ | with_reducible refine Q.drewN ?_ _ | with_reducible refine Q.call ?_ (by assumption)))⟩
    · have b1 : (c0 == 1) = false := by simp [h1]
      go_enter Tryd.func16, Tryd.ntmps16
      go_wp2_with fail
      go_ret
      exact ⟨bool_eq (by simp [qt, h0, h1]), (by repeat' (first | with_reducible exact Below.refl _ _ | with_reducible assumption | with_reducible refine Q.alloc ?_ _ | with_reducible refine Q.drew ?_ | with_reducible refine Q.drewN ?_ _ | with_reducible refine Q.call ?_ (by assumption)))⟩
set_option maxRecDepth 100000 in
set_option maxHeartbeats 1600000 in
theorem same_eq (w : World) (lw : Bool) (c0 c1 y0 y1 ap ou lo wh : Int) : Calls Tryd.prog 17 #[.agg #[.bool lw, .int .i64 c0, .int .i64 c1, .int .i64 y0, .int .i64 y1, .int .i64 ap, .int .i64 ou, .int .i64 lo, .int .i64 wh]] w fun e w' => e = .returned (.bool (sm c0 c1 y0 y1 ap ou)) ∧ Below w.heap.size w w' := by
  by_cases h0 : c0 = c1
  · subst h0
    by_cases h1 : y0 = y1
    · subst h1
      by_cases h2 : ap = -1
      · subst h2
        by_cases h3 : ou = -1
        · subst h3
          go_enter Tryd.func17, Tryd.ntmps17
          go_wp2_with fail
          go_ret
          exact ⟨bool_eq (by simp [sm]), (by repeat' (first | with_reducible exact Below.refl _ _ | with_reducible assumption | with_reducible refine Q.alloc ?_ _ | with_reducible refine Q.drew ?_ | with_reducible refine Q.drewN ?_ _ | with_reducible refine Q.call ?_ (by assumption)))⟩
        · have b3 : (ou == -1) = false := by simp [h3]
          go_enter Tryd.func17, Tryd.ntmps17
          go_wp2_with fail
          go_ret
          exact ⟨bool_eq (by simp [sm, h3]), (by repeat' (first | with_reducible exact Below.refl _ _ | with_reducible assumption | with_reducible refine Q.alloc ?_ _ | with_reducible refine Q.drew ?_ | with_reducible refine Q.drewN ?_ _ | with_reducible refine Q.call ?_ (by assumption)))⟩
      · have b2 : (ap == -1) = false := by simp [h2]
        go_enter Tryd.func17, Tryd.ntmps17
        go_wp2_with fail
        go_ret
        exact ⟨bool_eq (by simp [sm, h2]), (by repeat' (first | with_reducible exact Below.refl _ _ | with_reducible assumption | with_reducible refine Q.alloc ?_ _ | with_reducible refine Q.drew ?_ | with_reducible refine Q.drewN ?_ _ | with_reducible refine Q.call ?_ (by assumption)))⟩
    · have b1 : (y0 == y1) = false := by simp [h1]
      go_enter Tryd.func17, Tryd.ntmps17
      go_wp2_with fail
      go_ret
      exact ⟨bool_eq (by simp [sm, h1]), (by repeat' (first | with_reducible exact Below.refl _ _ | with_reducible assumption | with_reducible refine Q.alloc ?_ _ | with_reducible refine Q.drew ?_ | with_reducible refine Q.drewN ?_ _ | with_reducible refine Q.call ?_ (by assumption)))⟩
  · have b0 : (c0 == c1) = false := by simp [h0]
    go_enter Tryd.func17, Tryd.ntmps17
    go_wp2_with fail
    go_ret
    exact ⟨bool_eq (by simp [sm, h0]), (by repeat' (first | with_reducible exact Below.refl _ _ | with_reducible assumption | with_reducible refine Q.alloc ?_ _ | with_reducible refine Q.drew ?_ | with_reducible refine Q.drewN ?_ _ | with_reducible refine Q.call ?_ (by assumption)))⟩
set_option maxRecDepth 100000 in
set_option maxHeartbeats 1600000 in
theorem rsame_eq (w : World) (lw : Bool) (c0 c1 y0 y1 ap ou lo wh : Int) : Calls Tryd.prog 18 #[.agg #[.bool lw, .int .i64 c0, .int .i64 c1, .int .i64 y0, .int .i64 y1, .int .i64 ap, .int .i64 ou, .int .i64 lo, .int .i64 wh]] w fun e w' => e = .returned (.bool (sm c0 c1 y0 y1 ap ou)) ∧ Below w.heap.size w w' := by
  by_cases h0 : c0 = c1
  · subst h0
    by_cases h1 : y0 = y1
    · subst h1
      by_cases h2 : ap = -1
      · subst h2
        by_cases h3 : ou = -1
        · subst h3
          go_enter Tryd.func18, Tryd.ntmps18
          go_wp2_with fail
          go_ret
          exact ⟨bool_eq (by simp [sm]), (by repeat' (first | with_reducible exact Below.refl _ _ | with_reducible assumption | with_reducible refine Q.alloc ?_ _ | with_reducible refine Q.drew ?_ | with_reducible refine Q.drewN ?_ _ | with_reducible refine Q.call ?_ (by assumption)))⟩
        · have b3 : (ou == -1) = false := by simp [h3]
          go_enter Tryd.func18, Tryd.ntmps18
          go_wp2_with fail
          go_ret
          exact ⟨bool_eq (by simp [sm, h3]), (by repeat' (first | with_reducible exact Below.refl _ _ | with_reducible assumption | with_reducible refine Q.alloc ?_ _ | with_reducible refine Q.drew ?_ | with_reducible refine Q.drewN ?_ _ | with_reducible refine Q.call ?_ (by assumption)))⟩
      · have b2 : (ap == -1) = false := by simp [h2]
        go_enter Tryd.func18, Tryd.ntmps18
        go_wp2_with fail
        go_ret
        exact ⟨bool_eq (by simp [sm, h2]), (by repeat' (first | with_reducible exact Below.refl _ _ | with_reducible assumption | with_reducible refine Q.alloc ?_ _ | with_reducible refine Q.drew ?_ | with_reducible refine Q.drewN ?_ _ | with_reducible refine Q.call ?_ (by assumption)))⟩
    · have b1 : (y0 == y1) = false := by simp [h1]
      go_enter Tryd.func18, Tryd.ntmps18
      go_wp2_with fail
      go_ret
      exact ⟨bool_eq (by simp [sm, h1]), (by repeat' (first | with_reducible exact Below.refl _ _ | with_reducible assumption | with_reducible refine Q.alloc ?_ _ | with_reducible refine Q.drew ?_ | with_reducible refine Q.drewN ?_ _ | with_reducible refine Q.call ?_ (by assumption)))⟩
  · have b0 : (c0 == c1) = false := by simp [h0]
    go_enter Tryd.func18, Tryd.ntmps18
    go_wp2_with fail
    go_ret
    exact ⟨bool_eq (by simp [sm, h0]), (by repeat' (first | with_reducible exact Below.refl _ _ | with_reducible assumption | with_reducible refine Q.alloc ?_ _ | with_reducible refine Q.drew ?_ | with_reducible refine Q.drewN ?_ _ | with_reducible refine Q.call ?_ (by assumption)))⟩
set_option maxRecDepth 100000 in
set_option maxHeartbeats 1600000 in
theorem holds_eq (w : World) (lw : Bool) (c0 c1 y0 y1 ap ou lo wh : Int) : Calls Tryd.prog 19 #[.agg #[.bool lw, .int .i64 c0, .int .i64 c1, .int .i64 y0, .int .i64 y1, .int .i64 ap, .int .i64 ou, .int .i64 lo, .int .i64 wh]] w fun e w' => e = .returned (.bool (hol lw c0 c1 y0 y1 ap ou lo wh)) ∧ Below w.heap.size w w' := by
  cases lw with
  | false =>
    go_enter Tryd.func19, Tryd.ntmps19
    go_wp2_with (first | (go_at_call 15; (with_reducible refine (QQ _).mono ?_); rintro e w1 ⟨rfl, hb1⟩; obtain ⟨hc1, hf1, hz1⟩ := bcell hb1) | (go_at_call 17; (with_reducible refine (same_eq _ _ _ _ _ _ _ _ _ _).mono ?_); rintro e w2 ⟨rfl, hb2⟩))
    go_ret
    exact ⟨bool_eq (by simp [hol]), (by repeat' (first | with_reducible exact Below.refl _ _ | with_reducible assumption | with_reducible refine Q.alloc ?_ _ | with_reducible refine Q.drew ?_ | with_reducible refine Q.drewN ?_ _ | with_reducible refine Q.call ?_ (by assumption)))⟩
  | true =>
    have QQ := fun V => quiet_eq V true c0 c1 y0 y1 ap ou lo wh
    cases hq : qt c0 with
    | false =>
      rw [hq] at QQ
      go_enter Tryd.func19, Tryd.ntmps19
      go_wp2_with (first | (go_at_call 15; (with_reducible refine (QQ _).mono ?_); rintro e w1 ⟨rfl, hb1⟩; obtain ⟨hc1, hf1, hz1⟩ := bcell hb1) | (go_at_call 17; (with_reducible refine (same_eq _ _ _ _ _ _ _ _ _ _).mono ?_); rintro e w2 ⟨rfl, hb2⟩))
      go_ret
      exact ⟨bool_eq (by simp [hol, hq]), (by repeat' (first | with_reducible exact Below.refl _ _ | with_reducible assumption | with_reducible refine Q.alloc ?_ _ | with_reducible refine Q.drew ?_ | with_reducible refine Q.drewN ?_ _ | with_reducible refine Q.call ?_ (by assumption)))⟩
    | true =>
      rw [hq] at QQ
      by_cases h1 : lo = -1
      · subst h1
        go_enter Tryd.func19, Tryd.ntmps19
        go_wp2_with (first | (go_at_call 15; (with_reducible refine (QQ _).mono ?_); rintro e w1 ⟨rfl, hb1⟩; obtain ⟨hc1, hf1, hz1⟩ := bcell hb1) | (go_at_call 17; (with_reducible refine (same_eq _ _ _ _ _ _ _ _ _ _).mono ?_); rintro e w2 ⟨rfl, hb2⟩))
        go_ret
        exact ⟨bool_eq (by simp [hol, hq]), (by repeat' (first | with_reducible exact Below.refl _ _ | with_reducible assumption | with_reducible refine Q.alloc ?_ _ | with_reducible refine Q.drew ?_ | with_reducible refine Q.drewN ?_ _ | with_reducible refine Q.call ?_ (by assumption)))⟩
      · have b1 : (lo == -1) = false := by simp [h1]
        by_cases h2 : ap = -1
        · subst h2
          go_enter Tryd.func19, Tryd.ntmps19
          go_wp2_with (first | (go_at_call 15; (with_reducible refine (QQ _).mono ?_); rintro e w1 ⟨rfl, hb1⟩; obtain ⟨hc1, hf1, hz1⟩ := bcell hb1) | (go_at_call 17; (with_reducible refine (same_eq _ _ _ _ _ _ _ _ _ _).mono ?_); rintro e w2 ⟨rfl, hb2⟩))
          go_ret
          exact ⟨bool_eq (by simp [hol, hq, h1]), (by repeat' (first | with_reducible exact Below.refl _ _ | with_reducible assumption | with_reducible refine Q.alloc ?_ _ | with_reducible refine Q.drew ?_ | with_reducible refine Q.drewN ?_ _ | with_reducible refine Q.call ?_ (by assumption)))⟩
        · have b2 : (ap == -1) = false := by simp [h2]
          by_cases h3 : wh ≤ ap
          · go_enter Tryd.func19, Tryd.ntmps19
            go_wp2_with (first | (go_at_call 15; (with_reducible refine (QQ _).mono ?_); rintro e w1 ⟨rfl, hb1⟩; obtain ⟨hc1, hf1, hz1⟩ := bcell hb1) | (go_at_call 17; (with_reducible refine (same_eq _ _ _ _ _ _ _ _ _ _).mono ?_); rintro e w2 ⟨rfl, hb2⟩))
            go_ret
            exact ⟨bool_eq (by simp [hol, hq, h1, h2, h3]), (by repeat' (first | with_reducible exact Below.refl _ _ | with_reducible assumption | with_reducible refine Q.alloc ?_ _ | with_reducible refine Q.drew ?_ | with_reducible refine Q.drewN ?_ _ | with_reducible refine Q.call ?_ (by assumption)))⟩
          · go_enter Tryd.func19, Tryd.ntmps19
            go_wp2_with (first | (go_at_call 15; (with_reducible refine (QQ _).mono ?_); rintro e w1 ⟨rfl, hb1⟩; obtain ⟨hc1, hf1, hz1⟩ := bcell hb1) | (go_at_call 17; (with_reducible refine (same_eq _ _ _ _ _ _ _ _ _ _).mono ?_); rintro e w2 ⟨rfl, hb2⟩))
            go_ret
            exact ⟨bool_eq (by simp [hol, hq, h1, h2, h3]), (by repeat' (first | with_reducible exact Below.refl _ _ | with_reducible assumption | with_reducible refine Q.alloc ?_ _ | with_reducible refine Q.drew ?_ | with_reducible refine Q.drewN ?_ _ | with_reducible refine Q.call ?_ (by assumption)))⟩
set_option maxRecDepth 100000 in
set_option maxHeartbeats 1600000 in
theorem rholds_eq (w : World) (lw : Bool) (c0 c1 y0 y1 ap ou lo wh : Int) : Calls Tryd.prog 20 #[.agg #[.bool lw, .int .i64 c0, .int .i64 c1, .int .i64 y0, .int .i64 y1, .int .i64 ap, .int .i64 ou, .int .i64 lo, .int .i64 wh]] w fun e w' => e = .returned (.bool (hol lw c0 c1 y0 y1 ap ou lo wh)) ∧ Below w.heap.size w w' := by
  cases lw with
  | false =>
    go_enter Tryd.func20, Tryd.ntmps20
    go_wp2_with (first | (go_at_call 16; (with_reducible refine (QQ _).mono ?_); rintro e w1 ⟨rfl, hb1⟩; obtain ⟨hc1, hf1, hz1⟩ := bcell hb1) | (go_at_call 18; (with_reducible refine (rsame_eq _ _ _ _ _ _ _ _ _ _).mono ?_); rintro e w2 ⟨rfl, hb2⟩))
    go_ret
    exact ⟨bool_eq (by simp [hol]), (by repeat' (first | with_reducible exact Below.refl _ _ | with_reducible assumption | with_reducible refine Q.alloc ?_ _ | with_reducible refine Q.drew ?_ | with_reducible refine Q.drewN ?_ _ | with_reducible refine Q.call ?_ (by assumption)))⟩
  | true =>
    have QQ := fun V => rquiet_eq V true c0 c1 y0 y1 ap ou lo wh
    cases hq : qt c0 with
    | false =>
      rw [hq] at QQ
      go_enter Tryd.func20, Tryd.ntmps20
      go_wp2_with (first | (go_at_call 16; (with_reducible refine (QQ _).mono ?_); rintro e w1 ⟨rfl, hb1⟩; obtain ⟨hc1, hf1, hz1⟩ := bcell hb1) | (go_at_call 18; (with_reducible refine (rsame_eq _ _ _ _ _ _ _ _ _ _).mono ?_); rintro e w2 ⟨rfl, hb2⟩))
      go_ret
      exact ⟨bool_eq (by simp [hol, hq]), (by repeat' (first | with_reducible exact Below.refl _ _ | with_reducible assumption | with_reducible refine Q.alloc ?_ _ | with_reducible refine Q.drew ?_ | with_reducible refine Q.drewN ?_ _ | with_reducible refine Q.call ?_ (by assumption)))⟩
    | true =>
      rw [hq] at QQ
      by_cases h1 : lo = -1
      · subst h1
        go_enter Tryd.func20, Tryd.ntmps20
        go_wp2_with (first | (go_at_call 16; (with_reducible refine (QQ _).mono ?_); rintro e w1 ⟨rfl, hb1⟩; obtain ⟨hc1, hf1, hz1⟩ := bcell hb1) | (go_at_call 18; (with_reducible refine (rsame_eq _ _ _ _ _ _ _ _ _ _).mono ?_); rintro e w2 ⟨rfl, hb2⟩))
        go_ret
        exact ⟨bool_eq (by simp [hol, hq]), (by repeat' (first | with_reducible exact Below.refl _ _ | with_reducible assumption | with_reducible refine Q.alloc ?_ _ | with_reducible refine Q.drew ?_ | with_reducible refine Q.drewN ?_ _ | with_reducible refine Q.call ?_ (by assumption)))⟩
      · have b1 : (lo == -1) = false := by simp [h1]
        by_cases h2 : ap = -1
        · subst h2
          go_enter Tryd.func20, Tryd.ntmps20
          go_wp2_with (first | (go_at_call 16; (with_reducible refine (QQ _).mono ?_); rintro e w1 ⟨rfl, hb1⟩; obtain ⟨hc1, hf1, hz1⟩ := bcell hb1) | (go_at_call 18; (with_reducible refine (rsame_eq _ _ _ _ _ _ _ _ _ _).mono ?_); rintro e w2 ⟨rfl, hb2⟩))
          go_ret
          exact ⟨bool_eq (by simp [hol, hq, h1]), (by repeat' (first | with_reducible exact Below.refl _ _ | with_reducible assumption | with_reducible refine Q.alloc ?_ _ | with_reducible refine Q.drew ?_ | with_reducible refine Q.drewN ?_ _ | with_reducible refine Q.call ?_ (by assumption)))⟩
        · have b2 : (ap == -1) = false := by simp [h2]
          by_cases h3 : wh ≤ ap
          · go_enter Tryd.func20, Tryd.ntmps20
            go_wp2_with (first | (go_at_call 16; (with_reducible refine (QQ _).mono ?_); rintro e w1 ⟨rfl, hb1⟩; obtain ⟨hc1, hf1, hz1⟩ := bcell hb1) | (go_at_call 18; (with_reducible refine (rsame_eq _ _ _ _ _ _ _ _ _ _).mono ?_); rintro e w2 ⟨rfl, hb2⟩))
            go_ret
            exact ⟨bool_eq (by simp [hol, hq, h1, h2, h3]), (by repeat' (first | with_reducible exact Below.refl _ _ | with_reducible assumption | with_reducible refine Q.alloc ?_ _ | with_reducible refine Q.drew ?_ | with_reducible refine Q.drewN ?_ _ | with_reducible refine Q.call ?_ (by assumption)))⟩
          · go_enter Tryd.func20, Tryd.ntmps20
            go_wp2_with (first | (go_at_call 16; (with_reducible refine (QQ _).mono ?_); rintro e w1 ⟨rfl, hb1⟩; obtain ⟨hc1, hf1, hz1⟩ := bcell hb1) | (go_at_call 18; (with_reducible refine (rsame_eq _ _ _ _ _ _ _ _ _ _).mono ?_); rintro e w2 ⟨rfl, hb2⟩))
            go_ret
            exact ⟨bool_eq (by simp [hol, hq, h1, h2, h3]), (by repeat' (first | with_reducible exact Below.refl _ _ | with_reducible assumption | with_reducible refine Q.alloc ?_ _ | with_reducible refine Q.drew ?_ | with_reducible refine Q.drewN ?_ _ | with_reducible refine Q.call ?_ (by assumption)))⟩
theorem vplain_eq (w : World) (lw : Bool) (c0 c1 y0 y1 ap ou lo wh : Int) : Calls Tryd.prog 13 #[.agg #[.bool lw, .int .i64 c0, .int .i64 c1, .int .i64 y0, .int .i64 y1, .int .i64 ap, .int .i64 ou, .int .i64 lo, .int .i64 wh]] w fun e w' => e = .returned (.agg #[.bool lw, .int .i64 c0, .int .i64 c1, .int .i64 y0, .int .i64 y1, .int .i64 ap, .int .i64 ou, .int .i64 lo, .int .i64 wh]) ∧ Below w.heap.size w w' := by
  go_enter Tryd.func13, Tryd.ntmps13
  go_wp2
  go_returns
  exact ⟨rfl, (by repeat' (first | with_reducible exact Below.refl _ _ | with_reducible assumption | with_reducible refine Q.alloc ?_ _ | with_reducible refine Q.drew ?_ | with_reducible refine Q.drewN ?_ _ | with_reducible refine Q.call ?_ (by assumption)))⟩
end Go.Proofs.YtggnkkmlabhofaaDoor

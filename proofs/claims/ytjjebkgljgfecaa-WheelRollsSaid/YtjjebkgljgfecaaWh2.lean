/- The wheel: Whole, and what each call does. -/
import Derived.Test.YtjjebkgljgfecaaWh1
namespace Go.Proofs.Ytjjebkgljgfecaa
set_option linter.unusedVariables false
set_option linter.unusedSimpArgs false
open Go.RowKit

theorem run_store_complex {P : Program} (a : Addr) (k : FloatKind) (x y : Nat) (m : Mode) (w : World) : (store a (.complex k x y) m).run P w = stored P w a (.complex k x y) m := run_store P w a _ m rfl
theorem run_store_float {P : Program} (a : Addr) (k : FloatKind) (x : Nat) (m : Mode) (w : World) : (store a (.float k x) m).run P w = stored P w a (.float k x) m := run_store P w a _ m rfl
attribute [local go_sem] run_store_complex run_store_float
theorem part_calls (a c : Nat) (b : Bool) (h : ∀ w, Calls Try.prog 21 #[.float .f64 a] w fun e w' => e = .returned (.tuple #[.float .f64 c, .bool b]) ∧ w' = w) (w : World) :
    Calls Try.prog 20 #[.float .f64 a] w fun e w' => e = .returned (.float .f64 c) ∧ w' = w := by
  go_enter Try.func20, Try.ntmps20
  go_wp2_with fail
  (with_reducible refine (h _).mono ?_)
  rintro e w1 ⟨rfl, rfl⟩
  go_wp2
  go_ret
  exact ⟨rfl, rfl⟩
theorem whole2_yes (a b c d : Nat) (ha : ∀ w, Calls Try.prog 21 #[.float .f64 a] w fun e w' => e = .returned (.tuple #[.float .f64 c, .bool true]) ∧ w' = w)
    (hb : ∀ w, Calls Try.prog 21 #[.float .f64 b] w fun e w' => e = .returned (.tuple #[.float .f64 d, .bool true]) ∧ w' = w) (w : World) :
    Calls Try.prog 8 #[.complex .f64 a b] w fun e w' => e = .returned (.complex .f64 c d) ∧ w' = w := by
  have hpa := part_calls a c true ha
  have hpb := part_calls b d true hb
  go_enter Try.func8, Try.ntmps8
  go_wp2_with (first
    | (go_at_call 21; first | ((with_reducible refine (ha _).mono ?_); rintro e w1 ⟨rfl, rfl⟩) | ((with_reducible refine (hb _).mono ?_); rintro e w1 ⟨rfl, rfl⟩))
    | (go_at_call 20; first | ((with_reducible refine (hpa _).mono ?_); rintro e w1 ⟨rfl, rfl⟩) | ((with_reducible refine (hpb _).mono ?_); rintro e w1 ⟨rfl, rfl⟩)))
  go_ret
  exact ⟨rfl, rfl⟩
theorem whole2_no (a b c d : Nat) (p q : Bool) (hpq : (p && q) = false) (ha : ∀ w, Calls Try.prog 21 #[.float .f64 a] w fun e w' => e = .returned (.tuple #[.float .f64 c, .bool p]) ∧ w' = w)
    (hb : ∀ w, Calls Try.prog 21 #[.float .f64 b] w fun e w' => e = .returned (.tuple #[.float .f64 d, .bool q]) ∧ w' = w) (w : World) :
    Calls Try.prog 8 #[.complex .f64 a b] w fun e w' => e = .returned (.complex .f64 0 0) ∧ w' = w := by
  cases p <;> cases q <;> first | (exfalso; revert hpq; decide) | skip
  all_goals
    go_enter Try.func8, Try.ntmps8
    go_wp2_with (first
      | (go_at_call 21; first | ((with_reducible refine (ha _).mono ?_); rintro e w1 ⟨rfl, rfl⟩) | ((with_reducible refine (hb _).mono ?_); rintro e w1 ⟨rfl, rfl⟩)))
    go_ret
    exact ⟨rfl, rfl⟩

/-- The bits of a whole number. -/
abbrev fo (n : Int) : Nat := floatOfInt .f64 n
theorem whole2_F (a b : Nat) (x y : Int) (ha : IsF a x) (hb : IsF b y) (h1 : -1099511627776 ≤ x) (h2 : x ≤ 1099511627776) (h3 : -1099511627776 ≤ y) (h4 : y ≤ 1099511627776) (w : World) :
    Calls Try.prog 8 #[.complex .f64 a b] w fun e w' => e = .returned (.complex .f64 (fo (bk x)) (fo (bk y))) ∧ w' = w :=
  whole2_yes a b _ _ (whole_yes a x (ha.toG (by omega)) h1 h2) (whole_yes b y (hb.toG (by omega)) h3 h4) w

theorem fo_0 : fo 0 = 0 := by decide +kernel
theorem fo_1 : fo 1 = 4607182418800017408 := by decide +kernel

theorem new_calls (w : World) :
    Calls Try.prog 11 #[] w fun e w' => e = .returned (.pointer (some ⟨w.heap.size, 0, none⟩)) ∧ w' = w.alloc (.cells #[.complex .f64 (fo 0) (fo 0), .complex .f64 (fo 1) (fo 0), .int .u8 0] 57) := by
  go_enter Try.func11, Try.ntmps11
  go_wp2_with fail
  go_ret
  rw [fo_0, fo_1]
  exact ⟨rfl, rfl⟩
theorem low_calls (a : Nat) (x : Int) (ha : IsF a x) (h1 : -1000 ≤ x) (h2 : x ≤ 1000) (w : World) :
    Calls Try.prog 22 #[.float .f64 a] w fun e w' => e = .returned (.agg #[.int .u8 (x % 256), .int .u8 0]) ∧ Below w.heap.size w w' := by
  have hi := (ha.toG (by omega)).toInt (by omega)
  rw [Int.mul_tdiv_cancel_left x (by omega)] at hi
  have hcv : ∀ w, (convert 26 3 (.float .f64 a)).run Try.prog w = .ok (.int .i64 x) w := fun w => run_convert_float_int w _ _ .f64 .i64 a x (by rw [Try.underlying26]; rfl) Try.underlying3 hi
  go_enter Try.func22, Try.ntmps22
  go_wp2_with (simp only [hcv])
  go_returns
  exact ⟨rfl, Q.alloc (Below.refl _ _) _⟩
theorem at_calls (w : World) (g : Nat) (c0 c1 c2 : Value) (h : Blk w g 57 #[c0, c1, c2]) :
    Calls Try.prog 13 #[.pointer (some ⟨g, 0, none⟩)] w fun e w' => e = .returned c0 ∧ w' = w := by
  have hc := h.cell 0
  go_enter Try.func13, Try.ntmps13
  go_wp2_with fail
  go_ret
  exact ⟨rfl, rfl⟩
theorem way_calls (w : World) (g : Nat) (c0 c1 c2 : Value) (h : Blk w g 57 #[c0, c1, c2]) :
    Calls Try.prog 14 #[.pointer (some ⟨g, 0, none⟩)] w fun e w' => e = .returned c1 ∧ w' = w := by
  have hc := h.cell 1
  go_enter Try.func14, Try.ntmps14
  go_wp2_with fail
  go_ret
  exact ⟨rfl, rfl⟩
/-- A wheel's cells. -/
abbrev wc (a b c d : Nat) (v : Int) : Array Value := #[.complex .f64 a b, .complex .f64 c d, .int .u8 v]
theorem clone_calls (w : World) (g : Nat) (a b c d : Nat) (v : Int) (h : Blk w g 57 (wc a b c d v)) :
    Calls Try.prog 15 #[.pointer (some ⟨g, 0, none⟩)] w fun e w' => e = .returned (.pointer (some ⟨w.heap.size, 0, none⟩)) ∧ w' = w.alloc (.cells (wc a b c d v) 57) := by
  have hc0 := h.cell 0
  have hc1 := h.cell 1
  have hc2 := h.cell 2
  go_enter Try.func15, Try.ntmps15
  go_wp2_with fail
  go_ret
  exact ⟨rfl, rfl⟩
theorem read_calls (w : World) (g : Nat) (a b c d : Nat) (v r x y : Int) (h : Blk w g 57 (wc a b c d v)) (hx : IsF a x) (hy : IsF b y) (hx1 : -1000 ≤ x) (hx2 : x ≤ 1000) (hy1 : -1000 ≤ y) (hy2 : y ≤ 1000) :
    Calls Try.prog 17 #[.pointer (some ⟨g, 0, none⟩), .int .i64 r] w fun e w' => e = .returned (.tuple #[.agg #[.int .u8 (if r = 0 then v else if r = 1 then x % 256 else if r = 2 then y % 256 else 0), .int .u8 0], .int .i64 (if r < 0 ∨ 2 < r then 10 else 0)]) ∧ Below w.heap.size w w' := by
  have hc0 := h.cell 0
  have hc1 := h.cell 1
  have hc2 := h.cell 2
  have hcl := h.lt
  have hne : g ≠ w.heap.size := by omega
  have L1 := fun W => low_calls a x hx hx1 hx2 W
  have L2 := fun W => low_calls b y hy hy1 hy2 W
  have hB : Below w.heap.size w (w.alloc (.cells #[.int .u8 0, .int .u8 0] 37)) := Q.alloc (Below.refl _ _) _
  by_cases h0 : r = 0
  · subst h0
    rw [if_pos rfl, if_neg (by omega)]
    go_enter Try.func17, Try.ntmps17
    go_wp2_with fail
    go_returns
    exact ⟨rfl, Q.alloc (Below.refl _ _) _⟩
  by_cases h1 : r = 1
  · subst h1
    rw [if_neg (by omega), if_pos rfl, if_neg (by omega)]
    go_enter Try.func17, Try.ntmps17
    go_wp2_with (go_at_call 22; (with_reducible refine (L1 _).mono ?_); rintro e w1 ⟨rfl, hb1⟩; have kz := (Blk.new w 37 #[.int .u8 0, .int .u8 0]).call hb1; have hB1 := Q.call hB hb1; have z0 := kz.cell 0; have z1 := kz.cell 1; have z2 := kz.frozen 0; have z3 := kz.frozen 1; clear hb1)
    have e1 : (w1.setCell ⟨w.heap.size, 0, none⟩ (.int .u8 (x % 256))).setCell ⟨w.heap.size, 1, none⟩ (.int .u8 0) = w1.setRow w.heap.size #[.int .u8 (x % 256), .int .u8 0] := by
      rw [kz.setCell, kz.setCell_setRow]
      rfl
    rw [e1]
    have ky := kz.setRow #[.int .u8 (x % 256), .int .u8 0]
    have hB2 := below_setRow hB1 (Nat.le_refl _) #[.int .u8 (x % 256), .int .u8 0]
    generalize w1.setRow w.heap.size #[.int .u8 (x % 256), .int .u8 0] = w2 at ky hB2 ⊢
    have q0 := ky.cell 0
    have q1 := ky.cell 1
    exact ⟨rfl, .tuple #[.agg #[.int .u8 (x % 256), .int .u8 0], .int .i64 0], by simp [results, Try.f17, go_sem, q0, q1], rfl, hB2⟩
  by_cases h2 : r = 2
  · subst h2
    rw [if_neg (by omega), if_neg (by omega), if_pos rfl, if_neg (by omega)]
    go_enter Try.func17, Try.ntmps17
    go_wp2_with (go_at_call 22; (with_reducible refine (L2 _).mono ?_); rintro e w1 ⟨rfl, hb1⟩; have kz := (Blk.new w 37 #[.int .u8 0, .int .u8 0]).call hb1; have hB1 := Q.call hB hb1; have z0 := kz.cell 0; have z1 := kz.cell 1; have z2 := kz.frozen 0; have z3 := kz.frozen 1; clear hb1)
    have e1 : (w1.setCell ⟨w.heap.size, 0, none⟩ (.int .u8 (y % 256))).setCell ⟨w.heap.size, 1, none⟩ (.int .u8 0) = w1.setRow w.heap.size #[.int .u8 (y % 256), .int .u8 0] := by
      rw [kz.setCell, kz.setCell_setRow]
      rfl
    rw [e1]
    have ky := kz.setRow #[.int .u8 (y % 256), .int .u8 0]
    have hB2 := below_setRow hB1 (Nat.le_refl _) #[.int .u8 (y % 256), .int .u8 0]
    generalize w1.setRow w.heap.size #[.int .u8 (y % 256), .int .u8 0] = w2 at ky hB2 ⊢
    have q0 := ky.cell 0
    have q1 := ky.cell 1
    exact ⟨rfl, .tuple #[.agg #[.int .u8 (y % 256), .int .u8 0], .int .i64 0], by simp [results, Try.f17, go_sem, q0, q1], rfl, hB2⟩
  · rw [if_neg h0, if_neg h1, if_neg h2, if_pos (by omega)]
    have e0 : (r == 0) = false := beq_eq_false_iff_ne.2 h0
    have e1 : (r == 1) = false := beq_eq_false_iff_ne.2 h1
    have e2 : (r == 2) = false := beq_eq_false_iff_ne.2 h2
    go_enter Try.func17, Try.ntmps17
    go_wp2_with fail
    go_returns
    exact ⟨rfl, hB⟩
end Go.Proofs.Ytjjebkgljgfecaa

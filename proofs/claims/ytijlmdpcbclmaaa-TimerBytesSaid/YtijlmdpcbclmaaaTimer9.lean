/- The walk of the law TimerBytes. -/
import Derived.Test.YtijlmdpcbclmaaaTimer6
namespace Go.Proofs.Ytijlmdpcbclmaaa
set_option linter.unusedVariables false
set_option linter.unusedSimpArgs false
open Go.RowKit
attribute [local go_sem] setRow_alloc_past setRow_alloc_at

theorem four {w w' : World} {g : Nat} {T : TypeId} {v0 v1 v2 v3 : Int} (h : Blk w g T #[.int .u8 v0, .int .u8 v1, .int .u8 v2, .int .u8 v3]) (hb : Below w.heap.size w w') :
    w'.cell? ⟨g, 0, none⟩ = some (.int .u8 v0) ∧ w'.cell? ⟨g, 1, none⟩ = some (.int .u8 v1) ∧ w'.cell? ⟨g, 2, none⟩ = some (.int .u8 v2) ∧ w'.cell? ⟨g, 3, none⟩ = some (.int .u8 v3) :=
  have h' := h.call hb
  ⟨h'.cell 0, h'.cell 1, h'.cell 2, h'.cell 3⟩

set_option maxHeartbeats 1600000 in
theorem timerBytes_bad (t : TM) (v0 v1 v2 v3 : Int) (h : ¬ t.ok) (w : World) :
    Calls Try.prog 12 #[.agg t.cells, .agg #[.int .u8 v0, .int .u8 v1, .int .u8 v2, .int .u8 v3]] w fun e w' => e = .returned (.bool true) ∧ Below w.heap.size w w' := by
  have C3 := fun w => may_calls t w
  rw [decide_eq_false h] at C3
  clear h
  obtain ⟨l, c, r, a, k, i⟩ := t
  simp only [TM.cells] at C3 ⊢
  go_enter Try.func12, Try.ntmps12
  go_wp2_with (first
      | (go_at_call 20; (with_reducible refine (plain_lit _ _ _ _ _ _ _).mono ?_); rintro e w2 ⟨rfl, hb2⟩; obtain ⟨hc2, hf2, hz2⟩ := bcell hb2; have z2_0 : w.heap.size < w2.heap.size := (by (try simp only [World.size_alloc, World.size_drew] at hz2); omega); have z2v : w.heap.size + 1 < w2.heap.size := (by (try simp only [World.size_alloc, World.size_drew] at hz2); omega))
      | (go_at_call 19; (with_reducible refine (C3 _).mono ?_); rintro e w3 ⟨rfl, hb3⟩)
      | (go_at_call 21; (with_reducible refine (awake10_calls _).mono ?_); rintro e w4 ⟨rfl, hb4⟩))
  go_returns
  exact ⟨rfl, (by repeat' (first | with_reducible exact Below.refl _ _ | with_reducible assumption | with_reducible refine Q.alloc ?_ _ | with_reducible refine Q.drew ?_ | with_reducible refine Q.call ?_ (by assumption)))⟩

set_option maxHeartbeats 3200000 in
theorem timerBytes_A (l c : Int) (r a k i : Bool) (v0 v1 v2 v3 : Int) (ht : (TM.mk l c r a k i).ok) (h0 : 0 ≤ v0 ∧ v0 < 256) (h1 : 0 ≤ v1 ∧ v1 < 256) (h2 : 0 ≤ v2 ∧ v2 < 256) (h3 : 0 ≤ v3 ∧ v3 < 256) (hc : v2 % 2 = 1) (w : World) :
    Calls Try.prog 12 #[.agg (TM.mk l c r a k i).cells, .agg #[.int .u8 v0, .int .u8 v1, .int .u8 v2, .int .u8 v3]] w fun e w' => e = .returned (.bool true) ∧ Below w.heap.size w w' := by
  have C3 := fun w => may_lit l c r a k i ht w
  have ht' := ht
  obtain ⟨t0, t1, t2, t3⟩ := ht'
  simp only at t0 t1 t2 t3
  have CW0 := fun g w hb => write_calls g ⟨l, c, r, a, k, i⟩ ht 0 v0 (by omega) h0 w hb
  rw [show TM.write ⟨l, c, r, a, k, i⟩ 0 v0 = ⟨l / 256 * 256 + v0, c, r, a, k, i⟩ by simp [TM.write]] at CW0
  have ht1 : (TM.mk (l / 256 * 256 + v0) c r a k i).ok := ⟨by simp only; omega, by simp only; omega, t2, t3⟩
  have CW1 := fun g w hb => write_calls g _ ht1 1 v1 (by omega) h1 w hb
  rw [show TM.write ⟨l / 256 * 256 + v0, c, r, a, k, i⟩ 1 v1 = ⟨v0 + 256 * v1, c, r, a, k, i⟩ by simp [TM.write]; omega] at CW1
  have ht2 : (TM.mk (v0 + 256 * v1) c r a k i).ok := ⟨by simp only; omega, by simp only; omega, t2, t3⟩
  have CW2 := fun g w hb => write_calls g _ ht2 2 v2 (by omega) h2 w hb
  rw [show TM.write ⟨v0 + 256 * v1, c, r, a, k, i⟩ 2 v2 = ⟨v0 + 256 * v1, v0 + 256 * v1, true, (v2 / 2 % 2 == 1), (v2 / 4 % 2 == 1), i⟩ by simp [TM.write, hc]] at CW2
  have ht3 : (TM.mk (v0 + 256 * v1) (v0 + 256 * v1) true (v2 / 2 % 2 == 1) (v2 / 4 % 2 == 1) i).ok := ⟨by simp only; omega, by simp only; omega, by simp only; omega, by simp only; omega⟩
  have CR2 := fun g w hb => read_calls g _ ht3 2 (by omega) w hb
  rw [show TM.read ⟨v0 + 256 * v1, v0 + 256 * v1, true, (v2 / 2 % 2 == 1), (v2 / 4 % 2 == 1), i⟩ 2 = v2 % 8 by
    simp only [TM.read, Int.reduceEq, if_false, if_true, b2i, beq_iff_eq, Bool.false_eq_true]
    split <;> split <;> omega] at CR2
  have CR0 := fun g w hb => read_calls g _ ht3 0 (by omega) w hb
  rw [show TM.read ⟨v0 + 256 * v1, v0 + 256 * v1, true, (v2 / 2 % 2 == 1), (v2 / 4 % 2 == 1), i⟩ 0 = (v0 + 256 * v1) % 256 by simp [TM.read]] at CR0
  have CR1 := fun g w hb => read_calls g _ ht3 1 (by omega) w hb
  rw [show TM.read ⟨v0 + 256 * v1, v0 + 256 * v1, true, (v2 / 2 % 2 == 1), (v2 / 4 % 2 == 1), i⟩ 1 = (v0 + 256 * v1) / 256 by simp [TM.read]] at CR1
  have CW3 := fun g w hb => write_calls g _ ht3 3 v3 (by omega) h3 w hb
  rw [show TM.write ⟨v0 + 256 * v1, v0 + 256 * v1, true, (v2 / 2 % 2 == 1), (v2 / 4 % 2 == 1), i⟩ 3 v3 = ⟨v0 + 256 * v1, v0 + 256 * v1, true, (v2 / 2 % 2 == 1), (v2 / 4 % 2 == 1), false⟩ by simp [TM.write]] at CW3
  have ht4 : (TM.mk (v0 + 256 * v1) (v0 + 256 * v1) true (v2 / 2 % 2 == 1) (v2 / 4 % 2 == 1) false).ok := ⟨by simp only; omega, by simp only; omega, by simp only; omega, by simp only; omega⟩
  have CR3 := fun g w hb => read_calls g _ ht4 3 (by omega) w hb
  rw [show TM.read ⟨v0 + 256 * v1, v0 + 256 * v1, true, (v2 / 2 % 2 == 1), (v2 / 4 % 2 == 1), false⟩ 3 = 0 by simp [TM.read, b2i]] at CR3
  have CI := fun g w hb => irq_calls g ⟨v0 + 256 * v1, v0 + 256 * v1, true, (v2 / 2 % 2 == 1), (v2 / 4 % 2 == 1), false⟩ w hb
  simp only [Bool.false_and] at CI
  clear ht ht1 ht2 ht3 ht4
  obtain ⟨h00, h01⟩ := h0
  obtain ⟨h10, h11⟩ := h1
  obtain ⟨h20, h21⟩ := h2
  have hc2 : (v2 % 2 == 1) = true := by exact beq_iff_eq.2 hc
  have HC := Lib.hid hc
  clear hc
  simp only [TM.cells] at C3 CW0 CW1 CW2 CW3 CR0 CR1 CR2 CR3 CI ⊢
  go_enter Try.func12, Try.ntmps12
  go_wp2_with (first
      | (go_at_call 20; (with_reducible refine (plain_lit _ _ _ _ _ _ _).mono ?_); rintro e w2 ⟨rfl, hb2⟩; obtain ⟨hc2, hf2, hz2⟩ := bcell hb2; have z2_0 : w.heap.size < w2.heap.size := (by (try simp only [World.size_alloc, World.size_drew] at hz2); omega); have z2v : w.heap.size + 1 < w2.heap.size := (by (try simp only [World.size_alloc, World.size_drew] at hz2); omega))
      | (go_at_call 19; (with_reducible refine (C3 _).mono ?_); rintro e w3 ⟨rfl, hb3⟩; obtain ⟨hc3, hf3, hz3⟩ := bcell hb3; have z3_0 : w.heap.size < w3.heap.size := (by (try simp only [World.size_alloc, World.size_drew] at hz3); omega); have z3v : w.heap.size + 1 < w3.heap.size := (by (try simp only [World.size_alloc, World.size_drew] at hz3); omega)))
  have B3 : Blk w3 w.heap.size 38 #[.int .i64 (l), .int .i64 (c), .bool r, .bool a, .bool k, .bool i] := (by repeat' (first | with_reducible exact Blk.new _ _ _ | with_reducible assumption | with_reducible refine Blk.alloc ?_ _ | with_reducible refine Blk.drew ?_ | with_reducible refine Blk.call ?_ (by assumption)))
  have V3 : Blk w3 (w.heap.size + 1) 75 #[.int .u8 v0, .int .u8 v1, .int .u8 v2, .int .u8 v3] := by refine Blk.call (Blk.call (Blk.new' ?_) hb2) hb3; simp
  have HB3 : Below w.heap.size w w3 := (by repeat' (first | with_reducible exact Below.refl _ _ | with_reducible assumption | with_reducible refine Q.alloc ?_ _ | with_reducible refine Q.drew ?_ | with_reducible refine Q.call ?_ (by assumption)))
  clear hb2 hb3 hc3 hf2 hf3
  obtain ⟨y3_0, y3_1, y3_2, y3_3, y3_4, y3_5⟩ := TM.six B3 (Below.refl _ _)
  obtain ⟨q3_0, q3_1, q3_2, q3_3⟩ := four V3 (Below.refl _ _)
  have zb3 := B3.lt
  have zv3 := V3.lt
  (with_reducible refine (CW0 _ _ B3).mono ?_)
  rintro e w4 ⟨rfl, hw4⟩
  have B4 : Blk w4 w.heap.size 38 #[.int .i64 (l / 256 * 256 + v0), .int .i64 (c), .bool r, .bool a, .bool k, .bool i] := by rw [hw4]; exact B3.setRow _
  have V4 : Blk w4 (w.heap.size + 1) 75 #[.int .u8 v0, .int .u8 v1, .int .u8 v2, .int .u8 v3] := by rw [hw4]; exact V3.other (by omega) _
  have HB4 : Below w.heap.size w w4 := by rw [hw4]; exact below_setRow HB3 (Nat.le_refl _) _
  clear hw4
  clear y3_0 y3_1 y3_2 y3_3 y3_4 y3_5 q3_0 q3_1 q3_2 q3_3
  obtain ⟨y4_0, y4_1, y4_2, y4_3, y4_4, y4_5⟩ := TM.six B4 (Below.refl _ _)
  obtain ⟨q4_0, q4_1, q4_2, q4_3⟩ := four V4 (Below.refl _ _)
  have zb4 := B4.lt
  have zv4 := V4.lt
  go_wp2_with fail
  (with_reducible refine (CW1 _ _ B4).mono ?_)
  rintro e w5 ⟨rfl, hw5⟩
  have B5 : Blk w5 w.heap.size 38 #[.int .i64 (v0 + 256 * v1), .int .i64 (c), .bool r, .bool a, .bool k, .bool i] := by rw [hw5]; exact B4.setRow _
  have V5 : Blk w5 (w.heap.size + 1) 75 #[.int .u8 v0, .int .u8 v1, .int .u8 v2, .int .u8 v3] := by rw [hw5]; exact V4.other (by omega) _
  have HB5 : Below w.heap.size w w5 := by rw [hw5]; exact below_setRow HB4 (Nat.le_refl _) _
  clear hw5
  clear y4_0 y4_1 y4_2 y4_3 y4_4 y4_5 q4_0 q4_1 q4_2 q4_3
  obtain ⟨y5_0, y5_1, y5_2, y5_3, y5_4, y5_5⟩ := TM.six B5 (Below.refl _ _)
  obtain ⟨q5_0, q5_1, q5_2, q5_3⟩ := four V5 (Below.refl _ _)
  have zb5 := B5.lt
  have zv5 := V5.lt
  go_wp2_with fail
  (with_reducible refine (CW2 _ _ B5).mono ?_)
  rintro e w6 ⟨rfl, hw6⟩
  have B6 : Blk w6 w.heap.size 38 #[.int .i64 (v0 + 256 * v1), .int .i64 (v0 + 256 * v1), .bool true, .bool (v2 / 2 % 2 == 1), .bool (v2 / 4 % 2 == 1), .bool i] := by rw [hw6]; exact B5.setRow _
  have V6 : Blk w6 (w.heap.size + 1) 75 #[.int .u8 v0, .int .u8 v1, .int .u8 v2, .int .u8 v3] := by rw [hw6]; exact V5.other (by omega) _
  have HB6 : Below w.heap.size w w6 := by rw [hw6]; exact below_setRow HB5 (Nat.le_refl _) _
  clear hw6
  clear y5_0 y5_1 y5_2 y5_3 y5_4 y5_5 q5_0 q5_1 q5_2 q5_3
  obtain ⟨y6_0, y6_1, y6_2, y6_3, y6_4, y6_5⟩ := TM.six B6 (Below.refl _ _)
  obtain ⟨q6_0, q6_1, q6_2, q6_3⟩ := four V6 (Below.refl _ _)
  have zb6 := B6.lt
  have zv6 := V6.lt
  go_wp2_with fail
  (with_reducible refine (CR2 _ _ B6).mono ?_)
  rintro e w7 ⟨rfl, hb7⟩
  have B7 := B6.call hb7
  have V7 := V6.call hb7
  have HB7 : Below w.heap.size w w7 := Q.call HB6 hb7
  clear y6_0 y6_1 y6_2 y6_3 y6_4 y6_5 q6_0 q6_1 q6_2 q6_3
  obtain ⟨y7_0, y7_1, y7_2, y7_3, y7_4, y7_5⟩ := TM.six B7 (Below.refl _ _)
  obtain ⟨q7_0, q7_1, q7_2, q7_3⟩ := four V7 (Below.refl _ _)
  have zb7 := B7.lt
  have zv7 := V7.lt
  go_wp2_with fail
  (with_reducible refine (CR0 _ _ (B7.alloc _)).mono ?_)
  rintro e w9 ⟨rfl, hb9⟩
  have B9 := (B7.alloc _).call hb9
  have V9 := (V7.alloc _).call hb9
  have X9 : Blk w9 w7.heap.size 38 #[.int .i64 (v0 + 256 * v1), .int .i64 (v0 + 256 * v1), .bool true, .bool (v2 / 2 % 2 == 1), .bool (v2 / 4 % 2 == 1), .bool i] := (Blk.new _ _ _).call hb9
  have HB9 : Below w.heap.size w w9 := Q.call (Q.alloc HB7 _) hb9
  clear y7_0 y7_1 y7_2 y7_3 y7_4 y7_5 q7_0 q7_1 q7_2 q7_3
  obtain ⟨y9_0, y9_1, y9_2, y9_3, y9_4, y9_5⟩ := TM.six B9 (Below.refl _ _)
  obtain ⟨q9_0, q9_1, q9_2, q9_3⟩ := four V9 (Below.refl _ _)
  have zb9 := B9.lt
  have zv9 := V9.lt
  obtain ⟨x9_0, x9_1, x9_2, x9_3, x9_4, x9_5⟩ := TM.six X9 (Below.refl _ _)
  go_wp2_with fail
  (with_reducible refine (CR1 _ _ B9).mono ?_)
  rintro e w10 ⟨rfl, hb10⟩
  have B10 := B9.call hb10
  have V10 := V9.call hb10
  have X10 := X9.call hb10
  have HB10 : Below w.heap.size w w10 := Q.call HB9 hb10
  clear y9_0 y9_1 y9_2 y9_3 y9_4 y9_5 q9_0 q9_1 q9_2 q9_3
  obtain ⟨y10_0, y10_1, y10_2, y10_3, y10_4, y10_5⟩ := TM.six B10 (Below.refl _ _)
  obtain ⟨q10_0, q10_1, q10_2, q10_3⟩ := four V10 (Below.refl _ _)
  have zb10 := B10.lt
  have zv10 := V10.lt
  clear x9_0 x9_1 x9_2 x9_3 x9_4 x9_5
  go_wp2_with fail
  (with_reducible refine (CW3 _ _ B10).mono ?_)
  rintro e w11 ⟨rfl, hw11⟩
  have B11 : Blk w11 w.heap.size 38 #[.int .i64 (v0 + 256 * v1), .int .i64 (v0 + 256 * v1), .bool true, .bool (v2 / 2 % 2 == 1), .bool (v2 / 4 % 2 == 1), .bool false] := by rw [hw11]; exact B10.setRow _
  have V11 : Blk w11 (w.heap.size + 1) 75 #[.int .u8 v0, .int .u8 v1, .int .u8 v2, .int .u8 v3] := by rw [hw11]; exact V10.other (by omega) _
  have X11 : Blk w11 w7.heap.size 38 #[.int .i64 (v0 + 256 * v1), .int .i64 (v0 + 256 * v1), .bool true, .bool (v2 / 2 % 2 == 1), .bool (v2 / 4 % 2 == 1), .bool i] := by rw [hw11]; exact X10.other (by omega) _
  have HB11 : Below w.heap.size w w11 := by rw [hw11]; exact below_setRow HB10 (Nat.le_refl _) _
  clear hw11
  clear y10_0 y10_1 y10_2 y10_3 y10_4 y10_5 q10_0 q10_1 q10_2 q10_3
  obtain ⟨y11_0, y11_1, y11_2, y11_3, y11_4, y11_5⟩ := TM.six B11 (Below.refl _ _)
  obtain ⟨q11_0, q11_1, q11_2, q11_3⟩ := four V11 (Below.refl _ _)
  have zb11 := B11.lt
  have zv11 := V11.lt
  go_wp2_with fail
  (with_reducible refine (CR3 _ _ B11).mono ?_)
  rintro e w12 ⟨rfl, hb12⟩
  have B12 := B11.call hb12
  have V12 := V11.call hb12
  have X12 := X11.call hb12
  have HB12 : Below w.heap.size w w12 := Q.call HB11 hb12
  clear y11_0 y11_1 y11_2 y11_3 y11_4 y11_5 q11_0 q11_1 q11_2 q11_3
  obtain ⟨y12_0, y12_1, y12_2, y12_3, y12_4, y12_5⟩ := TM.six B12 (Below.refl _ _)
  obtain ⟨q12_0, q12_1, q12_2, q12_3⟩ := four V12 (Below.refl _ _)
  have zb12 := B12.lt
  have zv12 := V12.lt
  obtain ⟨x12_0, x12_1, x12_2, x12_3, x12_4, x12_5⟩ := TM.six X12 (Below.refl _ _)
  have fx := X12.frozen 5
  go_wp2_with fail
  rw [X12.setCell]
  obtain ⟨w13, hw13⟩ : ∃ w13, w13 = w12.setRow w7.heap.size (Array.setIfInBounds #[.int .i64 (v0 + 256 * v1), .int .i64 (v0 + 256 * v1), .bool true, .bool (v2 / 2 % 2 == 1), .bool (v2 / 4 % 2 == 1), .bool i] 5 (.bool false)) := ⟨_, rfl⟩
  rw [← hw13]
  have B13 : Blk w13 w.heap.size 38 #[.int .i64 (v0 + 256 * v1), .int .i64 (v0 + 256 * v1), .bool true, .bool (v2 / 2 % 2 == 1), .bool (v2 / 4 % 2 == 1), .bool false] := by rw [hw13]; exact B12.other (by omega) _
  have HB13 : Below w.heap.size w w13 := by rw [hw13]; exact below_setRow HB12 (by omega) _
  clear hw13
  (with_reducible refine (CI _ _ B13).mono ?_)
  rintro e w14 ⟨rfl, rfl⟩
  go_wp2_with (go_at_call 21; (with_reducible refine (awake10_calls _).mono ?_); rintro e w15 ⟨rfl, hb15⟩)
  go_returns
  exact ⟨by simp, (by repeat' (first | with_reducible exact Below.refl _ _ | with_reducible assumption | with_reducible refine Q.alloc ?_ _ | with_reducible refine Q.drew ?_ | with_reducible refine Q.call ?_ (by assumption)))⟩

set_option maxHeartbeats 3200000 in
theorem timerBytes_B (l c : Int) (r a k i : Bool) (v0 v1 v2 v3 : Int) (ht : (TM.mk l c r a k i).ok) (h0 : 0 ≤ v0 ∧ v0 < 256) (h1 : 0 ≤ v1 ∧ v1 < 256) (h2 : 0 ≤ v2 ∧ v2 < 256) (h3 : 0 ≤ v3 ∧ v3 < 256) (hc : v2 % 2 = 0) (w : World) :
    Calls Try.prog 12 #[.agg (TM.mk l c r a k i).cells, .agg #[.int .u8 v0, .int .u8 v1, .int .u8 v2, .int .u8 v3]] w fun e w' => e = .returned (.bool true) ∧ Below w.heap.size w w' := by
  have C3 := fun w => may_lit l c r a k i ht w
  have ht' := ht
  obtain ⟨t0, t1, t2, t3⟩ := ht'
  simp only at t0 t1 t2 t3
  have CW0 := fun g w hb => write_calls g ⟨l, c, r, a, k, i⟩ ht 0 v0 (by omega) h0 w hb
  rw [show TM.write ⟨l, c, r, a, k, i⟩ 0 v0 = ⟨l / 256 * 256 + v0, c, r, a, k, i⟩ by simp [TM.write]] at CW0
  have ht1 : (TM.mk (l / 256 * 256 + v0) c r a k i).ok := ⟨by simp only; omega, by simp only; omega, t2, t3⟩
  have CW1 := fun g w hb => write_calls g _ ht1 1 v1 (by omega) h1 w hb
  rw [show TM.write ⟨l / 256 * 256 + v0, c, r, a, k, i⟩ 1 v1 = ⟨v0 + 256 * v1, c, r, a, k, i⟩ by simp [TM.write]; omega] at CW1
  have ht2 : (TM.mk (v0 + 256 * v1) c r a k i).ok := ⟨by simp only; omega, by simp only; omega, t2, t3⟩
  have CW2 := fun g w hb => write_calls g _ ht2 2 v2 (by omega) h2 w hb
  rw [show TM.write ⟨v0 + 256 * v1, c, r, a, k, i⟩ 2 v2 = ⟨v0 + 256 * v1, c, false, (v2 / 2 % 2 == 1), (v2 / 4 % 2 == 1), i⟩ by simp [TM.write, hc]] at CW2
  have ht3 : (TM.mk (v0 + 256 * v1) (c) false (v2 / 2 % 2 == 1) (v2 / 4 % 2 == 1) i).ok := ⟨by simp only; omega, by simp only; omega, by simp only; omega, by simp only; omega⟩
  have CR2 := fun g w hb => read_calls g _ ht3 2 (by omega) w hb
  rw [show TM.read ⟨v0 + 256 * v1, c, false, (v2 / 2 % 2 == 1), (v2 / 4 % 2 == 1), i⟩ 2 = v2 % 8 by
    simp only [TM.read, Int.reduceEq, if_false, if_true, b2i, beq_iff_eq, Bool.false_eq_true]
    split <;> split <;> omega] at CR2
  have CR0 := fun g w hb => read_calls g _ ht3 0 (by omega) w hb
  rw [show TM.read ⟨v0 + 256 * v1, c, false, (v2 / 2 % 2 == 1), (v2 / 4 % 2 == 1), i⟩ 0 = (c) % 256 by simp [TM.read]] at CR0
  have CR1 := fun g w hb => read_calls g _ ht3 1 (by omega) w hb
  rw [show TM.read ⟨v0 + 256 * v1, c, false, (v2 / 2 % 2 == 1), (v2 / 4 % 2 == 1), i⟩ 1 = (c) / 256 by simp [TM.read]] at CR1
  have CW3 := fun g w hb => write_calls g _ ht3 3 v3 (by omega) h3 w hb
  rw [show TM.write ⟨v0 + 256 * v1, c, false, (v2 / 2 % 2 == 1), (v2 / 4 % 2 == 1), i⟩ 3 v3 = ⟨v0 + 256 * v1, c, false, (v2 / 2 % 2 == 1), (v2 / 4 % 2 == 1), false⟩ by simp [TM.write]] at CW3
  have ht4 : (TM.mk (v0 + 256 * v1) (c) false (v2 / 2 % 2 == 1) (v2 / 4 % 2 == 1) false).ok := ⟨by simp only; omega, by simp only; omega, by simp only; omega, by simp only; omega⟩
  have CR3 := fun g w hb => read_calls g _ ht4 3 (by omega) w hb
  rw [show TM.read ⟨v0 + 256 * v1, c, false, (v2 / 2 % 2 == 1), (v2 / 4 % 2 == 1), false⟩ 3 = 0 by simp [TM.read, b2i]] at CR3
  have CI := fun g w hb => irq_calls g ⟨v0 + 256 * v1, c, false, (v2 / 2 % 2 == 1), (v2 / 4 % 2 == 1), false⟩ w hb
  simp only [Bool.false_and] at CI
  clear ht ht1 ht2 ht3 ht4
  obtain ⟨h00, h01⟩ := h0
  obtain ⟨h10, h11⟩ := h1
  obtain ⟨h20, h21⟩ := h2
  have hc2 : (v2 % 2 == 1) = false := by exact beq_eq_false_iff_ne.2 (by omega)
  have HC := Lib.hid hc
  clear hc
  simp only [TM.cells] at C3 CW0 CW1 CW2 CW3 CR0 CR1 CR2 CR3 CI ⊢
  go_enter Try.func12, Try.ntmps12
  go_wp2_with (first
      | (go_at_call 20; (with_reducible refine (plain_lit _ _ _ _ _ _ _).mono ?_); rintro e w2 ⟨rfl, hb2⟩; obtain ⟨hc2, hf2, hz2⟩ := bcell hb2; have z2_0 : w.heap.size < w2.heap.size := (by (try simp only [World.size_alloc, World.size_drew] at hz2); omega); have z2v : w.heap.size + 1 < w2.heap.size := (by (try simp only [World.size_alloc, World.size_drew] at hz2); omega))
      | (go_at_call 19; (with_reducible refine (C3 _).mono ?_); rintro e w3 ⟨rfl, hb3⟩; obtain ⟨hc3, hf3, hz3⟩ := bcell hb3; have z3_0 : w.heap.size < w3.heap.size := (by (try simp only [World.size_alloc, World.size_drew] at hz3); omega); have z3v : w.heap.size + 1 < w3.heap.size := (by (try simp only [World.size_alloc, World.size_drew] at hz3); omega)))
  have B3 : Blk w3 w.heap.size 38 #[.int .i64 (l), .int .i64 (c), .bool r, .bool a, .bool k, .bool i] := (by repeat' (first | with_reducible exact Blk.new _ _ _ | with_reducible assumption | with_reducible refine Blk.alloc ?_ _ | with_reducible refine Blk.drew ?_ | with_reducible refine Blk.call ?_ (by assumption)))
  have V3 : Blk w3 (w.heap.size + 1) 75 #[.int .u8 v0, .int .u8 v1, .int .u8 v2, .int .u8 v3] := by refine Blk.call (Blk.call (Blk.new' ?_) hb2) hb3; simp
  have HB3 : Below w.heap.size w w3 := (by repeat' (first | with_reducible exact Below.refl _ _ | with_reducible assumption | with_reducible refine Q.alloc ?_ _ | with_reducible refine Q.drew ?_ | with_reducible refine Q.call ?_ (by assumption)))
  clear hb2 hb3 hc3 hf2 hf3
  obtain ⟨y3_0, y3_1, y3_2, y3_3, y3_4, y3_5⟩ := TM.six B3 (Below.refl _ _)
  obtain ⟨q3_0, q3_1, q3_2, q3_3⟩ := four V3 (Below.refl _ _)
  have zb3 := B3.lt
  have zv3 := V3.lt
  (with_reducible refine (CW0 _ _ B3).mono ?_)
  rintro e w4 ⟨rfl, hw4⟩
  have B4 : Blk w4 w.heap.size 38 #[.int .i64 (l / 256 * 256 + v0), .int .i64 (c), .bool r, .bool a, .bool k, .bool i] := by rw [hw4]; exact B3.setRow _
  have V4 : Blk w4 (w.heap.size + 1) 75 #[.int .u8 v0, .int .u8 v1, .int .u8 v2, .int .u8 v3] := by rw [hw4]; exact V3.other (by omega) _
  have HB4 : Below w.heap.size w w4 := by rw [hw4]; exact below_setRow HB3 (Nat.le_refl _) _
  clear hw4
  clear y3_0 y3_1 y3_2 y3_3 y3_4 y3_5 q3_0 q3_1 q3_2 q3_3
  obtain ⟨y4_0, y4_1, y4_2, y4_3, y4_4, y4_5⟩ := TM.six B4 (Below.refl _ _)
  obtain ⟨q4_0, q4_1, q4_2, q4_3⟩ := four V4 (Below.refl _ _)
  have zb4 := B4.lt
  have zv4 := V4.lt
  go_wp2_with fail
  (with_reducible refine (CW1 _ _ B4).mono ?_)
  rintro e w5 ⟨rfl, hw5⟩
  have B5 : Blk w5 w.heap.size 38 #[.int .i64 (v0 + 256 * v1), .int .i64 (c), .bool r, .bool a, .bool k, .bool i] := by rw [hw5]; exact B4.setRow _
  have V5 : Blk w5 (w.heap.size + 1) 75 #[.int .u8 v0, .int .u8 v1, .int .u8 v2, .int .u8 v3] := by rw [hw5]; exact V4.other (by omega) _
  have HB5 : Below w.heap.size w w5 := by rw [hw5]; exact below_setRow HB4 (Nat.le_refl _) _
  clear hw5
  clear y4_0 y4_1 y4_2 y4_3 y4_4 y4_5 q4_0 q4_1 q4_2 q4_3
  obtain ⟨y5_0, y5_1, y5_2, y5_3, y5_4, y5_5⟩ := TM.six B5 (Below.refl _ _)
  obtain ⟨q5_0, q5_1, q5_2, q5_3⟩ := four V5 (Below.refl _ _)
  have zb5 := B5.lt
  have zv5 := V5.lt
  go_wp2_with fail
  (with_reducible refine (CW2 _ _ B5).mono ?_)
  rintro e w6 ⟨rfl, hw6⟩
  have B6 : Blk w6 w.heap.size 38 #[.int .i64 (v0 + 256 * v1), .int .i64 (c), .bool false, .bool (v2 / 2 % 2 == 1), .bool (v2 / 4 % 2 == 1), .bool i] := by rw [hw6]; exact B5.setRow _
  have V6 : Blk w6 (w.heap.size + 1) 75 #[.int .u8 v0, .int .u8 v1, .int .u8 v2, .int .u8 v3] := by rw [hw6]; exact V5.other (by omega) _
  have HB6 : Below w.heap.size w w6 := by rw [hw6]; exact below_setRow HB5 (Nat.le_refl _) _
  clear hw6
  clear y5_0 y5_1 y5_2 y5_3 y5_4 y5_5 q5_0 q5_1 q5_2 q5_3
  obtain ⟨y6_0, y6_1, y6_2, y6_3, y6_4, y6_5⟩ := TM.six B6 (Below.refl _ _)
  obtain ⟨q6_0, q6_1, q6_2, q6_3⟩ := four V6 (Below.refl _ _)
  have zb6 := B6.lt
  have zv6 := V6.lt
  go_wp2_with fail
  (with_reducible refine (CR2 _ _ B6).mono ?_)
  rintro e w7 ⟨rfl, hb7⟩
  have B7 := B6.call hb7
  have V7 := V6.call hb7
  have HB7 : Below w.heap.size w w7 := Q.call HB6 hb7
  clear y6_0 y6_1 y6_2 y6_3 y6_4 y6_5 q6_0 q6_1 q6_2 q6_3
  obtain ⟨y7_0, y7_1, y7_2, y7_3, y7_4, y7_5⟩ := TM.six B7 (Below.refl _ _)
  obtain ⟨q7_0, q7_1, q7_2, q7_3⟩ := four V7 (Below.refl _ _)
  have zb7 := B7.lt
  have zv7 := V7.lt
  go_wp2_with fail
  (with_reducible refine (CR0 _ _ (B7.alloc _)).mono ?_)
  rintro e w9 ⟨rfl, hb9⟩
  have B9 := (B7.alloc _).call hb9
  have V9 := (V7.alloc _).call hb9
  have X9 : Blk w9 w7.heap.size 38 #[.int .i64 (v0 + 256 * v1), .int .i64 (c), .bool false, .bool (v2 / 2 % 2 == 1), .bool (v2 / 4 % 2 == 1), .bool i] := (Blk.new _ _ _).call hb9
  have HB9 : Below w.heap.size w w9 := Q.call (Q.alloc HB7 _) hb9
  clear y7_0 y7_1 y7_2 y7_3 y7_4 y7_5 q7_0 q7_1 q7_2 q7_3
  obtain ⟨y9_0, y9_1, y9_2, y9_3, y9_4, y9_5⟩ := TM.six B9 (Below.refl _ _)
  obtain ⟨q9_0, q9_1, q9_2, q9_3⟩ := four V9 (Below.refl _ _)
  have zb9 := B9.lt
  have zv9 := V9.lt
  obtain ⟨x9_0, x9_1, x9_2, x9_3, x9_4, x9_5⟩ := TM.six X9 (Below.refl _ _)
  go_wp2_with fail
  (with_reducible refine (CR1 _ _ B9).mono ?_)
  rintro e w10 ⟨rfl, hb10⟩
  have B10 := B9.call hb10
  have V10 := V9.call hb10
  have X10 := X9.call hb10
  have HB10 : Below w.heap.size w w10 := Q.call HB9 hb10
  clear y9_0 y9_1 y9_2 y9_3 y9_4 y9_5 q9_0 q9_1 q9_2 q9_3
  obtain ⟨y10_0, y10_1, y10_2, y10_3, y10_4, y10_5⟩ := TM.six B10 (Below.refl _ _)
  obtain ⟨q10_0, q10_1, q10_2, q10_3⟩ := four V10 (Below.refl _ _)
  have zb10 := B10.lt
  have zv10 := V10.lt
  clear x9_0 x9_1 x9_2 x9_3 x9_4 x9_5
  go_wp2_with fail
  (with_reducible refine (CW3 _ _ B10).mono ?_)
  rintro e w11 ⟨rfl, hw11⟩
  have B11 : Blk w11 w.heap.size 38 #[.int .i64 (v0 + 256 * v1), .int .i64 (c), .bool false, .bool (v2 / 2 % 2 == 1), .bool (v2 / 4 % 2 == 1), .bool false] := by rw [hw11]; exact B10.setRow _
  have V11 : Blk w11 (w.heap.size + 1) 75 #[.int .u8 v0, .int .u8 v1, .int .u8 v2, .int .u8 v3] := by rw [hw11]; exact V10.other (by omega) _
  have X11 : Blk w11 w7.heap.size 38 #[.int .i64 (v0 + 256 * v1), .int .i64 (c), .bool false, .bool (v2 / 2 % 2 == 1), .bool (v2 / 4 % 2 == 1), .bool i] := by rw [hw11]; exact X10.other (by omega) _
  have HB11 : Below w.heap.size w w11 := by rw [hw11]; exact below_setRow HB10 (Nat.le_refl _) _
  clear hw11
  clear y10_0 y10_1 y10_2 y10_3 y10_4 y10_5 q10_0 q10_1 q10_2 q10_3
  obtain ⟨y11_0, y11_1, y11_2, y11_3, y11_4, y11_5⟩ := TM.six B11 (Below.refl _ _)
  obtain ⟨q11_0, q11_1, q11_2, q11_3⟩ := four V11 (Below.refl _ _)
  have zb11 := B11.lt
  have zv11 := V11.lt
  go_wp2_with fail
  (with_reducible refine (CR3 _ _ B11).mono ?_)
  rintro e w12 ⟨rfl, hb12⟩
  have B12 := B11.call hb12
  have V12 := V11.call hb12
  have X12 := X11.call hb12
  have HB12 : Below w.heap.size w w12 := Q.call HB11 hb12
  clear y11_0 y11_1 y11_2 y11_3 y11_4 y11_5 q11_0 q11_1 q11_2 q11_3
  obtain ⟨y12_0, y12_1, y12_2, y12_3, y12_4, y12_5⟩ := TM.six B12 (Below.refl _ _)
  obtain ⟨q12_0, q12_1, q12_2, q12_3⟩ := four V12 (Below.refl _ _)
  have zb12 := B12.lt
  have zv12 := V12.lt
  obtain ⟨x12_0, x12_1, x12_2, x12_3, x12_4, x12_5⟩ := TM.six X12 (Below.refl _ _)
  have fx := X12.frozen 5
  go_wp2_with fail
  rw [X12.setCell]
  obtain ⟨w13, hw13⟩ : ∃ w13, w13 = w12.setRow w7.heap.size (Array.setIfInBounds #[.int .i64 (v0 + 256 * v1), .int .i64 (c), .bool false, .bool (v2 / 2 % 2 == 1), .bool (v2 / 4 % 2 == 1), .bool i] 5 (.bool false)) := ⟨_, rfl⟩
  rw [← hw13]
  have B13 : Blk w13 w.heap.size 38 #[.int .i64 (v0 + 256 * v1), .int .i64 (c), .bool false, .bool (v2 / 2 % 2 == 1), .bool (v2 / 4 % 2 == 1), .bool false] := by rw [hw13]; exact B12.other (by omega) _
  have HB13 : Below w.heap.size w w13 := by rw [hw13]; exact below_setRow HB12 (by omega) _
  clear hw13
  (with_reducible refine (CI _ _ B13).mono ?_)
  rintro e w14 ⟨rfl, rfl⟩
  go_wp2_with (go_at_call 21; (with_reducible refine (awake10_calls _).mono ?_); rintro e w15 ⟨rfl, hb15⟩)
  go_returns
  exact ⟨by simp, (by repeat' (first | with_reducible exact Below.refl _ _ | with_reducible assumption | with_reducible refine Q.alloc ?_ _ | with_reducible refine Q.drew ?_ | with_reducible refine Q.call ?_ (by assumption)))⟩

theorem timerBytes_walk (t : TM) (v0 v1 v2 v3 : Int) (h0 : 0 ≤ v0 ∧ v0 < 256) (h1 : 0 ≤ v1 ∧ v1 < 256) (h2 : 0 ≤ v2 ∧ v2 < 256) (h3 : 0 ≤ v3 ∧ v3 < 256) (w : World) :
    Calls Try.prog 12 #[.agg t.cells, .agg #[.int .u8 v0, .int .u8 v1, .int .u8 v2, .int .u8 v3]] w fun e w' => e = .returned (.bool true) ∧ Below w.heap.size w w' := by
  by_cases ht : t.ok
  · obtain ⟨l, c, r, a, k, i⟩ := t
    by_cases hc : v2 % 2 = 1
    · exact timerBytes_A l c r a k i v0 v1 v2 v3 ht h0 h1 h2 h3 hc w
    · exact timerBytes_B l c r a k i v0 v1 v2 v3 ht h0 h1 h2 h3 (by omega) w
  · exact timerBytes_bad t v0 v1 v2 v3 ht w
end Go.Proofs.Ytijlmdpcbclmaaa
/- The walk of the law TimerCalls. -/
import Derived.Test.YtijlmdpcbclmaaaTimer6
namespace Go.Proofs.Ytijlmdpcbclmaaa
set_option linter.unusedVariables false
set_option linter.unusedSimpArgs false
open Go.RowKit
attribute [local go_sem] setRow_alloc_past setRow_alloc_at

set_option maxHeartbeats 1600000 in
theorem timerCalls_bad (t : TM) (reg v : Int) (h : ¬ t.ok) (w : World) :
    Calls Try.prog 10 #[.agg t.cells, .int .i64 reg, .int .u8 v] w fun e w' => e = .returned (.bool true) ∧ Below w.heap.size w w' := by
  have C3 := fun w => may_calls t w
  rw [decide_eq_false h] at C3
  clear h
  obtain ⟨l, c, r, a, k, i⟩ := t
  simp only [TM.cells] at C3 ⊢
  go_enter Try.func10, Try.ntmps10
  go_wp2_with (first
      | (go_at_call 20; (with_reducible refine (plain_lit _ _ _ _ _ _ _).mono ?_); rintro e w2 ⟨rfl, hb2⟩; obtain ⟨hc2, hf2, hz2⟩ := bcell hb2; have z2_0 : w.heap.size < w2.heap.size := (by (try simp only [World.size_alloc, World.size_drew] at hz2); omega))
      | (go_at_call 19; (with_reducible refine (C3 _).mono ?_); rintro e w3 ⟨rfl, hb3⟩; obtain ⟨hc3, hf3, hz3⟩ := bcell hb3; have z3_0 : w.heap.size < w3.heap.size := (by (try simp only [World.size_alloc, World.size_drew] at hz3); omega); have z3_1 : w2.heap.size < w3.heap.size := (by (try simp only [World.size_alloc, World.size_drew] at hz3); omega))
      | (go_at_call 21; (with_reducible refine (awake10_calls _).mono ?_); rintro e w4 ⟨rfl, hb4⟩))
  go_returns
  exact ⟨rfl, (by repeat' (first | with_reducible exact Below.refl _ _ | with_reducible assumption | with_reducible refine Q.alloc ?_ _ | with_reducible refine Q.drew ?_ | with_reducible refine Q.call ?_ (by assumption)))⟩

set_option maxHeartbeats 3200000 in
theorem timerCalls_out (t : TM) (reg v : Int) (ht : t.ok) (hr : reg < 0 ∨ 3 < reg) (w : World) :
    Calls Try.prog 10 #[.agg t.cells, .int .i64 reg, .int .u8 v] w fun e w' => e = .returned (.bool true) ∧ Below w.heap.size w w' := by
  have HR := Lib.hid hr
  clear hr
  have HT := Lib.hid ht
  have C3 := fun w => may_lit t.latch t.count t.runs t.again t.asks t.rings ht w
  clear ht
  obtain ⟨l, c, r, a, k, i⟩ := t
  simp only at C3
  simp only [TM.cells]
  go_enter Try.func10, Try.ntmps10
  go_wp2_with (first
      | (go_at_call 20; (with_reducible refine (plain_lit _ _ _ _ _ _ _).mono ?_); rintro e w2 ⟨rfl, hb2⟩; obtain ⟨hc2, hf2, hz2⟩ := bcell hb2; have z2_0 : w.heap.size < w2.heap.size := (by (try simp only [World.size_alloc, World.size_drew] at hz2); omega))
      | (go_at_call 19; (with_reducible refine (C3 _).mono ?_); rintro e w3 ⟨rfl, hb3⟩; obtain ⟨hc3, hf3, hz3⟩ := bcell hb3; have z3_0 : w.heap.size < w3.heap.size := (by (try simp only [World.size_alloc, World.size_drew] at hz3); omega); have z3_1 : w2.heap.size < w3.heap.size := (by (try simp only [World.size_alloc, World.size_drew] at hz3); omega))
      | (go_at_call 36; (with_reducible refine (read_out _ _ HR.out _).mono ?_); rintro e w9 ⟨rfl, rfl⟩))
  have B0 : Blk w3 w.heap.size 38 #[.int .i64 l, .int .i64 c, .bool r, .bool a, .bool k, .bool i] := (by repeat' (first | with_reducible exact Blk.new _ _ _ | with_reducible assumption | with_reducible refine Blk.alloc ?_ _ | with_reducible refine Blk.drew ?_ | with_reducible refine Blk.call ?_ (by assumption)))
  have B1 : Blk w3 w2.heap.size 43 #[.int .i64 l, .int .i64 c, .bool r, .bool a, .bool k, .bool i] := (by repeat' (first | with_reducible exact Blk.new _ _ _ | with_reducible assumption | with_reducible refine Blk.alloc ?_ _ | with_reducible refine Blk.drew ?_ | with_reducible refine Blk.call ?_ (by assumption)))
  have HBW : Below w.heap.size w w3 := (by repeat' (first | with_reducible exact Below.refl _ _ | with_reducible assumption | with_reducible refine Q.alloc ?_ _ | with_reducible refine Q.drew ?_ | with_reducible refine Q.call ?_ (by assumption)))
  clear hb2 hb3 hc2 hc3 hf2 hf3
  have ST : ∀ w' : World, Below w3.heap.size w3 w' → ((fun w' : World => w'.cell? ⟨w.heap.size, 0, none⟩ = some (.int .i64 l) ∧ w'.cell? ⟨w.heap.size, 1, none⟩ = some (.int .i64 c) ∧ w'.cell? ⟨w.heap.size, 2, none⟩ = some (.bool r) ∧ w'.cell? ⟨w.heap.size, 3, none⟩ = some (.bool a) ∧ w'.cell? ⟨w.heap.size, 4, none⟩ = some (.bool k) ∧ w'.cell? ⟨w.heap.size, 5, none⟩ = some (.bool i) ∧ w'.cell? ⟨w2.heap.size, 0, none⟩ = some (.int .i64 l) ∧ w'.cell? ⟨w2.heap.size, 1, none⟩ = some (.int .i64 c) ∧ w'.cell? ⟨w2.heap.size, 2, none⟩ = some (.bool r) ∧ w'.cell? ⟨w2.heap.size, 3, none⟩ = some (.bool a) ∧ w'.cell? ⟨w2.heap.size, 4, none⟩ = some (.bool k) ∧ w'.cell? ⟨w2.heap.size, 5, none⟩ = some (.bool i) ∧ Below w3.heap.size w3 w') w') := by
    intro w' h
    obtain ⟨x0_0, x0_1, x0_2, x0_3, x0_4, x0_5⟩ := TM.six B0 h
    obtain ⟨x1_0, x1_1, x1_2, x1_3, x1_4, x1_5⟩ := TM.six B1 h
    exact ⟨x0_0, x0_1, x0_2, x0_3, x0_4, x0_5, x1_0, x1_1, x1_2, x1_3, x1_4, x1_5, h⟩
  go_region_held3 (fun w' : World => w'.cell? ⟨w.heap.size, 0, none⟩ = some (.int .i64 l) ∧ w'.cell? ⟨w.heap.size, 1, none⟩ = some (.int .i64 c) ∧ w'.cell? ⟨w.heap.size, 2, none⟩ = some (.bool r) ∧ w'.cell? ⟨w.heap.size, 3, none⟩ = some (.bool a) ∧ w'.cell? ⟨w.heap.size, 4, none⟩ = some (.bool k) ∧ w'.cell? ⟨w.heap.size, 5, none⟩ = some (.bool i) ∧ w'.cell? ⟨w2.heap.size, 0, none⟩ = some (.int .i64 l) ∧ w'.cell? ⟨w2.heap.size, 1, none⟩ = some (.int .i64 c) ∧ w'.cell? ⟨w2.heap.size, 2, none⟩ = some (.bool r) ∧ w'.cell? ⟨w2.heap.size, 3, none⟩ = some (.bool a) ∧ w'.cell? ⟨w2.heap.size, 4, none⟩ = some (.bool k) ∧ w'.cell? ⟨w2.heap.size, 5, none⟩ = some (.bool i) ∧ Below w3.heap.size w3 w') (exact ST _ (by repeat' (first | with_reducible exact Below.refl _ _ | with_reducible assumption | with_reducible refine Q.alloc ?_ _ | with_reducible refine Q.drew ?_ | with_reducible refine Q.call ?_ (by assumption)))) (first | (go_at_call 25; (with_reducible refine (irq_calls _ ⟨l, c, r, a, k, i⟩ _ (B0.call (by repeat' (first | with_reducible exact Below.refl _ _ | with_reducible assumption | with_reducible refine Q.alloc ?_ _ | with_reducible refine Q.drew ?_ | with_reducible refine Q.call ?_ (by assumption))))).mono ?_); rintro e w9 ⟨rfl, rfl⟩) | (go_at_call 37; (with_reducible refine (rirq_calls ⟨l, c, r, a, k, i⟩ _).mono ?_); rintro e w5 ⟨rfl, hb5⟩))
  have hb35 : Below w3.heap.size w3 w5 := (by repeat' (first | with_reducible exact Below.refl _ _ | with_reducible assumption | with_reducible refine Q.alloc ?_ _ | with_reducible refine Q.drew ?_ | with_reducible refine Q.call ?_ (by assumption)))
  have hr := HR.out
  rcases hr with hr | hr
  all_goals
    go_wp2
    have B2 := B0.call hb35
    have B3 := B1.call hb35
    have ST : ∀ w' : World, Below w5.heap.size w5 w' → ((fun w' : World => w'.cell? ⟨w.heap.size, 0, none⟩ = some (.int .i64 l) ∧ w'.cell? ⟨w.heap.size, 1, none⟩ = some (.int .i64 c) ∧ w'.cell? ⟨w.heap.size, 2, none⟩ = some (.bool r) ∧ w'.cell? ⟨w.heap.size, 3, none⟩ = some (.bool a) ∧ w'.cell? ⟨w.heap.size, 4, none⟩ = some (.bool k) ∧ w'.cell? ⟨w.heap.size, 5, none⟩ = some (.bool i) ∧ w'.cell? ⟨w2.heap.size, 0, none⟩ = some (.int .i64 l) ∧ w'.cell? ⟨w2.heap.size, 1, none⟩ = some (.int .i64 c) ∧ w'.cell? ⟨w2.heap.size, 2, none⟩ = some (.bool r) ∧ w'.cell? ⟨w2.heap.size, 3, none⟩ = some (.bool a) ∧ w'.cell? ⟨w2.heap.size, 4, none⟩ = some (.bool k) ∧ w'.cell? ⟨w2.heap.size, 5, none⟩ = some (.bool i) ∧ Below w5.heap.size w5 w') w') := by
      intro w' h
      obtain ⟨x0_0, x0_1, x0_2, x0_3, x0_4, x0_5⟩ := TM.six B2 h
      obtain ⟨x1_0, x1_1, x1_2, x1_3, x1_4, x1_5⟩ := TM.six B3 h
      exact ⟨x0_0, x0_1, x0_2, x0_3, x0_4, x0_5, x1_0, x1_1, x1_2, x1_3, x1_4, x1_5, h⟩
    go_region_held3 (fun w' : World => w'.cell? ⟨w.heap.size, 0, none⟩ = some (.int .i64 l) ∧ w'.cell? ⟨w.heap.size, 1, none⟩ = some (.int .i64 c) ∧ w'.cell? ⟨w.heap.size, 2, none⟩ = some (.bool r) ∧ w'.cell? ⟨w.heap.size, 3, none⟩ = some (.bool a) ∧ w'.cell? ⟨w.heap.size, 4, none⟩ = some (.bool k) ∧ w'.cell? ⟨w.heap.size, 5, none⟩ = some (.bool i) ∧ w'.cell? ⟨w2.heap.size, 0, none⟩ = some (.int .i64 l) ∧ w'.cell? ⟨w2.heap.size, 1, none⟩ = some (.int .i64 c) ∧ w'.cell? ⟨w2.heap.size, 2, none⟩ = some (.bool r) ∧ w'.cell? ⟨w2.heap.size, 3, none⟩ = some (.bool a) ∧ w'.cell? ⟨w2.heap.size, 4, none⟩ = some (.bool k) ∧ w'.cell? ⟨w2.heap.size, 5, none⟩ = some (.bool i) ∧ Below w5.heap.size w5 w') (exact ST _ (by repeat' (first | with_reducible exact Below.refl _ _ | with_reducible assumption | with_reducible refine Q.alloc ?_ _ | with_reducible refine Q.drew ?_ | with_reducible refine Q.call ?_ (by assumption)))) (first | (go_at_call 24; (with_reducible refine (write_out _ _ _ HR.out _).mono ?_); rintro e w9 ⟨rfl, rfl⟩) | (go_at_call 20; (with_reducible refine (plain_lit _ _ _ _ _ _ _).mono ?_); rintro e w6 ⟨rfl, hb6⟩) | (go_at_call 21; (with_reducible refine (awake10_calls _).mono ?_); rintro e w7 ⟨rfl, hb7⟩))
    go_wp2
    go_returns
    exact ⟨by simp, (by repeat' (first | with_reducible exact Below.refl _ _ | with_reducible assumption | with_reducible refine Q.alloc ?_ _ | with_reducible refine Q.drew ?_ | with_reducible refine Q.call ?_ (by assumption)))⟩

set_option maxHeartbeats 3200000 in
theorem timerCalls_in (t : TM) (reg v : Int) (ht : t.ok) (hr : 0 ≤ reg ∧ reg ≤ 3) (hv : 0 ≤ v ∧ v < 256) (w : World) :
    Calls Try.prog 10 #[.agg t.cells, .int .i64 reg, .int .u8 v] w fun e w' => e = .returned (.bool true) ∧ Below w.heap.size w w' := by
  have HR := Lib.hid hr
  have HV := Lib.hid hv
  obtain ⟨hr0, hr1⟩ := hr
  obtain ⟨hv0, hv1⟩ := hv
  have hrd : 0 ≤ t.read reg ∧ t.read reg ≤ 255 := TM.read_range ht HR.out
  have CR := fun g w hb => read_calls g t ht reg HR.out w hb
  have CRR := fun w => rread_calls t ht reg HR.out w
  generalize t.read reg = rd at hrd CR CRR
  obtain ⟨hrd0, hrd1⟩ := hrd
  have CW := fun g w hb => write_calls g t ht reg v HR.out HV.out w hb
  have CWR := fun w => rwrite_calls t ht reg v HR.out HV.out w
  have hwo := TM.write_ok ht (reg := reg) HV.out
  generalize t.write reg v = u at CW CWR hwo
  have CT := fun g w hb => tick_calls g u hwo w hb
  have CTR := fun w => rtick_calls u hwo w
  clear hwo
  generalize u.tick = x at CT CTR
  obtain ⟨ul, uc, ur, ua, uk, ui⟩ := u
  obtain ⟨xl, xc, xr, xa, xk, xi⟩ := x
  have HT := Lib.hid ht
  have C3 := fun w => may_lit t.latch t.count t.runs t.again t.asks t.rings ht w
  clear ht
  obtain ⟨l, c, r, a, k, i⟩ := t
  simp only at C3 CR CRR CW CWR CT CTR
  simp only [TM.cells]
  go_enter Try.func10, Try.ntmps10
  go_wp2_with (first
      | (go_at_call 20; (with_reducible refine (plain_lit _ _ _ _ _ _ _).mono ?_); rintro e w2 ⟨rfl, hb2⟩; obtain ⟨hc2, hf2, hz2⟩ := bcell hb2; have z2_0 : w.heap.size < w2.heap.size := (by (try simp only [World.size_alloc, World.size_drew] at hz2); omega))
      | (go_at_call 19; (with_reducible refine (C3 _).mono ?_); rintro e w3 ⟨rfl, hb3⟩; obtain ⟨hc3, hf3, hz3⟩ := bcell hb3; have z3_0 : w.heap.size < w3.heap.size := (by (try simp only [World.size_alloc, World.size_drew] at hz3); omega); have z3_1 : w2.heap.size < w3.heap.size := (by (try simp only [World.size_alloc, World.size_drew] at hz3); omega))
      | (go_at_call 36; (with_reducible refine (CR _ _ (by repeat' (first | with_reducible exact Blk.new _ _ _ | with_reducible assumption | with_reducible refine Blk.alloc ?_ _ | with_reducible refine Blk.drew ?_ | with_reducible refine Blk.call ?_ (by assumption)))).mono ?_); rintro e w4 ⟨rfl, hb4⟩; obtain ⟨hc4, hf4, hz4⟩ := bcell hb4))
  have B0 : Blk w4 w.heap.size 38 #[.int .i64 l, .int .i64 c, .bool r, .bool a, .bool k, .bool i] := (by repeat' (first | with_reducible exact Blk.new _ _ _ | with_reducible assumption | with_reducible refine Blk.alloc ?_ _ | with_reducible refine Blk.drew ?_ | with_reducible refine Blk.call ?_ (by assumption)))
  have B1 : Blk w4 w2.heap.size 43 #[.int .i64 l, .int .i64 c, .bool r, .bool a, .bool k, .bool i] := (by repeat' (first | with_reducible exact Blk.new _ _ _ | with_reducible assumption | with_reducible refine Blk.alloc ?_ _ | with_reducible refine Blk.drew ?_ | with_reducible refine Blk.call ?_ (by assumption)))
  have HBW : Below w.heap.size w w4 := (by repeat' (first | with_reducible exact Below.refl _ _ | with_reducible assumption | with_reducible refine Q.alloc ?_ _ | with_reducible refine Q.drew ?_ | with_reducible refine Q.call ?_ (by assumption)))
  clear hb2 hb3 hc2 hc3 hf2 hf3 hb4 hc4 hf4
  have ST : ∀ w' : World, Below w4.heap.size w4 w' → ((fun w' : World => w'.cell? ⟨w.heap.size, 0, none⟩ = some (.int .i64 l) ∧ w'.cell? ⟨w.heap.size, 1, none⟩ = some (.int .i64 c) ∧ w'.cell? ⟨w.heap.size, 2, none⟩ = some (.bool r) ∧ w'.cell? ⟨w.heap.size, 3, none⟩ = some (.bool a) ∧ w'.cell? ⟨w.heap.size, 4, none⟩ = some (.bool k) ∧ w'.cell? ⟨w.heap.size, 5, none⟩ = some (.bool i) ∧ w'.cell? ⟨w2.heap.size, 0, none⟩ = some (.int .i64 l) ∧ w'.cell? ⟨w2.heap.size, 1, none⟩ = some (.int .i64 c) ∧ w'.cell? ⟨w2.heap.size, 2, none⟩ = some (.bool r) ∧ w'.cell? ⟨w2.heap.size, 3, none⟩ = some (.bool a) ∧ w'.cell? ⟨w2.heap.size, 4, none⟩ = some (.bool k) ∧ w'.cell? ⟨w2.heap.size, 5, none⟩ = some (.bool i) ∧ Below w4.heap.size w4 w') w') := by
    intro w' h
    obtain ⟨x0_0, x0_1, x0_2, x0_3, x0_4, x0_5⟩ := TM.six B0 h
    obtain ⟨x1_0, x1_1, x1_2, x1_3, x1_4, x1_5⟩ := TM.six B1 h
    exact ⟨x0_0, x0_1, x0_2, x0_3, x0_4, x0_5, x1_0, x1_1, x1_2, x1_3, x1_4, x1_5, h⟩
  go_region_held3 (fun w' : World => w'.cell? ⟨w.heap.size, 0, none⟩ = some (.int .i64 l) ∧ w'.cell? ⟨w.heap.size, 1, none⟩ = some (.int .i64 c) ∧ w'.cell? ⟨w.heap.size, 2, none⟩ = some (.bool r) ∧ w'.cell? ⟨w.heap.size, 3, none⟩ = some (.bool a) ∧ w'.cell? ⟨w.heap.size, 4, none⟩ = some (.bool k) ∧ w'.cell? ⟨w.heap.size, 5, none⟩ = some (.bool i) ∧ w'.cell? ⟨w2.heap.size, 0, none⟩ = some (.int .i64 l) ∧ w'.cell? ⟨w2.heap.size, 1, none⟩ = some (.int .i64 c) ∧ w'.cell? ⟨w2.heap.size, 2, none⟩ = some (.bool r) ∧ w'.cell? ⟨w2.heap.size, 3, none⟩ = some (.bool a) ∧ w'.cell? ⟨w2.heap.size, 4, none⟩ = some (.bool k) ∧ w'.cell? ⟨w2.heap.size, 5, none⟩ = some (.bool i) ∧ Below w4.heap.size w4 w') (exact ST _ (by repeat' (first | with_reducible exact Below.refl _ _ | with_reducible assumption | with_reducible refine Q.alloc ?_ _ | with_reducible refine Q.drew ?_ | with_reducible refine Q.call ?_ (by assumption)))) (first | (go_at_call 25; (with_reducible refine (irq_calls _ ⟨l, c, r, a, k, i⟩ _ (B0.call (by repeat' (first | with_reducible exact Below.refl _ _ | with_reducible assumption | with_reducible refine Q.alloc ?_ _ | with_reducible refine Q.drew ?_ | with_reducible refine Q.call ?_ (by assumption))))).mono ?_); rintro e w9 ⟨rfl, rfl⟩) | (go_at_call 37; (with_reducible refine (rirq_calls ⟨l, c, r, a, k, i⟩ _).mono ?_); rintro e w5 ⟨rfl, hb5⟩))
  have hb35 : Below w4.heap.size w4 w5 := (by repeat' (first | with_reducible exact Below.refl _ _ | with_reducible assumption | with_reducible refine Q.alloc ?_ _ | with_reducible refine Q.drew ?_ | with_reducible refine Q.call ?_ (by assumption)))
  go_wp2
  have B2 := B0.call hb35
  have B3 := B1.call hb35
  have hcv : IntKind.i64.wrap rd = rd := IntWalk.i64_in _ (by omega)
  have ST : ∀ w' : World, Below w5.heap.size w5 w' → ((fun w' : World => w'.cell? ⟨w.heap.size, 0, none⟩ = some (.int .i64 l) ∧ w'.cell? ⟨w.heap.size, 1, none⟩ = some (.int .i64 c) ∧ w'.cell? ⟨w.heap.size, 2, none⟩ = some (.bool r) ∧ w'.cell? ⟨w.heap.size, 3, none⟩ = some (.bool a) ∧ w'.cell? ⟨w.heap.size, 4, none⟩ = some (.bool k) ∧ w'.cell? ⟨w.heap.size, 5, none⟩ = some (.bool i) ∧ w'.cell? ⟨w2.heap.size, 0, none⟩ = some (.int .i64 l) ∧ w'.cell? ⟨w2.heap.size, 1, none⟩ = some (.int .i64 c) ∧ w'.cell? ⟨w2.heap.size, 2, none⟩ = some (.bool r) ∧ w'.cell? ⟨w2.heap.size, 3, none⟩ = some (.bool a) ∧ w'.cell? ⟨w2.heap.size, 4, none⟩ = some (.bool k) ∧ w'.cell? ⟨w2.heap.size, 5, none⟩ = some (.bool i) ∧ Below w5.heap.size w5 w') w') := by
    intro w' h
    obtain ⟨x0_0, x0_1, x0_2, x0_3, x0_4, x0_5⟩ := TM.six B2 h
    obtain ⟨x1_0, x1_1, x1_2, x1_3, x1_4, x1_5⟩ := TM.six B3 h
    exact ⟨x0_0, x0_1, x0_2, x0_3, x0_4, x0_5, x1_0, x1_1, x1_2, x1_3, x1_4, x1_5, h⟩
  go_region_held3 (fun w' : World => w'.cell? ⟨w.heap.size, 0, none⟩ = some (.int .i64 l) ∧ w'.cell? ⟨w.heap.size, 1, none⟩ = some (.int .i64 c) ∧ w'.cell? ⟨w.heap.size, 2, none⟩ = some (.bool r) ∧ w'.cell? ⟨w.heap.size, 3, none⟩ = some (.bool a) ∧ w'.cell? ⟨w.heap.size, 4, none⟩ = some (.bool k) ∧ w'.cell? ⟨w.heap.size, 5, none⟩ = some (.bool i) ∧ w'.cell? ⟨w2.heap.size, 0, none⟩ = some (.int .i64 l) ∧ w'.cell? ⟨w2.heap.size, 1, none⟩ = some (.int .i64 c) ∧ w'.cell? ⟨w2.heap.size, 2, none⟩ = some (.bool r) ∧ w'.cell? ⟨w2.heap.size, 3, none⟩ = some (.bool a) ∧ w'.cell? ⟨w2.heap.size, 4, none⟩ = some (.bool k) ∧ w'.cell? ⟨w2.heap.size, 5, none⟩ = some (.bool i) ∧ Below w5.heap.size w5 w') (exact ST _ (by repeat' (first | with_reducible exact Below.refl _ _ | with_reducible assumption | with_reducible refine Q.alloc ?_ _ | with_reducible refine Q.drew ?_ | with_reducible refine Q.call ?_ (by assumption)))) (first | (go_at_call 20; (with_reducible refine (plain_lit _ _ _ _ _ _ _).mono ?_); rintro e w6 ⟨rfl, hb6⟩) | (go_at_call 38; (with_reducible refine (CRR _).mono ?_); rintro e w7 ⟨rfl, hb7⟩))
  clear hcv
  have hb56 : Below w5.heap.size w5 w6 := (by repeat' (first | with_reducible exact Below.refl _ _ | with_reducible assumption | with_reducible refine Q.alloc ?_ _ | with_reducible refine Q.drew ?_ | with_reducible refine Q.call ?_ (by assumption)))
  have B4 := B2.call hb56
  have B5 := B3.call hb56
  have HBW6 : Below w.heap.size w w6 := (by repeat' (first | with_reducible exact Below.refl _ _ | with_reducible assumption | with_reducible refine Q.alloc ?_ _ | with_reducible refine Q.drew ?_ | with_reducible refine Q.call ?_ (by assumption)))
  go_wp2_with fail
  (with_reducible refine (CW _ _ B4).mono ?_)
  rintro e w8 ⟨rfl, hw8⟩
  have B8 : Blk w8 w.heap.size 38 #[.int .i64 ul, .int .i64 uc, .bool ur, .bool ua, .bool uk, .bool ui] := by rw [hw8]; exact B4.setRow _
  have X8 : Blk w8 w2.heap.size 43 #[.int .i64 l, .int .i64 c, .bool r, .bool a, .bool k, .bool i] := by rw [hw8]; exact B5.other (by omega) _
  have HB8 : Below w.heap.size w w8 := by rw [hw8]; exact below_setRow HBW6 (Nat.le_refl _) _
  clear hw8 B0 B1 B2 B3 B4 B5
  obtain ⟨y0, y1, y2, y3, y4, y5⟩ := TM.six B8 (Below.refl _ _)
  obtain ⟨q0, q1, q2, q3, q4, q5⟩ := TM.six X8 (Below.refl _ _)
  obtain ⟨-, -, -, -, -, -, g0, g1, g2, g3, g4, g5⟩ := TM.at_ (t := ⟨l, c, r, a, k, i⟩) X8
  have zt8 := B8.lt
  have zx8 := X8.lt
  go_wp2_with (first
      | (go_at_call 39; (with_reducible refine (CWR _).mono ?_); rintro e w10 ⟨rfl, hb10⟩; obtain ⟨hc10, hf10, hz10⟩ := bcell hb10))
  have X10 := X8.call hb10
  have B10 := B8.call hb10
  have HB10 : Below w.heap.size w w10 := (by repeat' (first | with_reducible exact Below.refl _ _ | with_reducible assumption | with_reducible refine Q.alloc ?_ _ | with_reducible refine Q.drew ?_ | with_reducible refine Q.call ?_ (by assumption)))
  rw [Blk.set6 (t := ⟨l, c, r, a, k, i⟩) X10]
  obtain ⟨w11, hw11⟩ : ∃ w11, w11 = w10.setRow w2.heap.size #[.int .i64 ul, .int .i64 uc, .bool ur, .bool ua, .bool uk, .bool ui] := ⟨_, rfl⟩
  rw [← hw11]
  have B11 : Blk w11 w.heap.size 38 #[.int .i64 ul, .int .i64 uc, .bool ur, .bool ua, .bool uk, .bool ui] := by rw [hw11]; exact B10.other (by omega) _
  have X11 : Blk w11 w2.heap.size 43 #[.int .i64 ul, .int .i64 uc, .bool ur, .bool ua, .bool uk, .bool ui] := by rw [hw11]; exact X10.setRow _
  have HB11 : Below w.heap.size w w11 := by rw [hw11]; exact below_setRow HB10 (by omega) _
  clear hw11 X10 B10 y0 y1 y2 y3 y4 y5 q0 q1 q2 q3 q4 q5 g0 g1 g2 g3 g4 g5 hc10 hf10 B8 X8
  have ST : ∀ w' : World, Below w11.heap.size w11 w' → ((fun w' : World => w'.cell? ⟨w.heap.size, 0, none⟩ = some (.int .i64 ul) ∧ w'.cell? ⟨w.heap.size, 1, none⟩ = some (.int .i64 uc) ∧ w'.cell? ⟨w.heap.size, 2, none⟩ = some (.bool ur) ∧ w'.cell? ⟨w.heap.size, 3, none⟩ = some (.bool ua) ∧ w'.cell? ⟨w.heap.size, 4, none⟩ = some (.bool uk) ∧ w'.cell? ⟨w.heap.size, 5, none⟩ = some (.bool ui) ∧ w'.cell? ⟨w2.heap.size, 0, none⟩ = some (.int .i64 ul) ∧ w'.cell? ⟨w2.heap.size, 1, none⟩ = some (.int .i64 uc) ∧ w'.cell? ⟨w2.heap.size, 2, none⟩ = some (.bool ur) ∧ w'.cell? ⟨w2.heap.size, 3, none⟩ = some (.bool ua) ∧ w'.cell? ⟨w2.heap.size, 4, none⟩ = some (.bool uk) ∧ w'.cell? ⟨w2.heap.size, 5, none⟩ = some (.bool ui) ∧ Below w11.heap.size w11 w') w') := by
    intro w' h
    obtain ⟨x0_0, x0_1, x0_2, x0_3, x0_4, x0_5⟩ := TM.six B11 h
    obtain ⟨x1_0, x1_1, x1_2, x1_3, x1_4, x1_5⟩ := TM.six X11 h
    exact ⟨x0_0, x0_1, x0_2, x0_3, x0_4, x0_5, x1_0, x1_1, x1_2, x1_3, x1_4, x1_5, h⟩
  go_region_held3 (fun w' : World => w'.cell? ⟨w.heap.size, 0, none⟩ = some (.int .i64 ul) ∧ w'.cell? ⟨w.heap.size, 1, none⟩ = some (.int .i64 uc) ∧ w'.cell? ⟨w.heap.size, 2, none⟩ = some (.bool ur) ∧ w'.cell? ⟨w.heap.size, 3, none⟩ = some (.bool ua) ∧ w'.cell? ⟨w.heap.size, 4, none⟩ = some (.bool uk) ∧ w'.cell? ⟨w.heap.size, 5, none⟩ = some (.bool ui) ∧ w'.cell? ⟨w2.heap.size, 0, none⟩ = some (.int .i64 ul) ∧ w'.cell? ⟨w2.heap.size, 1, none⟩ = some (.int .i64 uc) ∧ w'.cell? ⟨w2.heap.size, 2, none⟩ = some (.bool ur) ∧ w'.cell? ⟨w2.heap.size, 3, none⟩ = some (.bool ua) ∧ w'.cell? ⟨w2.heap.size, 4, none⟩ = some (.bool uk) ∧ w'.cell? ⟨w2.heap.size, 5, none⟩ = some (.bool ui) ∧ Below w11.heap.size w11 w') (exact ST _ (by repeat' (first | with_reducible exact Below.refl _ _ | with_reducible assumption | with_reducible refine Q.alloc ?_ _ | with_reducible refine Q.drew ?_ | with_reducible refine Q.call ?_ (by assumption)))) (first | (go_at_call 20; (with_reducible refine (plain_lit _ _ _ _ _ _ _).mono ?_); rintro e w12 ⟨rfl, hb12⟩))
  have hb12' : Below w11.heap.size w11 w12 := (by repeat' (first | with_reducible exact Below.refl _ _ | with_reducible assumption | with_reducible refine Q.alloc ?_ _ | with_reducible refine Q.drew ?_ | with_reducible refine Q.call ?_ (by assumption)))
  have B12 := B11.call hb12'
  have X12 := X11.call hb12'
  have HB12 : Below w.heap.size w w12 := (by repeat' (first | with_reducible exact Below.refl _ _ | with_reducible assumption | with_reducible refine Q.alloc ?_ _ | with_reducible refine Q.drew ?_ | with_reducible refine Q.call ?_ (by assumption)))
  go_wp2_with fail
  (with_reducible refine (CT _ _ B12).mono ?_)
  rintro e w13 ⟨rfl, hw13⟩
  have B13 : Blk w13 w.heap.size 38 #[.int .i64 xl, .int .i64 xc, .bool xr, .bool xa, .bool xk, .bool xi] := by rw [hw13]; exact B12.setRow _
  have X13 : Blk w13 w2.heap.size 43 #[.int .i64 ul, .int .i64 uc, .bool ur, .bool ua, .bool uk, .bool ui] := by rw [hw13]; exact X12.other (by omega) _
  have HB13 : Below w.heap.size w w13 := by rw [hw13]; exact below_setRow HB12 (Nat.le_refl _) _
  clear hw13 B12 X12 B11 X11
  go_wp2_with fail
  have ST : ∀ w' : World, Below w13.heap.size w13 w' → ((fun w' : World => w'.cell? ⟨w.heap.size, 0, none⟩ = some (.int .i64 xl) ∧ w'.cell? ⟨w.heap.size, 1, none⟩ = some (.int .i64 xc) ∧ w'.cell? ⟨w.heap.size, 2, none⟩ = some (.bool xr) ∧ w'.cell? ⟨w.heap.size, 3, none⟩ = some (.bool xa) ∧ w'.cell? ⟨w.heap.size, 4, none⟩ = some (.bool xk) ∧ w'.cell? ⟨w.heap.size, 5, none⟩ = some (.bool xi) ∧ w'.cell? ⟨w2.heap.size, 0, none⟩ = some (.int .i64 ul) ∧ w'.cell? ⟨w2.heap.size, 1, none⟩ = some (.int .i64 uc) ∧ w'.cell? ⟨w2.heap.size, 2, none⟩ = some (.bool ur) ∧ w'.cell? ⟨w2.heap.size, 3, none⟩ = some (.bool ua) ∧ w'.cell? ⟨w2.heap.size, 4, none⟩ = some (.bool uk) ∧ w'.cell? ⟨w2.heap.size, 5, none⟩ = some (.bool ui) ∧ Below w13.heap.size w13 w') w') := by
    intro w' h
    obtain ⟨x0_0, x0_1, x0_2, x0_3, x0_4, x0_5⟩ := TM.six B13 h
    obtain ⟨x1_0, x1_1, x1_2, x1_3, x1_4, x1_5⟩ := TM.six X13 h
    exact ⟨x0_0, x0_1, x0_2, x0_3, x0_4, x0_5, x1_0, x1_1, x1_2, x1_3, x1_4, x1_5, h⟩
  go_region_held3 (fun w' : World => w'.cell? ⟨w.heap.size, 0, none⟩ = some (.int .i64 xl) ∧ w'.cell? ⟨w.heap.size, 1, none⟩ = some (.int .i64 xc) ∧ w'.cell? ⟨w.heap.size, 2, none⟩ = some (.bool xr) ∧ w'.cell? ⟨w.heap.size, 3, none⟩ = some (.bool xa) ∧ w'.cell? ⟨w.heap.size, 4, none⟩ = some (.bool xk) ∧ w'.cell? ⟨w.heap.size, 5, none⟩ = some (.bool xi) ∧ w'.cell? ⟨w2.heap.size, 0, none⟩ = some (.int .i64 ul) ∧ w'.cell? ⟨w2.heap.size, 1, none⟩ = some (.int .i64 uc) ∧ w'.cell? ⟨w2.heap.size, 2, none⟩ = some (.bool ur) ∧ w'.cell? ⟨w2.heap.size, 3, none⟩ = some (.bool ua) ∧ w'.cell? ⟨w2.heap.size, 4, none⟩ = some (.bool uk) ∧ w'.cell? ⟨w2.heap.size, 5, none⟩ = some (.bool ui) ∧ Below w13.heap.size w13 w') (exact ST _ (by repeat' (first | with_reducible exact Below.refl _ _ | with_reducible assumption | with_reducible refine Q.alloc ?_ _ | with_reducible refine Q.drew ?_ | with_reducible refine Q.call ?_ (by assumption)))) (first | (go_at_call 20; (with_reducible refine (plain_lit _ _ _ _ _ _ _).mono ?_); rintro e w14 ⟨rfl, hb14⟩) | (go_at_call 40; (with_reducible refine (CTR _).mono ?_); rintro e w15 ⟨rfl, hb15⟩) | (go_at_call 21; (with_reducible refine (awake10_calls _).mono ?_); rintro e w16 ⟨rfl, hb16⟩))
  go_wp2
  go_returns
  exact ⟨by simp, (by repeat' (first | with_reducible exact Below.refl _ _ | with_reducible assumption | with_reducible refine Q.alloc ?_ _ | with_reducible refine Q.drew ?_ | with_reducible refine Q.call ?_ (by assumption)))⟩

theorem timerCalls_walk (t : TM) (reg v : Int) (hv : 0 ≤ v ∧ v < 256) (w : World) :
    Calls Try.prog 10 #[.agg t.cells, .int .i64 reg, .int .u8 v] w fun e w' => e = .returned (.bool true) ∧ Below w.heap.size w w' := by
  by_cases ht : t.ok
  · by_cases hr : 0 ≤ reg ∧ reg ≤ 3
    · exact timerCalls_in t reg v ht hr hv w
    · exact timerCalls_out t reg v ht (by omega) w
  · exact timerCalls_bad t reg v ht w
end Go.Proofs.Ytijlmdpcbclmaaa

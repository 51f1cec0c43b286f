/- The walks of the laws TimerRings and TimerBytes. -/
import Derived.Test.YtijlmdpcbclmaaaTimer5
namespace Go.Proofs.Ytijlmdpcbclmaaa
set_option linter.unusedVariables false
set_option linter.unusedSimpArgs false
open Go.RowKit
attribute [local go_sem] setRow_alloc_past setRow_alloc_at

/-- One that was just begun, after a whole round: it has rung. -/
theorem TM.first_round (l : Int) (h0 : 0 ≤ l) (a : Bool) : (TM.mk l l true a true false).aft (l.toNat + 1) = ⟨l, if a = true then l else 0, a, a, true, true⟩ := by
  rw [TM.aft_gt rfl h0 _ (by simp only; omega)]
  simp only
  rw [show l.toNat + 1 - l.toNat - 1 = 0 by omega]
  cases a <;> simp [TM.aft, TM.tick]
theorem TM.before_round (l : Int) (h0 : 0 ≤ l) (a i : Bool) : (TM.mk l l true a true i).aft l.toNat = ⟨l, 0, true, a, true, i⟩ := by
  rw [TM.aft_le rfl _ (by simp only; omega)]
  simp only [TM.mk.injEq, true_and, and_true]
  omega
theorem TM.rings_again (l : Int) (h0 : 0 ≤ l) (k : Nat) : (TM.mk l l true true true false).aft ((l.toNat + 1) * (k + 1)) = ⟨l, l, true, true, true, true⟩ := by
  rw [Nat.mul_succ, Nat.add_comm, TM.aft_add, TM.first_round l h0]
  have h := TM.aft_rounds (t := ⟨l, l, true, true, true, true⟩) rfl rfl rfl rfl h0 k 0
  simp only [Nat.add_zero, TM.aft] at h
  simp only [if_true]
  rw [Nat.mul_comm]
  exact h
theorem TM.before_again (l : Int) (h0 : 0 ≤ l) (k : Nat) : (TM.mk l l true true true false).aft ((l.toNat + 1) * (k + 1) - 1) = ⟨l, 0, true, true, true, decide (0 < k)⟩ := by
  cases k with
  | zero =>
    rw [show (l.toNat + 1) * (0 + 1) - 1 = l.toNat by omega, TM.before_round l h0]
    rfl
  | succ k =>
    rw [show (l.toNat + 1) * (k + 1 + 1) - 1 = (l.toNat + 1) * (k + 1) + l.toNat by rw [Nat.mul_succ (l.toNat + 1) (k + 1)]; omega, TM.aft_add, TM.rings_again l h0, TM.before_round l h0]
    simp
theorem TM.rings_once (l : Int) (h0 : 0 ≤ l) (n : Nat) (h : l.toNat + 1 ≤ n) : (TM.mk l l true false true false).aft n = ⟨l, 0, false, false, true, true⟩ := by
  rw [show n = (l.toNat + 1) + (n - (l.toNat + 1)) by omega, TM.aft_add, TM.first_round l h0]
  simp only [Bool.false_eq_true, if_false]
  exact TM.aft_stop rfl _
theorem TM.before_once (l : Int) (h0 : 0 ≤ l) (k : Nat) : ((TM.mk l l true false true false).aft ((l.toNat + 1) * (k + 1) - 1)).rings = decide (0 < k) ∧ ((TM.mk l l true false true false).aft ((l.toNat + 1) * (k + 1) - 1)).asks = true := by
  cases k with
  | zero =>
    rw [show (l.toNat + 1) * (0 + 1) - 1 = l.toNat by omega, TM.before_round l h0]
    exact ⟨rfl, rfl⟩
  | succ k =>
    have : l.toNat + 1 ≤ (l.toNat + 1) * (k + 1) := Nat.le_mul_of_pos_right _ (by omega)
    rw [TM.rings_once l h0 _ (by rw [Nat.mul_succ (l.toNat + 1) (k + 1)]; omega)]
    simp

set_option maxHeartbeats 1600000 in
theorem timerRings_bad (l k : Int) (again : Bool) (h : l < 0 ∨ (0 ≤ l ∧ 65535 < l) ∨ (0 ≤ l ∧ l ≤ 65535 ∧ k < 1) ∨ (0 ≤ l ∧ l ≤ 65535 ∧ 1 ≤ k ∧ 1000 < k)) (w : World) :
    Calls Try.prog 7 #[.int .i64 l, .int .i64 k, .bool again] w fun e w' => e = .returned (.bool true) ∧ Below w.heap.size w w' := by
  rcases h with h | ⟨h, h1⟩ | ⟨h, h1, h2⟩ | ⟨h, h1, h2, h3⟩
  all_goals
    go_enter Try.func7, Try.ntmps7
    go_wp2_with (go_at_call 21; (with_reducible refine (awake10_calls _).mono ?_); rintro e w4 ⟨rfl, hb4⟩)
    go_returns
    exact ⟨rfl, (by repeat' (first | with_reducible exact Below.refl _ _ | with_reducible assumption | with_reducible refine Q.alloc ?_ _ | with_reducible refine Q.drew ?_ | with_reducible refine Q.call ?_ (by assumption)))⟩

set_option maxHeartbeats 3200000 in
theorem timerRings_ok (l : Int) (k : Nat) (again : Bool) (h0 : 0 ≤ l) (h1 : l ≤ 65535) (hk : k < 1000) (w : World) :
    Calls Try.prog 7 #[.int .i64 l, .int .i64 ((k : Int) + 1), .bool again] w fun e w' => e = .returned (.bool true) ∧ Below w.heap.size w w' := by
  have C1 := fun g w hb => write_calls g TM.zero (by decide) 0 (l % 256) (by omega) (by omega) w hb
  have C2 := fun g w hb => write_calls g ⟨l % 256, 0, false, false, false, false⟩ ⟨by simp only; omega, by simp only; omega, by simp, by simp⟩ 1 (l / 256) (by omega) (by omega) w hb
  have C3 := fun g w hb => write_calls g ⟨l, 0, false, false, false, false⟩ ⟨h0, h1, by simp, by simp⟩ 2 (if again then 7 else 5) (by omega) (by cases again <;> simp) w hb
  have e1 : TM.write TM.zero 0 (l % 256) = ⟨l % 256, 0, false, false, false, false⟩ := by simp [TM.write, TM.zero]
  have e2 : TM.write ⟨l % 256, 0, false, false, false, false⟩ 1 (l / 256) = ⟨l, 0, false, false, false, false⟩ := by
    simp only [TM.write, Int.reduceEq, if_false, if_true, TM.mk.injEq, and_true]; omega
  have e3 : TM.write ⟨l, 0, false, false, false, false⟩ 2 (if again then 7 else 5) = ⟨l, l, true, again, true, false⟩ := by cases again <;> simp [TM.write]
  rw [e1] at C1
  rw [e2] at C2
  rw [e3] at C3
  simp only [TM.zero] at C1
  have hN : ((l + 1) * ((k : Int) + 1)) = (((l.toNat + 1) * (k + 1) : Nat) : Int) := by
    rw [Int.natCast_mul, Int.natCast_add, Int.natCast_add, Int.toNat_of_nonneg h0]; rfl
  have hN1 : (l.toNat + 1) * (k + 1) ≤ 65536 * 1000 := Nat.mul_le_mul (by omega) (by omega)
  have hN0 : 1 ≤ (l.toNat + 1) * (k + 1) := Nat.mul_pos (by omega) (by omega)
  clear e1 e2 e3
  have hok : (TM.mk l l true again true false).ok := ⟨h0, h1, h0, h1⟩
  obtain ⟨kb, hkb⟩ : ∃ kb, kb = decide (0 < k) := ⟨_, rfl⟩
  have hkk : (kb = true ∧ 1 < (k : Int) + 1) ∨ (kb = false ∧ (k : Int) + 1 ≤ 1) := by
    by_cases h : 0 < k
    · exact .inl ⟨by simp [hkb, h], by omega⟩
    · exact .inr ⟨by simp [hkb, h], by omega⟩
  cases again
  · have hw := TM.rings_once l h0 ((l.toNat + 1) * (k + 1)) (Nat.le_mul_of_pos_right _ (by omega))
    have hu := TM.before_once l h0 k
    rw [← hkb] at hu
    clear hkb
    generalize (l.toNat + 1) * (k + 1) = N at hN hN1 hN0 hw hu
    have A1 := fun w => after_int _ hok ((N : Int) - 1) (by omega) (by omega) w
    have A2 := fun w => after_int _ hok (N : Int) (by omega) (by omega) w
    rw [show ((N : Int) - 1).toNat = N - 1 by omega] at A1
    rw [show ((N : Int)).toNat = N by omega, hw] at A2
    generalize (TM.mk l l true false true false).aft (N - 1) = u at A1 hu
    obtain ⟨ul, uc, ur, ua, uk, ui⟩ := u
    simp only at hu A1 A2
    obtain ⟨rfl, rfl⟩ := hu
    clear hw
    simp only [Bool.false_eq_true, if_false] at C3
    rcases hkk with ⟨rfl, hkk⟩ | ⟨rfl, hkk⟩
    all_goals
      go_enter Try.func7, Try.ntmps7
      go_wp2_with (first
        | (go_at_call 24; (with_reducible refine (C1 _ _ (Blk.new _ _ _)).mono ?_); rintro e w1 ⟨rfl, rfl⟩)
        | (go_at_call 24; (with_reducible refine (C2 _ _ (Blk.new _ _ _)).mono ?_); rintro e w1 ⟨rfl, rfl⟩)
        | (go_at_call 24; (with_reducible refine (C3 _ _ (Blk.new _ _ _)).mono ?_); rintro e w1 ⟨rfl, rfl⟩)
        | (go_at_call 18; (with_reducible refine (A1 _).mono ?_); rintro e w2 ⟨rfl, hb2⟩; obtain ⟨hc2, hf2, hz2⟩ := bcell hb2; have z2_0 : w.heap.size < w2.heap.size := (by (try simp only [World.size_alloc, World.size_drew] at hz2); omega))
        | (go_at_call 18; (with_reducible refine (A2 _).mono ?_); rintro e w3 ⟨rfl, hb3⟩; obtain ⟨hc3, hf3, hz3⟩ := bcell hb3; have z3_0 : w.heap.size < w3.heap.size := (by (try simp only [World.size_alloc, World.size_drew] at hz3); omega); have z3_1 : w2.heap.size < w3.heap.size := (by (try simp only [World.size_alloc, World.size_drew] at hz3); omega))
        | (go_at_call 25; (with_reducible refine (irq_calls w3.heap.size ⟨l, 0, false, false, true, true⟩ _ (by repeat' (first | with_reducible exact Blk.new _ _ _ | with_reducible assumption | with_reducible refine Blk.alloc ?_ _ | with_reducible refine Blk.drew ?_ | with_reducible refine Blk.call ?_ (by assumption)))).mono ?_); rintro e w9 ⟨rfl, rfl⟩)
        | (go_at_call 25; (with_reducible refine (irq_calls w2.heap.size ⟨ul, uc, ur, ua, true, _⟩ _ (by repeat' (first | with_reducible exact Blk.new _ _ _ | with_reducible assumption | with_reducible refine Blk.alloc ?_ _ | with_reducible refine Blk.drew ?_ | with_reducible refine Blk.call ?_ (by assumption)))).mono ?_); rintro e w9 ⟨rfl, rfl⟩)
        | (go_at_call 21; (with_reducible refine (awake10_calls _).mono ?_); rintro e w4 ⟨rfl, hb4⟩))
      go_returns
      exact ⟨(by first | rfl | (simp; done) | (simp; omega)), (by repeat' (first | with_reducible exact Below.refl _ _ | with_reducible assumption | with_reducible refine Q.alloc ?_ _ | with_reducible refine Q.drew ?_ | with_reducible refine Q.call ?_ (by assumption)))⟩
  · have hw := TM.rings_again l h0 k
    have hu := TM.before_again l h0 k
    rw [← hkb] at hu
    clear hkb
    generalize (l.toNat + 1) * (k + 1) = N at hN hN1 hN0 hw hu
    have A1 := fun w => after_int _ hok ((N : Int) - 1) (by omega) (by omega) w
    have A2 := fun w => after_int _ hok (N : Int) (by omega) (by omega) w
    rw [show ((N : Int) - 1).toNat = N - 1 by omega, hu] at A1
    rw [show ((N : Int)).toNat = N by omega, hw] at A2
    clear hw hu
    try simp only [↓reduceIte] at C3
    rcases hkk with ⟨rfl, hkk⟩ | ⟨rfl, hkk⟩
    all_goals
      go_enter Try.func7, Try.ntmps7
      go_wp2_with (first
        | (go_at_call 24; (with_reducible refine (C1 _ _ (Blk.new _ _ _)).mono ?_); rintro e w1 ⟨rfl, rfl⟩)
        | (go_at_call 24; (with_reducible refine (C2 _ _ (Blk.new _ _ _)).mono ?_); rintro e w1 ⟨rfl, rfl⟩)
        | (go_at_call 24; (with_reducible refine (C3 _ _ (Blk.new _ _ _)).mono ?_); rintro e w1 ⟨rfl, rfl⟩)
        | (go_at_call 18; (with_reducible refine (A1 _).mono ?_); rintro e w2 ⟨rfl, hb2⟩; obtain ⟨hc2, hf2, hz2⟩ := bcell hb2; have z2_0 : w.heap.size < w2.heap.size := (by (try simp only [World.size_alloc, World.size_drew] at hz2); omega))
        | (go_at_call 18; (with_reducible refine (A2 _).mono ?_); rintro e w3 ⟨rfl, hb3⟩; obtain ⟨hc3, hf3, hz3⟩ := bcell hb3; have z3_0 : w.heap.size < w3.heap.size := (by (try simp only [World.size_alloc, World.size_drew] at hz3); omega); have z3_1 : w2.heap.size < w3.heap.size := (by (try simp only [World.size_alloc, World.size_drew] at hz3); omega))
        | (go_at_call 25; (with_reducible refine (irq_calls w3.heap.size ⟨l, l, true, true, true, true⟩ _ (by repeat' (first | with_reducible exact Blk.new _ _ _ | with_reducible assumption | with_reducible refine Blk.alloc ?_ _ | with_reducible refine Blk.drew ?_ | with_reducible refine Blk.call ?_ (by assumption)))).mono ?_); rintro e w9 ⟨rfl, rfl⟩)
        | (go_at_call 25; (with_reducible refine (irq_calls w2.heap.size ⟨l, 0, true, true, true, _⟩ _ (by repeat' (first | with_reducible exact Blk.new _ _ _ | with_reducible assumption | with_reducible refine Blk.alloc ?_ _ | with_reducible refine Blk.drew ?_ | with_reducible refine Blk.call ?_ (by assumption)))).mono ?_); rintro e w9 ⟨rfl, rfl⟩)
        | (go_at_call 21; (with_reducible refine (awake10_calls _).mono ?_); rintro e w4 ⟨rfl, hb4⟩))
      go_returns
      exact ⟨(by first | rfl | (simp; done) | (simp; omega)), (by repeat' (first | with_reducible exact Below.refl _ _ | with_reducible assumption | with_reducible refine Q.alloc ?_ _ | with_reducible refine Q.drew ?_ | with_reducible refine Q.call ?_ (by assumption)))⟩
theorem timerRings_walk (l k : Int) (again : Bool) (w : World) :
    Calls Try.prog 7 #[.int .i64 l, .int .i64 k, .bool again] w fun e w' => e = .returned (.bool true) ∧ Below w.heap.size w w' := by
  by_cases h : 0 ≤ l ∧ l ≤ 65535 ∧ 1 ≤ k ∧ k ≤ 1000
  · obtain ⟨h0, h1, h2, h3⟩ := h
    have := timerRings_ok l (k.toNat - 1) again h0 h1 (by omega) w
    rw [show ((k.toNat - 1 : Nat) : Int) + 1 = k by omega] at this
    exact this
  · exact timerRings_bad l k again (by omega) w
end Go.Proofs.Ytijlmdpcbclmaaa

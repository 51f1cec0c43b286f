/- The walks of the laws on timers: Ticks, Rings, Calls, Bytes. -/
import Derived.Test.YtijlmdpcbclmaaaTimer5
namespace Go.Proofs.Ytijlmdpcbclmaaa
set_option linter.unusedVariables false
set_option linter.unusedSimpArgs false
open Go.RowKit
attribute [local go_sem] setRow_alloc_past setRow_alloc_at

theorem may_lit (l c : Int) (r a k i : Bool) (h : (TM.mk l c r a k i).ok) (w : World) :
    Calls Try.prog 19 #[.agg #[.int .i64 l, .int .i64 c, .bool r, .bool a, .bool k, .bool i]] w fun e w' => e = .returned (.bool true) ∧ Below w.heap.size w w' := by
  have := may_calls ⟨l, c, r, a, k, i⟩ w
  rw [decide_eq_true h] at this
  exact this

set_option maxHeartbeats 1600000 in
theorem timerTicks_bad (t : TM) (n m : Int) (h : ¬ t.ok ∨ n < 0 ∨ 3000 < n ∨ m < 0 ∨ 549755813888 < m) (w : World) :
    Calls Try.prog 6 #[.agg t.cells, .int .i64 n, .int .i64 m] w fun e w' => e = .returned (.bool true) ∧ Below w.heap.size w w' := by
  have C3 := fun w => may_calls t w
  obtain ⟨b, hb0⟩ : ∃ b, b = decide t.ok := ⟨_, rfl⟩
  have hd : b = false ∨ (b = true ∧ n < 0) ∨ (b = true ∧ 0 ≤ n ∧ 3000 < n) ∨ (b = true ∧ 0 ≤ n ∧ n ≤ 3000 ∧ m < 0) ∨ (b = true ∧ 0 ≤ n ∧ n ≤ 3000 ∧ 0 ≤ m ∧ 549755813888 < m) := by
    cases b
    · exact .inl rfl
    · have ht : t.ok := by simpa using hb0.symm
      have h := h.resolve_left (fun hn => hn ht)
      refine .inr ?_
      simp only [true_and]
      omega
  clear h
  rw [← hb0] at C3
  clear hb0
  obtain ⟨l, c, r, a, k, i⟩ := t
  simp only [TM.cells] at C3 ⊢
  rcases hd with rfl | ⟨rfl, hd⟩ | ⟨rfl, hd, hd2⟩ | ⟨rfl, hd, hd2, hd3⟩ | ⟨rfl, hd, hd2, hd3, hd4⟩
  all_goals
    go_enter Try.func6, Try.ntmps6
    go_wp2_with (first
      | (go_at_call 20; (with_reducible refine (plain_lit _ _ _ _ _ _ _).mono ?_); rintro e w2 ⟨rfl, hb2⟩; obtain ⟨hc2, hf2, hz2⟩ := bcell hb2; have z2_0 : w.heap.size < w2.heap.size := (by (try simp only [World.size_alloc, World.size_drew] at hz2); omega))
      | (go_at_call 19; (with_reducible refine (C3 _).mono ?_); rintro e w3 ⟨rfl, hb3⟩; obtain ⟨hc3, hf3, hz3⟩ := bcell hb3; have z3_0 : w.heap.size < w3.heap.size := (by (try simp only [World.size_alloc, World.size_drew] at hz3); omega))
      | (go_at_call 21; (with_reducible refine (awake10_calls _).mono ?_); rintro e w4 ⟨rfl, hb4⟩))
    go_returns
    exact ⟨rfl, (by repeat' (first | with_reducible exact Below.refl _ _ | with_reducible assumption | with_reducible refine Q.alloc ?_ _ | with_reducible refine Q.drew ?_ | with_reducible refine Q.call ?_ (by assumption)))⟩

set_option maxHeartbeats 3200000 in
theorem timerTicks_ok (t : TM) (n m : Nat) (ht : t.ok) (hn : n ≤ 3000) (hm : m ≤ 549755813888) (w : World) :
    Calls Try.prog 6 #[.agg t.cells, .int .i64 n, .int .i64 m] w fun e w' => e = .returned (.bool true) ∧ Below w.heap.size w w' := by
  have C3 := fun w => may_lit t.latch t.count t.runs t.again t.asks t.rings ht w
  have C1 := fun w => after_ok t ht n (by omega) w
  have HT := Lib.hid ht
  have hu := TM.aft_ok ht n
  have C6 := fun w => after_ok (t.aft n) hu m (by omega) w
  have C7 := fun w => after_int t ht ((n : Int) + (m : Int)) (by omega) (by omega) w
  rw [show ((n : Int) + (m : Int)).toNat = n + m by omega, TM.aft_add] at C7
  have hv := TM.aft_ok hu m
  have C8 := fun w => may_lit ((t.aft n).aft m).latch ((t.aft n).aft m).count ((t.aft n).aft m).runs ((t.aft n).aft m).again ((t.aft n).aft m).asks ((t.aft n).aft m).rings hv w
  obtain ⟨u, hu0⟩ : ∃ u, u = t.aft n := ⟨_, rfl⟩
  rw [← hu0] at C1 C6 C7 C8
  obtain ⟨v, hv0⟩ : ∃ v, v = u.aft m := ⟨_, rfl⟩
  rw [← hv0] at C6 C7 C8
  clear hu hv hv0
  have HU := Lib.hid hu0
  clear hu0
  have HTT := Lib.hid (Eq.refl (t.aft 0))
  obtain ⟨t0, ht0⟩ : ∃ t0, t0 = t := ⟨_, rfl⟩
  rw [← ht0] at HT HU
  have HT0 := Lib.hid ht0
  clear ht0 HTT ht
  obtain ⟨l, c, r, a, k, i⟩ := t
  obtain ⟨ul, uc, ur, ua, uk, ui⟩ := u
  obtain ⟨vl, vc, vr, va, vk, vi⟩ := v
  simp only [TM.cells] at C1 C3 C6 C7 C8 ⊢
  go_enter Try.func6, Try.ntmps6
  go_wp2_with (first
      | (go_at_call 20; (with_reducible refine (plain_lit _ _ _ _ _ _ _).mono ?_); rintro e w2 ⟨rfl, hb2⟩; obtain ⟨hc2, hf2, hz2⟩ := bcell hb2; have z2_0 : w.heap.size < w2.heap.size := (by (try simp only [World.size_alloc, World.size_drew] at hz2); omega))
      | (go_at_call 19; (with_reducible refine (C3 _).mono ?_); rintro e w3 ⟨rfl, hb3⟩; obtain ⟨hc3, hf3, hz3⟩ := bcell hb3; have z3_0 : w.heap.size < w3.heap.size := (by (try simp only [World.size_alloc, World.size_drew] at hz3); omega))
      | (go_at_call 18; (with_reducible refine (C1 _).mono ?_); rintro e w4 ⟨rfl, hb4⟩; obtain ⟨hc4, hf4, hz4⟩ := bcell hb4; have z4_0 : w.heap.size < w4.heap.size := (by (try simp only [World.size_alloc, World.size_drew] at hz4); omega)))
  go_loopw [10] (fun v wr => ∃ k1 : Nat, v = .int .i64 (k1 : Int) ∧ k1 ≤ n ∧ Blk wr (w4.heap.size + 1) 38 (t0.aft k1).cells ∧ Blk wr w4.heap.size 38 (TM.cells ⟨ul, uc, ur, ua, uk, ui⟩) ∧ Blk wr w.heap.size 38 (TM.cells ⟨l, c, r, a, k, i⟩) ∧ Below w.heap.size w wr)
    (fun v _ => n - (intOf v).toNat)
  case atStart =>
    refine ⟨0, rfl, Nat.zero_le _, ?_, ?_, ?_, ?_⟩
    · rw [HT0.out]; exact Blk.new' (by simp)
    · exact (by repeat' (first | with_reducible exact Blk.new _ _ _ | with_reducible assumption | with_reducible refine Blk.alloc ?_ _ | with_reducible refine Blk.drew ?_ | with_reducible refine Blk.call ?_ (by assumption)))
    · exact (by repeat' (first | with_reducible exact Blk.new _ _ _ | with_reducible assumption | with_reducible refine Blk.alloc ?_ _ | with_reducible refine Blk.drew ?_ | with_reducible refine Blk.call ?_ (by assumption)))
    · exact (by repeat' (first | with_reducible exact Below.refl _ _ | with_reducible assumption | with_reducible refine Q.alloc ?_ _ | with_reducible refine Q.drew ?_ | with_reducible refine Q.call ?_ (by assumption)))
  case round =>
    obtain ⟨k1, rfl, hk, hbx, hbu, hbt, hbw⟩ := hrel
    clear hb2 hb3 hb4 hc2 hc3 hc4 hf2 hf3 hf4
    by_cases hlt : k1 < n
    · have HBX := Lib.hid hbx
      have HBU := Lib.hid hbu
      have HBT := Lib.hid hbt
      clear hbx hbu hbt
      go_wp2_with (go_at_call 23; refine (tick_calls _ (t0.aft k1) (TM.aft_ok HT.out k1) _ HBX.out).mono ?_; rintro e w' ⟨rfl, rfl⟩)
      go_roundw
      case rel => exact ⟨k1 + 1, by go_num, by omega, by rw [TM.aft_succ]; exact HBX.out.setRow _, HBU.out.other (by omega) _, HBT.out.other (by omega) _, below_setRow hbw (by omega) _⟩
      case measure => simp [intOf]; omega
    · obtain rfl : n = k1 := by omega
      rw [← HU.out] at hbx
      obtain ⟨x0, x1, x2, x3, x4, x5, -⟩ := TM.at_ hbx
      obtain ⟨y0, y1, y2, y3, y4, y5, -⟩ := TM.at_ hbu
      obtain ⟨q0, q1, q2, q3, q4, q5, -⟩ := TM.at_ hbt
      simp only at x0 x1 x2 x3 x4 x5 y0 y1 y2 y3 y4 y5 q0 q1 q2 q3 q4 q5
      have HBX := Lib.hid hbx
      have HBU := Lib.hid hbu
      have HBT := Lib.hid hbt
      clear hbx hbu hbt
      have zx := HBX.out.lt
      have zu := HBU.out.lt
      have zt := HBT.out.lt
      go_wp2_with (first
        | (go_at_call 18; (with_reducible refine (C6 _).mono ?_); rintro e w5 ⟨rfl, hb5⟩; obtain ⟨hc5, hf5, hz5⟩ := bcell hb5; have z5a : w.heap.size < w5.heap.size := (by omega); have z5b : w4.heap.size < w5.heap.size := (by omega); have z5c : w4.heap.size + 1 < w5.heap.size := (by omega))
        | (go_at_call 18; (with_reducible refine (C7 _).mono ?_); rintro e w6 ⟨rfl, hb6⟩; obtain ⟨hc6, hf6, hz6⟩ := bcell hb6; have z6_0 : w.heap.size < w6.heap.size := (by (try simp only [World.size_alloc, World.size_drew] at hz6); omega); have z6_1 : w4.heap.size < w6.heap.size := (by (try simp only [World.size_alloc, World.size_drew] at hz6); omega); have z6_2 : w5.heap.size < w6.heap.size := (by (try simp only [World.size_alloc, World.size_drew] at hz6); omega); have z6c : w4.heap.size + 1 < w6.heap.size := (by (try simp only [World.size_alloc] at hz6); omega))
        | (go_at_call 20; (with_reducible refine (plain_lit _ _ _ _ _ _ _).mono ?_); rintro e w7 ⟨rfl, hb7⟩)
        | (go_at_call 19; (with_reducible refine (C8 _).mono ?_); rintro e w8 ⟨rfl, hb8⟩)
        | (go_at_call 21; (with_reducible refine (awake10_calls _).mono ?_); rintro e w9 ⟨rfl, hb9⟩))
      go_returns
      exact ⟨by simp, (by repeat' (first | with_reducible exact Below.refl _ _ | with_reducible assumption | with_reducible refine Q.alloc ?_ _ | with_reducible refine Q.drew ?_ | with_reducible refine Q.call ?_ (by assumption)))⟩

theorem timerTicks_walk (t : TM) (n m : Int) (w : World) :
    Calls Try.prog 6 #[.agg t.cells, .int .i64 n, .int .i64 m] w fun e w' => e = .returned (.bool true) ∧ Below w.heap.size w w' := by
  by_cases ht : t.ok
  · by_cases h : 0 ≤ n ∧ n ≤ 3000 ∧ 0 ≤ m ∧ m ≤ 549755813888
    · obtain ⟨h0, h1, h2, h3⟩ := h
      obtain ⟨n', rfl⟩ := Int.eq_ofNat_of_zero_le h0
      obtain ⟨m', rfl⟩ := Int.eq_ofNat_of_zero_le h2
      exact timerTicks_ok t n' m' ht (by omega) (by omega) w
    · exact timerTicks_bad t n m (.inr (by omega)) w
  · exact timerTicks_bad t n m (.inl ht) w
end Go.Proofs.Ytijlmdpcbclmaaa

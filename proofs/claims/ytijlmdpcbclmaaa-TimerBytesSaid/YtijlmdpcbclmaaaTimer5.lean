/- The chapter's example of timers, and the laws' walks. -/
import Derived.Test.YtijlmdpcbclmaaaTimer4
namespace Go.Proofs.Ytijlmdpcbclmaaa
set_option linter.unusedVariables false
set_option linter.unusedSimpArgs false
open Go.RowKit
attribute [local go_sem] setRow_alloc_past setRow_alloc_at

set_option maxHeartbeats 800000 in
theorem awake10_calls (w : World) :
    Calls Try.prog 21 #[] w fun e w' => e = .returned (.bool true) ∧ Below w.heap.size w w' := by
  have TW := fun g w hb => write_calls g ⟨2, 0, false, false, false, false⟩ (by decide) 2 3 (by omega) (by omega) w hb
  simp [TM.write, TM.cells] at TW
  have TA := fun w => after_int ⟨2, 2, true, true, false, false⟩ (by decide) 3 (by omega) (by omega) w
  simp [TM.cells, TM.aft, TM.tick] at TA
  go_enter Try.func21, Try.ntmps21
  go_wp2_with (first
    | (go_at_call 24; refine (TW _ _ (Blk.new _ _ _)).mono ?_; rintro e w1 ⟨rfl, rfl⟩)
    | (go_at_call 18; refine (TA _).mono ?_; rintro e w2 ⟨rfl, hb2⟩))
  go_returns
  exact ⟨rfl, (((Below.refl _ _).alloc (Nat.le_refl _) _).trans (hb2.mono (by simp))).alloc (by have := hb2.size; simp at this; omega) _⟩

set_option maxHeartbeats 800000 in
theorem timerNil_walk (reg v : Int) (w : World) :
    Calls Try.prog 11 #[.int .i64 reg, .int .u8 v] w fun e w' => e = .returned (.bool true) ∧ Below w.heap.size w w' := by
  go_enter Try.func11, Try.ntmps11
  go_wp2_with (first
    | (go_at_call 23; refine (tick_nil _).mono ?_; rintro e w1 ⟨rfl, rfl⟩)
    | (go_at_call 36; refine (read_nil _ _).mono ?_; rintro e w1 ⟨rfl, rfl⟩)
    | (go_at_call 24; refine (write_nil _ _ _).mono ?_; rintro e w1 ⟨rfl, rfl⟩)
    | (go_at_call 25; refine (irq_nil _).mono ?_; rintro e w1 ⟨rfl, rfl⟩)
    | (go_at_call 21; refine (awake10_calls _).mono ?_; rintro e w1 ⟨rfl, hb⟩))
  go_returns
  exact ⟨rfl, hb⟩

theorem plain_lit (l c : Int) (r a k i : Bool) (w : World) :
    Calls Try.prog 20 #[.agg #[.int .i64 l, .int .i64 c, .bool r, .bool a, .bool k, .bool i]] w fun e w' => e = .returned (.agg #[.int .i64 l, .int .i64 c, .bool r, .bool a, .bool k, .bool i]) ∧ Below w.heap.size w w' :=
  plain_calls ⟨l, c, r, a, k, i⟩ w

set_option maxHeartbeats 1600000 in
theorem timerAfter_bad (t : TM) (n : Int) (h : ¬ t.ok ∨ n < 0 ∨ 1099511627776 < n) (w : World) :
    Calls Try.prog 5 #[.agg t.cells, .int .i64 n] w fun e w' => e = .returned (.bool true) ∧ Below w.heap.size w w' := by
  have C1 := fun w => after_bad t n h w
  have C2 := fun w => plain_calls t w
  have C3 := fun w => may_calls t w
  obtain ⟨b, hb0⟩ : ∃ b, b = decide t.ok := ⟨_, rfl⟩
  have hd : b = false ∨ n < 0 ∨ 1099511627776 < n := by
    rcases h with h | h | h
    · exact .inl (by simp [hb0, h])
    · exact .inr (.inl h)
    · exact .inr (.inr h)
  clear h
  rw [← hb0] at C3
  clear hb0
  obtain ⟨l, c, r, a, k, i⟩ := t
  simp only [TM.cells, TM.zero] at C1 C2 C3 ⊢
  cases b
  · clear hd
    go_enter Try.func5, Try.ntmps5
    go_wp2_with (first
      | (go_at_call 18; refine (C1 _).mono ?_; rintro e w1 ⟨rfl, hb1⟩; obtain ⟨hc1, hf1, hz1⟩ := bcell hb1; have z1_0 : w.heap.size < w1.heap.size := (by (try simp only [World.size_alloc, World.size_drew] at hz1); omega))
      | (go_at_call 20; refine (C2 _).mono ?_; rintro e w2 ⟨rfl, hb2⟩; obtain ⟨hc2, hf2, hz2⟩ := bcell hb2; have z2_0 : w.heap.size < w2.heap.size := (by (try simp only [World.size_alloc, World.size_drew] at hz2); omega); have z2_1 : w1.heap.size < w2.heap.size := (by (try simp only [World.size_alloc, World.size_drew] at hz2); omega))
      | (go_at_call 19; refine (C3 _).mono ?_; rintro e w3 ⟨rfl, hb3⟩; obtain ⟨hc3, hf3, hz3⟩ := bcell hb3; have z3_0 : w.heap.size < w3.heap.size := (by (try simp only [World.size_alloc, World.size_drew] at hz3); omega); have z3_1 : w1.heap.size < w3.heap.size := (by (try simp only [World.size_alloc, World.size_drew] at hz3); omega))
      | (go_at_call 21; refine (awake10_calls _).mono ?_; rintro e w4 ⟨rfl, hb4⟩; obtain ⟨hc4, hf4, hz4⟩ := bcell hb4))
    go_returns
    exact ⟨rfl, (by repeat' (first | with_reducible exact Below.refl _ _ | with_reducible refine Q.alloc ?_ _ | with_reducible refine Q.drew ?_ | with_reducible refine Q.call ?_ (by assumption)))⟩
  · have hd := hd.resolve_left (by simp)
    rcases hd with hd | hd
    all_goals
      go_enter Try.func5, Try.ntmps5
      go_wp2_with (first
      | (go_at_call 18; refine (C1 _).mono ?_; rintro e w1 ⟨rfl, hb1⟩; obtain ⟨hc1, hf1, hz1⟩ := bcell hb1; have z1_0 : w.heap.size < w1.heap.size := (by (try simp only [World.size_alloc, World.size_drew] at hz1); omega))
      | (go_at_call 20; refine (C2 _).mono ?_; rintro e w2 ⟨rfl, hb2⟩; obtain ⟨hc2, hf2, hz2⟩ := bcell hb2; have z2_0 : w.heap.size < w2.heap.size := (by (try simp only [World.size_alloc, World.size_drew] at hz2); omega); have z2_1 : w1.heap.size < w2.heap.size := (by (try simp only [World.size_alloc, World.size_drew] at hz2); omega))
      | (go_at_call 19; refine (C3 _).mono ?_; rintro e w3 ⟨rfl, hb3⟩; obtain ⟨hc3, hf3, hz3⟩ := bcell hb3; have z3_0 : w.heap.size < w3.heap.size := (by (try simp only [World.size_alloc, World.size_drew] at hz3); omega); have z3_1 : w1.heap.size < w3.heap.size := (by (try simp only [World.size_alloc, World.size_drew] at hz3); omega))
      | (go_at_call 21; refine (awake10_calls _).mono ?_; rintro e w4 ⟨rfl, hb4⟩; obtain ⟨hc4, hf4, hz4⟩ := bcell hb4))
      go_returns
      exact ⟨rfl, (by repeat' (first | with_reducible exact Below.refl _ _ | with_reducible refine Q.alloc ?_ _ | with_reducible refine Q.drew ?_ | with_reducible refine Q.call ?_ (by assumption)))⟩

set_option maxHeartbeats 1600000 in
theorem timerAfter_ok (t : TM) (n : Int) (ht : t.ok) (h0 : 0 ≤ n) (h1 : n ≤ 1099511627776) (w : World) :
    Calls Try.prog 5 #[.agg t.cells, .int .i64 n] w fun e w' => e = .returned (.bool true) ∧ Below w.heap.size w w' := by
  have C1 := fun w => after_int t ht n h0 h1 w
  have C3 := fun w => may_calls t w
  have C5 := fun w => rafter_calls t ht n h0 h1 w
  rw [decide_eq_true ht] at C3
  clear ht
  generalize t.aft n.toNat = u at C1 C5
  obtain ⟨l, c, r, a, k, i⟩ := t
  obtain ⟨ul, uc, ur, ua, uk, ui⟩ := u
  simp only [TM.cells] at C1 C3 C5 ⊢
  go_enter Try.func5, Try.ntmps5
  go_wp2_with (first
      | (go_at_call 18; refine (C1 _).mono ?_; rintro e w1 ⟨rfl, hb1⟩; obtain ⟨hc1, hf1, hz1⟩ := bcell hb1; have z1_0 : w.heap.size < w1.heap.size := (by (try simp only [World.size_alloc, World.size_drew] at hz1); omega))
      | (go_at_call 20; refine (plain_lit _ _ _ _ _ _ _).mono ?_; rintro e w2 ⟨rfl, hb2⟩; obtain ⟨hc2, hf2, hz2⟩ := bcell hb2; have z2_0 : w.heap.size < w2.heap.size := (by (try simp only [World.size_alloc, World.size_drew] at hz2); omega); have z2_1 : w1.heap.size < w2.heap.size := (by (try simp only [World.size_alloc, World.size_drew] at hz2); omega))
      | (go_at_call 19; refine (C3 _).mono ?_; rintro e w3 ⟨rfl, hb3⟩; obtain ⟨hc3, hf3, hz3⟩ := bcell hb3; have z3_0 : w.heap.size < w3.heap.size := (by (try simp only [World.size_alloc, World.size_drew] at hz3); omega); have z3_1 : w1.heap.size < w3.heap.size := (by (try simp only [World.size_alloc, World.size_drew] at hz3); omega))
      | (go_at_call 21; refine (awake10_calls _).mono ?_; rintro e w4 ⟨rfl, hb4⟩; obtain ⟨hc4, hf4, hz4⟩ := bcell hb4)
      | (go_at_call 22; refine (C5 _).mono ?_; rintro e w5 ⟨rfl, hb5⟩; obtain ⟨hc5, hf5, hz5⟩ := bcell hb5; have z5_0 : w.heap.size < w5.heap.size := (by (try simp only [World.size_alloc, World.size_drew] at hz5); omega); have z5_1 : w1.heap.size < w5.heap.size := (by (try simp only [World.size_alloc, World.size_drew] at hz5); omega)))
  have B0 : Blk w3 w.heap.size 38 #[.int .i64 l, .int .i64 c, .bool r, .bool a, .bool k, .bool i] := (by repeat' (first | with_reducible exact Blk.new _ _ _ | with_reducible refine Blk.alloc ?_ _ | with_reducible refine Blk.call ?_ (by assumption)))
  have B1 : Blk w3 w1.heap.size 38 #[.int .i64 ul, .int .i64 uc, .bool ur, .bool ua, .bool uk, .bool ui] := (by repeat' (first | with_reducible exact Blk.new _ _ _ | with_reducible refine Blk.alloc ?_ _ | with_reducible refine Blk.call ?_ (by assumption)))
  have HBW : Below w.heap.size w w3 := (by repeat' (first | with_reducible exact Below.refl _ _ | with_reducible assumption | with_reducible refine Q.alloc ?_ _ | with_reducible refine Q.drew ?_ | with_reducible refine Q.call ?_ (by assumption)))
  clear hb1 hb2 hb3 hc1 hc2 hc3 hf1 hf2 hf3 hz1 hz2 hz3
  have ST : ∀ w' : World, Below w3.heap.size w3 w' → ((fun w' : World => w'.cell? ⟨w.heap.size, 0, none⟩ = some (.int .i64 l) ∧ w'.cell? ⟨w.heap.size, 1, none⟩ = some (.int .i64 c) ∧ w'.cell? ⟨w.heap.size, 2, none⟩ = some (.bool r) ∧ w'.cell? ⟨w.heap.size, 3, none⟩ = some (.bool a) ∧ w'.cell? ⟨w.heap.size, 4, none⟩ = some (.bool k) ∧ w'.cell? ⟨w.heap.size, 5, none⟩ = some (.bool i) ∧ w'.cell? ⟨w1.heap.size, 0, none⟩ = some (.int .i64 ul) ∧ w'.cell? ⟨w1.heap.size, 1, none⟩ = some (.int .i64 uc) ∧ w'.cell? ⟨w1.heap.size, 2, none⟩ = some (.bool ur) ∧ w'.cell? ⟨w1.heap.size, 3, none⟩ = some (.bool ua) ∧ w'.cell? ⟨w1.heap.size, 4, none⟩ = some (.bool uk) ∧ w'.cell? ⟨w1.heap.size, 5, none⟩ = some (.bool ui) ∧ Below w3.heap.size w3 w') w') := by
    intro w' h
    obtain ⟨x0, x1, x2, x3, x4, x5⟩ := TM.six B0 h
    obtain ⟨y0, y1, y2, y3, y4, y5⟩ := TM.six B1 h
    exact ⟨x0, x1, x2, x3, x4, x5, y0, y1, y2, y3, y4, y5, h⟩
  go_region_held3 (fun w' : World => w'.cell? ⟨w.heap.size, 0, none⟩ = some (.int .i64 l) ∧ w'.cell? ⟨w.heap.size, 1, none⟩ = some (.int .i64 c) ∧ w'.cell? ⟨w.heap.size, 2, none⟩ = some (.bool r) ∧ w'.cell? ⟨w.heap.size, 3, none⟩ = some (.bool a) ∧ w'.cell? ⟨w.heap.size, 4, none⟩ = some (.bool k) ∧ w'.cell? ⟨w.heap.size, 5, none⟩ = some (.bool i) ∧ w'.cell? ⟨w1.heap.size, 0, none⟩ = some (.int .i64 ul) ∧ w'.cell? ⟨w1.heap.size, 1, none⟩ = some (.int .i64 uc) ∧ w'.cell? ⟨w1.heap.size, 2, none⟩ = some (.bool ur) ∧ w'.cell? ⟨w1.heap.size, 3, none⟩ = some (.bool ua) ∧ w'.cell? ⟨w1.heap.size, 4, none⟩ = some (.bool uk) ∧ w'.cell? ⟨w1.heap.size, 5, none⟩ = some (.bool ui) ∧ Below w3.heap.size w3 w') (exact ST _ (by repeat' (first | with_reducible exact Below.refl _ _ | with_reducible assumption | with_reducible refine Q.alloc ?_ _ | with_reducible refine Q.drew ?_ | with_reducible refine Q.call ?_ (by assumption)))) (first | (go_at_call 20; refine (plain_lit _ _ _ _ _ _ _).mono ?_; rintro e w2 ⟨rfl, hb2⟩) | (go_at_call 21; refine (awake10_calls _).mono ?_; rintro e w4 ⟨rfl, hb4⟩) | (go_at_call 22; refine (C5 _).mono ?_; rintro e w5 ⟨rfl, hb5⟩))
  go_wp2
  go_returns
  exact ⟨by simp, (by repeat' (first | with_reducible exact Below.refl _ _ | with_reducible assumption | with_reducible refine Q.alloc ?_ _ | with_reducible refine Q.drew ?_ | with_reducible refine Q.call ?_ (by assumption)))⟩

theorem timerAfter_walk (t : TM) (n : Int) (w : World) :
    Calls Try.prog 5 #[.agg t.cells, .int .i64 n] w fun e w' => e = .returned (.bool true) ∧ Below w.heap.size w w' := by
  by_cases h : t.ok ∧ 0 ≤ n ∧ n ≤ 1099511627776
  · exact timerAfter_ok t n h.1 h.2.1 h.2.2 w
  · refine timerAfter_bad t n ?_ w
    by_cases h1 : t.ok
    · by_cases h2 : 0 ≤ n
      · exact .inr (.inr (by
          by_cases h3 : n ≤ 1099511627776
          · exact absurd ⟨h1, h2, h3⟩ h
          · omega))
      · exact .inr (.inl (by omega))
    · exact .inl h1
end Go.Proofs.Ytijlmdpcbclmaaa

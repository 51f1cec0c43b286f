/- The walks of Write and Read. -/
import Derived.Test.YtggnkkmlabhofaaDoorMem1
namespace Go.Proofs.YtggnkkmlabhofaaDoor
set_option linter.unusedVariables false
set_option linter.unusedSimpArgs false
open Go.RowKit

/-- What is wrong with an address. -/
def errOf (x : Int) : Int := if kindOf x = -1 then 10 else if kindOf x = 32768 then 15 else 0

theorem kind_ram (k : Nat) (h : k < 32768) : kindOf (k : Int) = 0 := by unfold kindOf; rw [if_neg (by omega), if_pos (by omega)]
theorem ram_kind {x : Int} (h : kindOf x = 0) : ∃ k : Nat, x = (k : Int) ∧ k < 32768 := by
  unfold kindOf at h
  by_cases h0 : x < 0
  · rw [if_pos h0] at h; cases h
  · rw [if_neg h0] at h
    by_cases h1 : x < 32768
    · exact ⟨x.toNat, by omega, by omega⟩
    · rw [if_neg h1] at h
      repeat' split at h
      all_goals omega

/-- What a memory holds behind a write. -/
def wrote (f : Nat → Int × Int) (x : Int) (b : Int × Int) : Nat → Int × Int := if errOf x = 0 ∧ kindOf x = 0 then upd f x b else f

/-- What is read at an address. -/
def readOf (f : Nat → Int × Int) (x : Int) : Int × Int := if errOf x = 0 then (if kindOf x = 32784 then (255, 0) else f x.toNat) else (0, 0)

theorem read_nil (x : Int) (w : World) :
    Calls Tryd.prog 31 #[.pointer none, .int .i64 x] w fun e w' => e = .returned (.tuple #[.agg #[.int .u8 0, .int .u8 0], .int .i64 2]) ∧ Below w.heap.size w w' := by
  go_enter Tryd.func31, Tryd.ntmps31
  go_wp2
  go_returns
  exact ⟨rfl, (Below.refl _ _).alloc (Nat.le_refl _) _⟩

set_option maxHeartbeats 800000 in
theorem read_bad (g : Nat) (x : Int) (w : World) (hk : KIN w) (h : errOf x ≠ 0) :
    Calls Tryd.prog 31 #[.pointer (some ⟨g, 0, none⟩), .int .i64 x] w fun e w' => e = .returned (.tuple #[.agg #[.int .u8 0, .int .u8 0], .int .i64 (errOf x)]) ∧ Below w.heap.size w w' := by
  have K := check_calls x (w.alloc (.cells #[.int .u8 0, .int .u8 0] 57)) (hk.below ((Below.refl w.heap.size _).alloc (Nat.le_refl _) _) hk.lt)
  rw [show (if kindOf x = -1 then (10 : Int) else if kindOf x = 32768 then 15 else 0) = errOf x from rfl] at K
  have hb : (errOf x == 0) = false := by simpa using h
  go_enter Tryd.func31, Tryd.ntmps31
  go_wp2_with (go_at_call 55; (with_reducible refine K.mono ?_); rintro e w1 ⟨rfl, rfl⟩)
  go_returns
  exact ⟨rfl, (Below.refl _ _).alloc (Nat.le_refl _) _⟩

set_option maxHeartbeats 800000 in
theorem read_free (g : Nat) (x : Int) (w : World) (hk : KIN w) (h : errOf x = 0) (h2 : kindOf x = 32784) :
    Calls Tryd.prog 31 #[.pointer (some ⟨g, 0, none⟩), .int .i64 x] w fun e w' => e = .returned (.tuple #[.agg #[.int .u8 255, .int .u8 0], .int .i64 0]) ∧ Below w.heap.size w w' := by
  have hk' := hk.below ((Below.refl w.heap.size _).alloc (Nat.le_refl _) (.cells #[.int .u8 0, .int .u8 0] 57)) hk.lt
  have K := check_calls x _ hk'
  rw [show (if kindOf x = -1 then (10 : Int) else if kindOf x = 32768 then 15 else 0) = errOf x from rfl, h] at K
  have K2 := kind_calls x _ hk'
  rw [h2] at K2
  go_enter Tryd.func31, Tryd.ntmps31
  go_wp2_with (first
    | (go_at_call 55; (with_reducible refine K.mono ?_); rintro e w1 ⟨rfl, rfl⟩)
    | (go_at_call 56; (with_reducible refine K2.mono ?_); rintro e w1 ⟨rfl, rfl⟩)
    | (go_at_call 57; (with_reducible refine (of_calls 255 (by decide) (by decide) _).mono ?_); rintro e w2 ⟨rfl, hb2⟩; obtain ⟨hc2, hf2, hz2⟩ := bcell hb2))
  have hbk : Blk w2 w.heap.size 57 #[.int .u8 0, .int .u8 0] := (Blk.new _ _ _).call hb2
  rw [hbk.setCell, hbk.setCell_setRow]
  have hn := hbk.setRow #[.int .u8 255, .int .u8 0]
  have hB : Below w.heap.size w (w2.setRow w.heap.size #[.int .u8 255, .int .u8 0]) := below_setRow (Q.call ((Below.refl _ _).alloc (Nat.le_refl _) _) hb2) (Nat.le_refl _) _
  generalize hW : w2.setRow w.heap.size #[.int .u8 255, .int .u8 0] = W at hn hB
  have hn0 : W.cell? ⟨w.heap.size, 0, none⟩ = some (.int .u8 255) := hn.cell 0
  have hn1 : W.cell? ⟨w.heap.size, 1, none⟩ = some (.int .u8 0) := hn.cell 1
  rw [show w2.setRow w.heap.size ((#[Value.int .u8 0, Value.int .u8 0].setIfInBounds 0 (.int .u8 255)).setIfInBounds 1 (.int .u8 0)) = W from hW]
  refine bodyPost_ret (v := .tuple #[.agg #[.int .u8 255, .int .u8 0], .int .i64 0]) (by simp [results, Tryd.results31, go_sem, hn0, hn1]) rfl ?_
  exact ⟨rfl, hB⟩

set_option maxHeartbeats 800000 in
theorem read_at (g : Nat) (f : Nat → Int × Int) (k : Nat) (hk6 : k < 65536) (w : World) (hk : KIN w) (hm : Mem w g f) (h : errOf k = 0) (h2 : kindOf k ≠ 32784) :
    Calls Tryd.prog 31 #[.pointer (some ⟨g, 0, none⟩), .int .i64 k] w fun e w' => e = .returned (.tuple #[.agg #[.int .u8 (f k).1, .int .u8 (f k).2], .int .i64 0]) ∧ Below w.heap.size w w' := by
  have hk' := hk.below ((Below.refl w.heap.size _).alloc (Nat.le_refl _) (.cells #[.int .u8 0, .int .u8 0] 57)) hk.lt
  have K := check_calls k _ hk'
  rw [show (if kindOf (k : Int) = -1 then (10 : Int) else if kindOf (k : Int) = 32768 then 15 else 0) = errOf k from rfl, h] at K
  have K2 := kind_calls k _ hk'
  have hb : (kindOf (k : Int) == 32784) = false := by simpa using h2
  obtain ⟨c0, c1⟩ := hm.at_ (show k < 65536 by omega)
  have hki : (k : Int) < 65536 := by omega
  have hlt := hm.lt
  have hne : g ≠ w.heap.size := by omega
  go_enter Tryd.func31, Tryd.ntmps31
  go_wp2_with (first
    | (go_at_call 55; (with_reducible refine K.mono ?_); rintro e w1 ⟨rfl, rfl⟩)
    | (go_at_call 56; (with_reducible refine K2.mono ?_); rintro e w1 ⟨rfl, rfl⟩))
  go_returns
  exact ⟨rfl, (Below.refl _ _).alloc (Nat.le_refl _) _⟩

theorem err_bounds {x : Int} (h : errOf x = 0) : 0 ≤ x ∧ x < 65536 ∧ ¬ (32768 ≤ x ∧ x < 32784) := by
  unfold errOf kindOf at h
  refine ⟨?_, ?_, ?_⟩
  · rcases Int.lt_or_le x 0 with h0 | h0
    · simp [h0] at h
    · exact h0
  · rcases Int.lt_or_le x 65536 with h0 | h0
    · exact h0
    · simp [show ¬ x < 0 by omega, show ¬ x < 32768 by omega, show ¬ x < 32784 by omega, show ¬ x < 49152 by omega, show ¬ x < 65536 by omega] at h
  · rintro ⟨h0, h1⟩
    simp [show ¬ x < 0 by omega, show ¬ x < 32768 by omega, show x < 32784 by omega] at h

theorem read_calls (g : Nat) (f : Nat → Int × Int) (x : Int) (w : World) (hk : KIN w) (hm : Mem w g f) :
    Calls Tryd.prog 31 #[.pointer (some ⟨g, 0, none⟩), .int .i64 x] w fun e w' => e = .returned (.tuple #[.agg #[.int .u8 (readOf f x).1, .int .u8 (readOf f x).2], .int .i64 (errOf x)]) ∧ Below w.heap.size w w' := by
  by_cases h : errOf x = 0
  · by_cases h2 : kindOf x = 32784
    · unfold readOf
      rw [if_pos h, if_pos h2, h]
      exact read_free g x w hk h h2
    · obtain ⟨h0, h1, _⟩ := err_bounds h
      obtain ⟨k, rfl⟩ := Int.eq_ofNat_of_zero_le h0
      unfold readOf
      rw [if_pos h, if_neg h2, h, Int.toNat_natCast]
      exact read_at g f k (by omega) w hk hm h h2
  · unfold readOf
    rw [if_neg h]
    exact read_bad g x w hk h
end Go.Proofs.YtggnkkmlabhofaaDoor

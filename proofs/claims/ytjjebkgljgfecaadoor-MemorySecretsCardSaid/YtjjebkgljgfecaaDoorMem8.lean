/- The walk of MemoryLoads, but for the way on which bytes are loaded. -/
import Derived.Test.YtjjebkgljgfecaaDoorMem7
namespace Go.Proofs.YtjjebkgljgfecaaDoor
set_option linter.unusedVariables false
set_option linter.unusedSimpArgs false
open Go.RowKit

theorem span_no {x : Int} (h : loadsOf x = false) (y : Int) : spanOf x y = 10 := by unfold spanOf; rw [if_neg (by rw [h]; simp)]
theorem loadErr_no {x : Int} (h : loadsOf x = false) (n : Nat) : loadErr x n = 10 := by unfold loadErr; rw [if_neg (by rw [h]; simp)]

theorem new_fresh (w : World) :
    Calls Tryd.prog 8 #[] w fun e w' => e = .returned (.pointer (some ⟨w.heap.size, 0, none⟩)) ∧ Mem w' w.heap.size (fun _ => (0, 0)) ∧ Below w.heap.size w w' := 
  (new_calls w).mono fun e w' ⟨he, hw⟩ => ⟨he, by rw [hw]; exact Mem.fresh w, by rw [hw]; exact (Below.refl _ _).alloc (Nat.le_refl _) _⟩

set_option maxRecDepth 100000 in
set_option maxHeartbeats 800000 in
theorem memoryLoads_long (x t : Int) (a : Option Addr) (n ca : Nat) (w : World) (hk : KIN w) (h : n < 1 ∨ (1 ≤ n ∧ 100 < n)) :
    Calls Tryd.prog 5 #[.int .i64 x, .slice a n ca, .int .u8 t] w fun e w' => e = .returned (.bool true) ∧ Below w.heap.size w w' := by
  rcases h with h | h
  all_goals
    go_enter Tryd.func5, Tryd.ntmps5
    go_wp2_with (first
      | (go_at_call 8; (with_reducible refine (new_fresh _).mono ?_); rintro e w1 ⟨rfl, hm1, hb1⟩)
      | (go_at_call 13; (with_reducible refine (awake08_calls _ (hk.q hb1)).mono ?_); rintro e w2 ⟨rfl, hb2⟩))
    go_returns
    exact ⟨rfl, Q.call hb1 hb2⟩

set_option maxRecDepth 100000 in
set_option maxHeartbeats 1600000 in
theorem memoryLoads_bad (x t : Int) (a : Option Addr) (n ca : Nat) (w : World) (hk : KIN w) (h1 : 1 ≤ n) (h2 : n ≤ 100) (he : loadErr x n = 10)
    (hl : loadsOf x = false ∨ (0 ≤ x ∧ x < 65536 ∧ spanOf x (x + n - 1) = 10)) :
    Calls Tryd.prog 5 #[.int .i64 x, .slice a n ca, .int .u8 t] w fun e w' => e = .returned (.bool true) ∧ Below w.heap.size w w' := by
  rcases hl with hl | ⟨hl0, hl1, hl⟩
  · go_enter Tryd.func5, Tryd.ntmps5
    go_wp2_with fail
    (with_reducible refine (new_fresh _).mono ?_); rintro e w1 ⟨rfl, hm1, hb1⟩
    go_wp2_with (first
      | (go_at_call 17; (with_reducible refine (load_bad w.heap.size x a n ca _ (hk.q hb1) he).mono ?_); rintro e w2 ⟨rfl, rfl⟩)
      | (go_at_call 18; (with_reducible refine (label_bad w.heap.size x _ t _ (hk.q hb1) (span_no hl _)).mono ?_); rintro e w2 ⟨rfl, rfl⟩)
      | (go_at_call 8; (with_reducible refine (new_fresh _).mono ?_); rintro e w3 ⟨rfl, hm3, hb3⟩)
      | (go_at_call 19; (with_reducible refine (same_calls w.heap.size w1.heap.size _ _ (hm1.call hb3) hm3).mono ?_); rintro e w4 ⟨rfl, hb4⟩)
      | (go_at_call 13; (with_reducible refine (awake08_calls _ (hk.q (Q.call (Q.call hb1 hb3) hb4))).mono ?_); rintro e w5 ⟨rfl, hb5⟩))
    go_returns
    exact ⟨rfl, Q.call (Q.call (Q.call hb1 hb3) hb4) hb5⟩
  · go_enter Tryd.func5, Tryd.ntmps5
    go_wp2_with fail
    (with_reducible refine (new_fresh _).mono ?_); rintro e w1 ⟨rfl, hm1, hb1⟩
    go_wp2_with (first
      | (go_at_call 17; (with_reducible refine (load_bad w.heap.size x a n ca _ (hk.q hb1) he).mono ?_); rintro e w2 ⟨rfl, rfl⟩)
      | (go_at_call 18; (with_reducible refine (label_bad w.heap.size x _ t _ (hk.q hb1) hl).mono ?_); rintro e w2 ⟨rfl, rfl⟩)
      | (go_at_call 8; (with_reducible refine (new_fresh _).mono ?_); rintro e w3 ⟨rfl, hm3, hb3⟩)
      | (go_at_call 19; (with_reducible refine (same_calls w.heap.size w1.heap.size _ _ (hm1.call hb3) hm3).mono ?_); rintro e w4 ⟨rfl, hb4⟩)
      | (go_at_call 13; (with_reducible refine (awake08_calls _ (hk.q (Q.call (Q.call hb1 hb3) hb4))).mono ?_); rintro e w5 ⟨rfl, hb5⟩))
    go_returns
    exact ⟨rfl, Q.call (Q.call (Q.call hb1 hb3) hb4) hb5⟩
end Go.Proofs.YtjjebkgljgfecaaDoor

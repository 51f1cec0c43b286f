/- taint.Same; Same of two memories that differ at one byte. -/
import Derived.Test.YtjjebkgljgfecaaDoorRef9
import Derived.Test.YtjjebkgljgfecaaDoorQuiet
namespace Go.Proofs.YtjjebkgljgfecaaDoor
set_option linter.unusedVariables false
set_option linter.unusedSimpArgs false
open Go.RowKit

/-- The same secret bits, and the same others. -/
def sameB (a b : Int × Int) : Bool := decide (a.2 = b.2) && (bits .andNot .u8 (bits .xor .u8 a.1 b.1) a.2 == 0)
theorem bits_xor_self (x : Int) : bits .xor .u8 x x = 0 := by
  simp [bits]
  rfl
theorem bits_zero (t : Int) : bits .andNot .u8 0 t = 0 := by
  simp [bits]
  rfl
theorem sameB_self (a : Int × Int) : sameB a a = true := by
  unfold sameB
  rw [bits_xor_self, bits_zero]
  simp
set_option maxHeartbeats 800000 in
theorem tsame_calls (a b : Int × Int) (w : World) :
    Calls Tryd.prog 23 #[.agg #[.int .u8 a.1, .int .u8 a.2], .agg #[.int .u8 b.1, .int .u8 b.2]] w fun e w' => e = .returned (.bool (sameB a b)) ∧ Below w.heap.size w w' := by
  unfold sameB
  by_cases h : a.2 = b.2
  · rw [decide_eq_true h, Bool.true_and, h]
    go_enter Tryd.func23, Tryd.ntmps23
    go_wp2
    go_returns
    exact ⟨rfl, Q.alloc (Q.alloc (Below.refl _ _) _) _⟩
  · rw [decide_eq_false h, Bool.false_and]
    have hd : decide (a.2 = b.2) = false := decide_eq_false h
    have hd2 : (a.2 == b.2) = false := beq_eq_false_iff_ne.2 h
    go_enter Tryd.func23, Tryd.ntmps23
    go_wp2
    go_returns
    exact ⟨rfl, Q.alloc (Q.alloc (Below.refl _ _) _) _⟩

set_option maxHeartbeats 1000000 in
theorem eq_byte (n : Nat) (a b c d : Int) (w : World) : (Op.equalIn (n + 2) 24 (.agg #[.int .u8 a, .int .u8 b]) (.agg #[.int .u8 c, .int .u8 d])).run Tryd.prog w = .ok (decide (a = c) && decide (b = d)) w := by
  by_cases e1 : a = c
  · subst e1
    by_cases e2 : b = d
    · subst e2
      simp [Op.equalIn, part, isAgg, go_sem, run_underlying Tryd.underlying24, run_underlying Tryd.underlying5]
    · have hb : (b == d) = false := beq_eq_false_iff_ne.2 e2
      simp [Op.equalIn, part, isAgg, go_sem, run_underlying Tryd.underlying24, run_underlying Tryd.underlying5, hb, e2]
  · have hb : (a == c) = false := beq_eq_false_iff_ne.2 e1
    simp [Op.equalIn, part, isAgg, go_sem, run_underlying Tryd.underlying24, run_underlying Tryd.underlying5, hb, e1]
theorem pair_dec (x y : Int × Int) : (decide (x.1 = y.1) && decide (x.2 = y.2)) = decide (x = y) := by
  by_cases h : x = y
  · subst h; simp
  · rw [decide_eq_false h, Bool.and_eq_false_iff]
    by_cases h1 : x.1 = y.1
    · exact .inr (decide_eq_false (fun h2 => h (Prod.ext h1 h2)))
    · exact .inl (decide_eq_false h1)
theorem eqItems_two (d : Nat) (M N : Array Value) (f g : Nat → Int × Int) (hM : HasBytes M f) (hN : HasBytes N g) (w : World) : ∀ is : List Nat, (∀ i ∈ is, i < 65536) →
    (Op.eqItems (d + 2) 24 2 M N is).run Tryd.prog w = .ok (is.all fun i => decide (f i = g i)) w
  | [], _ => by simp [Op.eqItems]
  | i :: is, h => by
    have hi := hM i (h i (by simp))
    have hj := hN i (h i (by simp))
    have ih := eqItems_two d M N f g hM hN w is (fun j hj => h j (by simp [hj]))
    have pm : (part 24 M (i * 2)).run Tryd.prog w = .ok (.agg #[.int .u8 (f i).1, .int .u8 (f i).2]) w := part_byte M _ _ _ w hi.1 hi.2
    have pn : (part 24 N (i * 2)).run Tryd.prog w = .ok (.agg #[.int .u8 (g i).1, .int .u8 (g i).2]) w := part_byte N _ _ _ w hj.1 hj.2
    have pe := eq_byte d (f i).1 (f i).2 (g i).1 (g i).2 w
    rw [pair_dec] at pe
    cases hc : decide (f i = g i) with
    | true =>
      rw [hc] at pe
      simp only [Op.eqItems, Sem.run_bind, pm, pn, pe, Result.andThen_ok, Bool.not_true, Bool.false_eq_true, if_false, ih, List.all_cons, hc, Bool.true_and]
    | false =>
      rw [hc] at pe
      simp only [Op.eqItems, Sem.run_bind, pm, pn, pe, Result.andThen_ok, Bool.not_false, if_true, List.all_cons, hc, Bool.false_and, Sem.run_pure]
theorem differ_mem (M N : Array Value) (f g : Nat → Int × Int) (hM : HasBytes M f) (hN : HasBytes N g) (k : Nat) (hk : k < 65536) (hd : f k ≠ g k) (w : World) :
    (Op.equal 57 (.agg M) (.agg N)).run Tryd.prog w = .ok false w := by
  have hi : ∃ i, Tryd.prog.info? 24 = some i := by
    cases h : Tryd.prog.info? 24 with
    | none => have := byte_info; rw [h] at this; cases this
    | some i => exact ⟨i, rfl⟩
  obtain ⟨i, hi⟩ := hi
  rw [Op.equal, show Op.maxDepth = 9999 + 1 from rfl, run_equalIn_array w 9999 M N Tryd.underlying57 hi, byte_cells]
  have hall : ((List.range 65536).all fun i => decide (f i = g i)) = false := by
    rw [List.all_eq_false]
    exact ⟨k, List.mem_range.2 hk, by simpa using hd⟩
  have := eqItems_two 9997 M N f g hM hN w (List.range 65536) (fun i h => List.mem_range.1 h)
  rw [hall] at this
  exact this
end Go.Proofs.YtjjebkgljgfecaaDoor

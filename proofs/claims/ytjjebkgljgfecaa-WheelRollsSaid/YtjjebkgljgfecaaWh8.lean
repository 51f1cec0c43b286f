/- The wheel: awake; the walk of WheelWhole. (printed by gen/wh8.py) -/
import Derived.Test.YtjjebkgljgfecaaWh7
namespace Go.Proofs.Ytjjebkgljgfecaa
set_option linter.unusedVariables false
set_option linter.unusedSimpArgs false
open Go.RowKit
attribute [local go_sem] run_store_complex run_store_float

theorem order_lit (x : Int) (c : Nat) (hc : floatOfInt .f64 x = c) (hx : x.natAbs < 2 ^ 53) : FloatKind.f64.format.order c c = some .eq := by
  rw [← hc]
  exact fo_eq x hx
set_option maxRecDepth 100000 in
set_option maxHeartbeats 3200000 in
theorem awake12_calls (w : World) : Calls Try.prog 9 #[] w fun e w' => e = .returned (.bool true) ∧ Below w.heap.size w w' := by
  have e13 : St.init.roll 13 = ⟨0, 3, 1, 13⟩ := rfl
  have e6 : (⟨0, 3, 1, 13⟩ : St).roll 6 = ⟨0, 2, 3, 6⟩ := rfl
  have i0 := zero_eq
  have i3 : FloatKind.f64.format.order 4613937818241073152 4613937818241073152 = some .eq := order_lit 3 _ (by decide +kernel) (by decide)
  have i2 : FloatKind.f64.format.order 4611686018427387904 4611686018427387904 = some .eq := order_lit 2 _ (by decide +kernel) (by decide)
  go_enter Try.func9, Try.ntmps9
  go_wp2_with fail
  (with_reducible refine (newS_calls _).mono ?_)
  rintro e w1 ⟨rfl, hw1⟩
  have h1 : Blk w1 w.heap.size 57 St.init.cells := by rw [hw1]; exact Blk.new _ _ _
  have b1 : Below w.heap.size w w1 := by rw [hw1]; exact Q.alloc (Below.refl _ _) _
  clear hw1
  have W1 := write_turn w1 w.heap.size St.init 13 St.ok_init (by decide) h1
  rw [e13] at W1
  clear e13
  go_wp2_with fail
  (with_reducible refine W1.mono ?_)
  rintro e w2 ⟨rfl, h2, k2⟩
  have b2 := k2.below b1 b1.size (fun b hb => by omega)
  clear W1 h1 k2 b1
  have R2 := readS_calls w2 w.heap.size _ 2 (St.ok_roll St.init (b := 13) (by decide)) h2
  go_wp2_with fail
  (with_reducible refine R2.mono ?_)
  rintro e w3 ⟨rfl, b3⟩
  have h3 := (h2.call b3).call (Q.alloc (Below.refl _ _) (.cells #[.int .u8 3, .int .u8 0] 37))
  have c3 := Q.alloc (Q.call b2 b3) (.cells #[.int .u8 3, .int .u8 0] 37)
  have n3 : w.heap.size < w3.heap.size := (h2.call b3).lt
  have d3 := Blk.new w3 37 #[.int .u8 3, .int .u8 0]
  clear R2 h2 b3 b2
  rw [show (.agg #[.int .u8 ((St.init.roll 13).byteOf 2), .int .u8 0] : Value) = .agg #[.int .u8 3, .int .u8 0] from rfl, show readErr 2 = 0 from rfl]
  go_wp2_with fail
  generalize w3.alloc (.cells #[.int .u8 3, .int .u8 0] 37) = w4 at *
  (with_reducible refine (atS_calls w4 w.heap.size _ h3).mono ?_)
  rintro e w5 ⟨rfl, rfl⟩
  have W3 := write_turn w5 w.heap.size ⟨0, 3, 1, 13⟩ 6 (St.ok_roll St.init (b := 13) (by decide)) (by decide) h3
  rw [e6] at W3
  clear e6
  rw [show fo (⟨0, 3, 1, 13⟩ : St).X = 0 by decide +kernel, show fo (⟨0, 3, 1, 13⟩ : St).Y = 4613937818241073152 by decide +kernel]
  go_wp2_with fail
  (with_reducible refine W3.mono ?_)
  rintro e w6 ⟨rfl, h6, k6⟩
  have d6 := d3.chg k6 (by omega)
  have c6 := k6.below c3 c3.size (fun b hb => by omega)
  have d60 := d6.cell 0
  have d61 := d6.cell 1
  have A6 := atS_calls w6 w.heap.size _ h6
  rw [show fo (⟨0, 2, 3, 6⟩ : St).X = 0 by decide +kernel, show fo (⟨0, 2, 3, 6⟩ : St).Y = 4611686018427387904 by decide +kernel] at A6
  clear W3 h3 d3 c3 k6 d6
  go_wp2_with fail
  (with_reducible refine A6.mono ?_)
  rintro e w7 ⟨rfl, rfl⟩
  go_wp2
  go_returns
  exact ⟨rfl, c6⟩

theorem eighth (p : Nat) (hp : p < 8) : ∃ c, floatBits .quo .f64 (floatOfInt .f64 p) 4620693217682128896 = some c ∧ IsG c p := by
  rcases (by omega : p = 0 ∨ p = 1 ∨ p = 2 ∨ p = 3 ∨ p = 4 ∨ p = 5 ∨ p = 6 ∨ p = 7) with rfl | rfl | rfl | rfl | rfl | rfl | rfl | rfl
  · exact ⟨fp false 0 (-3), by decide +kernel, false, 0, rfl, rfl⟩
  · exact ⟨fp false 1 (-3), by decide +kernel, false, 1, rfl, rfl⟩
  · exact ⟨fp false 2 (-3), by decide +kernel, false, 2, rfl, rfl⟩
  · exact ⟨fp false 3 (-3), by decide +kernel, false, 3, rfl, rfl⟩
  · exact ⟨fp false 4 (-3), by decide +kernel, false, 4, rfl, rfl⟩
  · exact ⟨fp false 5 (-3), by decide +kernel, false, 5, rfl, rfl⟩
  · exact ⟨fp false 6 (-3), by decide +kernel, false, 6, rfl, rfl⟩
  · exact ⟨fp false 7 (-3), by decide +kernel, false, 7, rfl, rfl⟩
/-- A whole number, and eighths. -/
theorem parted (x : Int) (p : Nat) (hp : p < 8) (h1 : -1099511627776 ≤ x) (h2 : x ≤ 1099511627776) :
    ∃ c d, floatBits .quo .f64 (floatOfInt .f64 p) 4620693217682128896 = some c ∧ floatBits .add .f64 (floatOfInt .f64 x) c = some d ∧ IsG d (8 * x + p) := by
  obtain ⟨c, hc, hg⟩ := eighth p hp
  obtain ⟨d, hd, hgd⟩ := ((isF_ofInt x).toG (by omega)).add hg (by omega) (by omega)
  exact ⟨c, d, hc, hd, hgd⟩
/-- What whole says of any number. -/
theorem whole_part (d : Nat) (x : Int) (p : Nat) (hp : p < 8) (h1 : -1099511627776 ≤ x) (h2 : x ≤ 1099511627776) (h : IsG d (8 * x + p)) :
    ∃ c, ∀ w, Calls Try.prog 21 #[.float .f64 d] w fun e w' => e = .returned (.tuple #[.float .f64 c, .bool (decide (p = 0))]) ∧ w' = w := by
  by_cases h0 : p = 0
  · subst h0
    exact ⟨_, whole_yes d x (by simpa using h) h1 h2⟩
  · rw [decide_eq_false h0]
    exact ⟨_, whole_no d _ h (by omega) (.inl (by omega))⟩
theorem whole_int (x : Int) (h1 : -9223372036854775808 ≤ x) (h2 : x ≤ 9223372036854775807) :
    ∃ c b, (∀ w, Calls Try.prog 21 #[.float .f64 (floatOfInt .f64 x)] w fun e w' => e = .returned (.tuple #[.float .f64 c, .bool b]) ∧ w' = w) ∧ (b = true → -1099511627776 ≤ x ∧ x ≤ 1099511627776) := by
  by_cases h3 : -1099511627776 ≤ x ∧ x ≤ 1099511627776
  · exact ⟨_, true, whole_yes _ x ((isF_ofInt x).toG (by omega)) h3.1 h3.2, fun _ => h3⟩
  · by_cases h4 : x.natAbs < 2 ^ 53
    · exact ⟨_, false, whole_far _ x (isF_ofInt x) h4 (by omega), fun h => by cases h⟩
    · refine ⟨_, false, whole_big _ (decide (x < 0)) ?_, fun h => by cases h⟩
      exact big_ofNat _ _ (by omega) (by omega)
end Go.Proofs.Ytjjebkgljgfecaa

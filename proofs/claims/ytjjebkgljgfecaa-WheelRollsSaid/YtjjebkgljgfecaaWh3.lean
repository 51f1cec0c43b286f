/- The wheel: Write. (printed by gen/wh3.py) -/
import Derived.Test.YtjjebkgljgfecaaWh2
import Derived.Deep.RegionHeld3
import Derived.Deep.RegionWith
import Derived.Deep.DrawnRows
namespace Go.Proofs.Ytjjebkgljgfecaa
set_option linter.unusedVariables false
set_option linter.unusedSimpArgs false
open Go.RowKit
attribute [local go_sem] run_store_complex run_store_float
attribute [local go_sem ↓] Go.wp_at_zero Go.wp_at_succ

/-- The parts of a way. -/
def wx : Nat → Int | 0 => 1 | 1 => 0 | 2 => -1 | _ => 0
def wy : Nat → Int | 0 => 0 | 1 => 1 | 2 => 0 | _ => -1

theorem write_bad (w : World) (g : Nat) (r v t : Int) (h : r < 0 ∨ 2 < r) :
    Calls Try.prog 12 #[.pointer (some ⟨g, 0, none⟩), .int .i64 r, .agg #[.int .u8 v, .int .u8 t]] w fun e w' => e = .returned (.tuple #[.int .i64 0, .int .i64 10]) ∧ Below w.heap.size w w' := by
  rcases h with h | h
  · go_enter Try.func12, Try.ntmps12
    go_wp2_with fail
    go_returns
    exact ⟨rfl, Q.alloc (Below.refl _ _) _⟩
  · have h' : ¬ r < 0 := by omega
    go_enter Try.func12, Try.ntmps12
    go_wp2_with fail
    go_returns
    exact ⟨rfl, Q.alloc (Below.refl _ _) _⟩
theorem write_alarm (w : World) (g : Nat) (r v t : Int) (h : 0 ≤ r ∧ r ≤ 2) (ht : t ≠ 0) :
    Calls Try.prog 12 #[.pointer (some ⟨g, 0, none⟩), .int .i64 r, .agg #[.int .u8 v, .int .u8 t]] w fun e w' => e = .returned (.tuple #[.int .i64 4, .int .i64 20]) ∧ Below w.heap.size w w' := by
  have h1 : ¬ r < 0 := by omega
  have h2 : ¬ 2 < r := by omega
  have h3 : (t == 0) = false := beq_eq_false_iff_ne.2 ht
  have h4 : (t != 0) = true := by simp [bne, h3]
  go_enter Try.func12, Try.ntmps12
  go_wp2_with fail
  go_returns
  exact ⟨rfl, Q.alloc (Below.refl _ _) _⟩
theorem write_other (w : World) (g : Nat) (r v : Int) (h : r = 1 ∨ r = 2) :
    Calls Try.prog 12 #[.pointer (some ⟨g, 0, none⟩), .int .i64 r, .agg #[.int .u8 v, .int .u8 0]] w fun e w' => e = .returned (.tuple #[.int .i64 0, .int .i64 0]) ∧ Below w.heap.size w w' := by
  rcases h with rfl | rfl
  · go_enter Try.func12, Try.ntmps12
    go_wp2_with fail
    go_returns
    exact ⟨rfl, Q.alloc (Below.refl _ _) _⟩
  · go_enter Try.func12, Try.ntmps12
    go_wp2_with fail
    go_returns
    exact ⟨rfl, Q.alloc (Below.refl _ _) _⟩
theorem Chg.setRow (w : World) (g : Nat) (cs : Array Value) : Chg (· = g) w (w.setRow g cs) := ⟨rfl, rfl, rfl, by simp, fun b _ hb => setRow_other w g b cs (fun e => hb e)⟩
theorem Chg.alloc {S : Nat → Prop} {w w' : World} (h : Chg S w w') (o : Obj) : Chg S w (w'.alloc o) := h.trans (.of (Q.alloc (Below.refl _ _) o))
theorem Chg.drew {S : Nat → Prop} {w w' : World} (h : Chg S w w') : Chg S w w'.drew := h.trans (.of (Q.drew (Below.refl _ _)))
theorem Chg.drewN {S : Nat → Prop} {w w' : World} (h : Chg S w w') (n : Nat) : Chg S w (w'.drewN n) := h.trans (.of (Q.drewN (Below.refl _ _) n))
theorem isF_one : IsF 4607182418800017408 1 := fo_1 ▸ isF_ofInt 1
theorem isF_zero : IsF 0 0 := fo_0 ▸ isF_ofInt 0
theorem isF_mone : IsF 13830554455654793216 (-1) := ⟨true, 1, by decide +kernel, rfl⟩
theorem bnd_way (k : Nat) : (wx k).natAbs < 2 ^ 20 ∧ (wy k).natAbs < 2 ^ 20 ∧ -1 ≤ wx k ∧ wx k ≤ 1 ∧ -1 ≤ wy k ∧ wy k ≤ 1 := by
  rcases k with _ | _ | _ | k
  · decide
  · decide
  · decide
  · exact ⟨(by decide : (0 : Int).natAbs < 2 ^ 20), (by decide : (-1 : Int).natAbs < 2 ^ 20), (by decide : (-1 : Int) ≤ 0), (by decide : (0 : Int) ≤ 1), (by decide : (-1 : Int) ≤ -1), (by decide : (-1 : Int) ≤ 1)⟩
/-- A turn. -/
theorem turned (k : Nat) (hk : k < 4) (q : Nat) (hq : q < 4) : bk (wx k * wx q - wy k * wy q) = wx ((k + q) % 4) ∧ bk (wx k * wy q + wy k * wx q) = wy ((k + q) % 4) := by
  have : ∀ k, k < 4 → ∀ q, q < 4 → bk (wx k * wx q - wy k * wy q) = wx ((k + q) % 4) ∧ bk (wx k * wy q + wy k * wx q) = wy ((k + q) % 4) := by decide
  exact this k hk q hq
theorem turn_bnd (k : Nat) (hk : k < 4) (q : Nat) (hq : q < 4) : -1099511627776 ≤ wx k * wx q - wy k * wy q ∧ wx k * wx q - wy k * wy q ≤ 1099511627776 ∧ -1099511627776 ≤ wx k * wy q + wy k * wx q ∧ wx k * wy q + wy k * wx q ≤ 1099511627776 := by
  have : ∀ k, k < 4 → ∀ q, q < 4 → -1099511627776 ≤ wx k * wx q - wy k * wy q ∧ wx k * wx q - wy k * wy q ≤ 1099511627776 ∧ -1099511627776 ≤ wx k * wy q + wy k * wx q ∧ wx k * wy q + wy k * wx q ≤ 1099511627776 := by decide
  exact this k hk q hq
theorem rolled (X Y : Int) (k n : Nat) (hk : k < 4) (hn : n < 64) (hX : -128 ≤ X ∧ X ≤ 127) (hY : -128 ≤ Y ∧ Y ≤ 127) :
    ∃ r i, cMulBits (fo (wx k)) (fo (wy k)) (fo n) 0 = some (r, i) ∧ ∃ s j, cSumBits .add .f64 (fo X) (fo Y) r i = some (s, j) ∧ ∀ W, Calls Try.prog 8 #[.complex .f64 s j] W fun e w' => e = .returned (.complex .f64 (fo (bk (X + n * wx k))) (fo (bk (Y + n * wy k)))) ∧ w' = W := by
  have hb := bnd_way k
  have e1 : wx k * n - wy k * 0 = n * wx k := by rw [Int.mul_zero, Int.sub_zero, Int.mul_comm]
  have e2 : wx k * 0 + wy k * n = n * wy k := by rw [Int.mul_zero, Int.zero_add, Int.mul_comm]
  obtain ⟨r, i, hm, hr, hi⟩ := cMul_F (isF_ofInt (wx k)) (isF_ofInt (wy k)) (isF_ofInt n) isF_zero hb.1 hb.2.1 (by omega) (by decide)
  rw [e1] at hr
  rw [e2] at hi
  have hwx : -64 ≤ n * wx k ∧ n * wx k ≤ 64 := by
    obtain ⟨-, -, h1, h2, -, -⟩ := hb
    rcases (by omega : wx k = -1 ∨ wx k = 0 ∨ wx k = 1) with h | h | h <;> rw [h] <;> omega
  have hwy : -64 ≤ n * wy k ∧ n * wy k ≤ 64 := by
    obtain ⟨-, -, -, -, h1, h2⟩ := hb
    rcases (by omega : wy k = -1 ∨ wy k = 0 ∨ wy k = 1) with h | h | h <;> rw [h] <;> omega
  obtain ⟨s, j, ha, hs, hj⟩ := cAdd_F (isF_ofInt X) (isF_ofInt Y) hr hi (by omega) (by omega) (by omega) (by omega)
  exact ⟨r, i, hm, s, j, ha, fun W => whole2_F s j _ _ hs hj (by omega) (by omega) (by omega) (by omega) W⟩
/-- What the wheel's cells are. -/
abbrev wcs (X Y : Int) (k : Nat) (v : Int) : Array Value := wc (fo X) (fo Y) (fo (wx k)) (fo (wy k)) v
set_option maxHeartbeats 1600000 in
theorem write_turn0 (w : World) (g k : Nat) (X Y v b : Int) (n : Nat) (hk : k < 4) (hn : n < 64) (hb : b = 4 * n + 0) (hX : -128 ≤ X ∧ X ≤ 127) (hY : -128 ≤ Y ∧ Y ≤ 127) (h : Blk w g 57 (wcs X Y k v)) :
    Calls Try.prog 12 #[.pointer (some ⟨g, 0, none⟩), .int .i64 0, .agg #[.int .u8 b, .int .u8 0]] w fun e w' => e = .returned (.tuple #[.int .i64 0, .int .i64 0]) ∧ Blk w' g 57 (wcs (bk (X + n * wx ((k + 0) % 4))) (bk (Y + n * wy ((k + 0) % 4))) ((k + 0) % 4) b) ∧ Chg (· = g) w w' := by
  have hc0 := h.cell 0
  have hc1 := h.cell 1
  have hc2 := h.cell 2
  have hf0 := h.frozen 0
  have hf1 := h.frozen 1
  have hf2 := h.frozen 2
  have hcl := h.lt
  have hne : g ≠ w.heap.size := by omega
  have hne2 : g ≠ w.heap.size + 1 := by omega
  have hm4 : b.tmod 4 = 0 := by rw [Int.tmod_eq_emod_of_nonneg (by omega)]; omega
  have hd4 : b.tdiv 4 = (n : Int) := by rw [Int.tdiv_eq_ediv_of_nonneg (by omega)]; omega
  have hb0 : 0 ≤ b := by omega
  have hb1 : b ≤ 255 := by omega
  obtain ⟨r, i, hm, hr, hi⟩ := cMul_F (isF_ofInt (wx k)) (isF_ofInt (wy k)) (show IsF _ (wx 0) from isF_one) (show IsF _ (wy 0) from isF_zero) (bnd_way k).1 (bnd_way k).2.1 (by decide) (by decide)
  have W1 := fun W => whole2_F r i _ _ hr hi (turn_bnd k hk 0 (by omega)).1 (turn_bnd k hk 0 (by omega)).2.1 (turn_bnd k hk 0 (by omega)).2.2.1 (turn_bnd k hk 0 (by omega)).2.2.2 W
  rw [(turned k hk 0 (by omega)).1, (turned k hk 0 (by omega)).2] at W1
  obtain ⟨r2, i2, hm2, r3, i3, ha2, W2⟩ := rolled X Y ((k + 0) % 4) n (by omega) hn hX hY
  have M1 := fun W => run_complex_mul (P := Try.prog) (w := W) 24 _ _ _ _ _ _ hm
  have M2 := fun W => run_complex_mul (P := Try.prog) (w := W) 24 _ _ _ _ _ _ hm2
  have M3 := fun W => run_complex_sum (P := Try.prog) (w := W) .add (.inl rfl) 24 .f64 _ _ _ _ _ _ ha2
  clear hm hr hi hm2 ha2 hb
  generalize (k + 0) % 4 = k' at *
  go_enter Try.func12, Try.ntmps12
  go_wp2_with fail
  go_region_with ((go_at_call 8; (with_reducible refine (W1 _).mono ?_); rintro e w1 ⟨rfl, rfl⟩))
  all_goals go_wp2_with fail
  all_goals go_region_with ((go_at_call 8; (with_reducible refine (W2 _).mono ?_); rintro e w1 ⟨rfl, rfl⟩))
  all_goals go_wp2_with fail
  all_goals go_returns
  all_goals
    refine ⟨rfl, ?_⟩
    rw [h.setCell, h.setCell_setRow, h.setCell_setRow]
    rw [show (((wcs X Y k v).setIfInBounds 1 (.complex .f64 (fo (wx k')) (fo (wy k')))).setIfInBounds 0 (.complex .f64 (fo (bk (X + n * wx k'))) (fo (bk (Y + n * wy k'))))).setIfInBounds 2 (.int .u8 b) = wcs (bk (X + n * wx k')) (bk (Y + n * wy k')) k' b from rfl]
    have hB := h.setRow (wcs (bk (X + n * wx k')) (bk (Y + n * wy k')) k' b)
    have hC := Chg.setRow w g (wcs (bk (X + n * wx k')) (bk (Y + n * wy k')) k' b)
    generalize w.setRow g (wcs (bk (X + n * wx k')) (bk (Y + n * wy k')) k' b) = W at hB hC ⊢
    constructor
    · repeat' (first | with_reducible assumption | with_reducible refine Blk.alloc ?_ _ | with_reducible refine Blk.drew ?_ | with_reducible refine Blk.drewN ?_ _)
    · repeat' (first | with_reducible assumption | with_reducible refine Chg.alloc ?_ _ | with_reducible refine Chg.drew ?_ | with_reducible refine Chg.drewN ?_ _)
set_option maxHeartbeats 1600000 in
theorem write_turn1 (w : World) (g k : Nat) (X Y v b : Int) (n : Nat) (hk : k < 4) (hn : n < 64) (hb : b = 4 * n + 1) (hX : -128 ≤ X ∧ X ≤ 127) (hY : -128 ≤ Y ∧ Y ≤ 127) (h : Blk w g 57 (wcs X Y k v)) :
    Calls Try.prog 12 #[.pointer (some ⟨g, 0, none⟩), .int .i64 0, .agg #[.int .u8 b, .int .u8 0]] w fun e w' => e = .returned (.tuple #[.int .i64 0, .int .i64 0]) ∧ Blk w' g 57 (wcs (bk (X + n * wx ((k + 1) % 4))) (bk (Y + n * wy ((k + 1) % 4))) ((k + 1) % 4) b) ∧ Chg (· = g) w w' := by
  have hc0 := h.cell 0
  have hc1 := h.cell 1
  have hc2 := h.cell 2
  have hf0 := h.frozen 0
  have hf1 := h.frozen 1
  have hf2 := h.frozen 2
  have hcl := h.lt
  have hne : g ≠ w.heap.size := by omega
  have hne2 : g ≠ w.heap.size + 1 := by omega
  have hm4 : b.tmod 4 = 1 := by rw [Int.tmod_eq_emod_of_nonneg (by omega)]; omega
  have hd4 : b.tdiv 4 = (n : Int) := by rw [Int.tdiv_eq_ediv_of_nonneg (by omega)]; omega
  have hb0 : 0 ≤ b := by omega
  have hb1 : b ≤ 255 := by omega
  obtain ⟨r, i, hm, hr, hi⟩ := cMul_F (isF_ofInt (wx k)) (isF_ofInt (wy k)) (show IsF _ (wx 1) from isF_zero) (show IsF _ (wy 1) from isF_one) (bnd_way k).1 (bnd_way k).2.1 (by decide) (by decide)
  have W1 := fun W => whole2_F r i _ _ hr hi (turn_bnd k hk 1 (by omega)).1 (turn_bnd k hk 1 (by omega)).2.1 (turn_bnd k hk 1 (by omega)).2.2.1 (turn_bnd k hk 1 (by omega)).2.2.2 W
  rw [(turned k hk 1 (by omega)).1, (turned k hk 1 (by omega)).2] at W1
  obtain ⟨r2, i2, hm2, r3, i3, ha2, W2⟩ := rolled X Y ((k + 1) % 4) n (by omega) hn hX hY
  have M1 := fun W => run_complex_mul (P := Try.prog) (w := W) 24 _ _ _ _ _ _ hm
  have M2 := fun W => run_complex_mul (P := Try.prog) (w := W) 24 _ _ _ _ _ _ hm2
  have M3 := fun W => run_complex_sum (P := Try.prog) (w := W) .add (.inl rfl) 24 .f64 _ _ _ _ _ _ ha2
  clear hm hr hi hm2 ha2 hb
  generalize (k + 1) % 4 = k' at *
  go_enter Try.func12, Try.ntmps12
  go_wp2_with fail
  go_region_with ((go_at_call 8; (with_reducible refine (W1 _).mono ?_); rintro e w1 ⟨rfl, rfl⟩))
  all_goals go_wp2_with fail
  all_goals go_region_with ((go_at_call 8; (with_reducible refine (W2 _).mono ?_); rintro e w1 ⟨rfl, rfl⟩))
  all_goals go_wp2_with fail
  all_goals go_returns
  all_goals
    refine ⟨rfl, ?_⟩
    rw [h.setCell, h.setCell_setRow, h.setCell_setRow]
    rw [show (((wcs X Y k v).setIfInBounds 1 (.complex .f64 (fo (wx k')) (fo (wy k')))).setIfInBounds 0 (.complex .f64 (fo (bk (X + n * wx k'))) (fo (bk (Y + n * wy k'))))).setIfInBounds 2 (.int .u8 b) = wcs (bk (X + n * wx k')) (bk (Y + n * wy k')) k' b from rfl]
    have hB := h.setRow (wcs (bk (X + n * wx k')) (bk (Y + n * wy k')) k' b)
    have hC := Chg.setRow w g (wcs (bk (X + n * wx k')) (bk (Y + n * wy k')) k' b)
    generalize w.setRow g (wcs (bk (X + n * wx k')) (bk (Y + n * wy k')) k' b) = W at hB hC ⊢
    constructor
    · repeat' (first | with_reducible assumption | with_reducible refine Blk.alloc ?_ _ | with_reducible refine Blk.drew ?_ | with_reducible refine Blk.drewN ?_ _)
    · repeat' (first | with_reducible assumption | with_reducible refine Chg.alloc ?_ _ | with_reducible refine Chg.drew ?_ | with_reducible refine Chg.drewN ?_ _)
end Go.Proofs.Ytjjebkgljgfecaa

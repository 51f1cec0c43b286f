/- The wheel: Write, whole. (printed by gen/wh3.py) -/
import Derived.Test.YtjjebkgljgfecaaWh3
namespace Go.Proofs.Ytjjebkgljgfecaa
set_option linter.unusedVariables false
set_option linter.unusedSimpArgs false
open Go.RowKit
attribute [local go_sem] run_store_complex run_store_float
attribute [local go_sem ↓] Go.wp_at_zero Go.wp_at_succ

set_option maxHeartbeats 1600000 in
theorem write_turn2 (w : World) (g k : Nat) (X Y v b : Int) (n : Nat) (hk : k < 4) (hn : n < 64) (hb : b = 4 * n + 2) (hX : -128 ≤ X ∧ X ≤ 127) (hY : -128 ≤ Y ∧ Y ≤ 127) (h : Blk w g 57 (wcs X Y k v)) :
    Calls Try.prog 12 #[.pointer (some ⟨g, 0, none⟩), .int .i64 0, .agg #[.int .u8 b, .int .u8 0]] w fun e w' => e = .returned (.tuple #[.int .i64 0, .int .i64 0]) ∧ Blk w' g 57 (wcs (bk (X + n * wx ((k + 2) % 4))) (bk (Y + n * wy ((k + 2) % 4))) ((k + 2) % 4) b) ∧ Chg (· = g) w w' := by
  have hc0 := h.cell 0
  have hc1 := h.cell 1
  have hc2 := h.cell 2
  have hf0 := h.frozen 0
  have hf1 := h.frozen 1
  have hf2 := h.frozen 2
  have hcl := h.lt
  have hne : g ≠ w.heap.size := by omega
  have hne2 : g ≠ w.heap.size + 1 := by omega
  have hm4 : b.tmod 4 = 2 := by rw [Int.tmod_eq_emod_of_nonneg (by omega)]; omega
  have hd4 : b.tdiv 4 = (n : Int) := by rw [Int.tdiv_eq_ediv_of_nonneg (by omega)]; omega
  have hb0 : 0 ≤ b := by omega
  have hb1 : b ≤ 255 := by omega
  obtain ⟨r, i, hm, hr, hi⟩ := cMul_F (isF_ofInt (wx k)) (isF_ofInt (wy k)) (show IsF _ (wx 2) from isF_mone) (show IsF _ (wy 2) from isF_zero) (bnd_way k).1 (bnd_way k).2.1 (by decide) (by decide)
  have W1 := fun W => whole2_F r i _ _ hr hi (turn_bnd k hk 2 (by omega)).1 (turn_bnd k hk 2 (by omega)).2.1 (turn_bnd k hk 2 (by omega)).2.2.1 (turn_bnd k hk 2 (by omega)).2.2.2 W
  rw [(turned k hk 2 (by omega)).1, (turned k hk 2 (by omega)).2] at W1
  obtain ⟨r2, i2, hm2, r3, i3, ha2, W2⟩ := rolled X Y ((k + 2) % 4) n (by omega) hn hX hY
  have M1 := fun W => run_complex_mul (P := Try.prog) (w := W) 24 _ _ _ _ _ _ hm
  have M2 := fun W => run_complex_mul (P := Try.prog) (w := W) 24 _ _ _ _ _ _ hm2
  have M3 := fun W => run_complex_sum (P := Try.prog) (w := W) .add (.inl rfl) 24 .f64 _ _ _ _ _ _ ha2
  clear hm hr hi hm2 ha2 hb
  generalize (k + 2) % 4 = k' at *
  go_enter Try.func12, Try.ntmps12
  go_wp2_with fail
  go_region_with ((go_at_call 8; (with_reducible refine (W1 _).mono ?_); rintro e w1 ⟨rfl, rfl⟩))
  all_goals go_wp2_with fail
  all_goals go_region_with ((go_at_call 8; (with_reducible refine (W2 _).mono ?_); rintro e w1 ⟨rfl, rfl⟩))
  all_goals go_wp2_with fail
  all_goals go_returns
  all_goals
    refine ⟨rfl, ?_⟩
    rw [h.setCell, h.setCell_setRow, h.setCell_setRow]
    rw [show (((wcs X Y k v).setIfInBounds 1 (.complex .f64 (fo (wx k')) (fo (wy k')))).setIfInBounds 0 (.complex .f64 (fo (bk (X + n * wx k'))) (fo (bk (Y + n * wy k'))))).setIfInBounds 2 (.int .u8 b) = wcs (bk (X + n * wx k')) (bk (Y + n * wy k')) k' b from rfl]
    have hB := h.setRow (wcs (bk (X + n * wx k')) (bk (Y + n * wy k')) k' b)
    have hC := Chg.setRow w g (wcs (bk (X + n * wx k')) (bk (Y + n * wy k')) k' b)
    generalize w.setRow g (wcs (bk (X + n * wx k')) (bk (Y + n * wy k')) k' b) = W at hB hC ⊢
    constructor
    · repeat' (first | with_reducible assumption | with_reducible refine Blk.alloc ?_ _ | with_reducible refine Blk.drew ?_ | with_reducible refine Blk.drewN ?_ _)
    · repeat' (first | with_reducible assumption | with_reducible refine Chg.alloc ?_ _ | with_reducible refine Chg.drew ?_ | with_reducible refine Chg.drewN ?_ _)
set_option maxHeartbeats 1600000 in
theorem write_turn3 (w : World) (g k : Nat) (X Y v b : Int) (n : Nat) (hk : k < 4) (hn : n < 64) (hb : b = 4 * n + 3) (hX : -128 ≤ X ∧ X ≤ 127) (hY : -128 ≤ Y ∧ Y ≤ 127) (h : Blk w g 57 (wcs X Y k v)) :
    Calls Try.prog 12 #[.pointer (some ⟨g, 0, none⟩), .int .i64 0, .agg #[.int .u8 b, .int .u8 0]] w fun e w' => e = .returned (.tuple #[.int .i64 0, .int .i64 0]) ∧ Blk w' g 57 (wcs (bk (X + n * wx ((k + 3) % 4))) (bk (Y + n * wy ((k + 3) % 4))) ((k + 3) % 4) b) ∧ Chg (· = g) w w' := by
  have hc0 := h.cell 0
  have hc1 := h.cell 1
  have hc2 := h.cell 2
  have hf0 := h.frozen 0
  have hf1 := h.frozen 1
  have hf2 := h.frozen 2
  have hcl := h.lt
  have hne : g ≠ w.heap.size := by omega
  have hne2 : g ≠ w.heap.size + 1 := by omega
  have hm4 : b.tmod 4 = 3 := by rw [Int.tmod_eq_emod_of_nonneg (by omega)]; omega
  have hd4 : b.tdiv 4 = (n : Int) := by rw [Int.tdiv_eq_ediv_of_nonneg (by omega)]; omega
  have hb0 : 0 ≤ b := by omega
  have hb1 : b ≤ 255 := by omega
  obtain ⟨r, i, hm, hr, hi⟩ := cMul_F (isF_ofInt (wx k)) (isF_ofInt (wy k)) (show IsF _ (wx 3) from isF_zero) (show IsF _ (wy 3) from isF_mone) (bnd_way k).1 (bnd_way k).2.1 (by decide) (by decide)
  have W1 := fun W => whole2_F r i _ _ hr hi (turn_bnd k hk 3 (by omega)).1 (turn_bnd k hk 3 (by omega)).2.1 (turn_bnd k hk 3 (by omega)).2.2.1 (turn_bnd k hk 3 (by omega)).2.2.2 W
  rw [(turned k hk 3 (by omega)).1, (turned k hk 3 (by omega)).2] at W1
  obtain ⟨r2, i2, hm2, r3, i3, ha2, W2⟩ := rolled X Y ((k + 3) % 4) n (by omega) hn hX hY
  have M1 := fun W => run_complex_mul (P := Try.prog) (w := W) 24 _ _ _ _ _ _ hm
  have M2 := fun W => run_complex_mul (P := Try.prog) (w := W) 24 _ _ _ _ _ _ hm2
  have M3 := fun W => run_complex_sum (P := Try.prog) (w := W) .add (.inl rfl) 24 .f64 _ _ _ _ _ _ ha2
  clear hm hr hi hm2 ha2 hb
  generalize (k + 3) % 4 = k' at *
  go_enter Try.func12, Try.ntmps12
  go_wp2_with fail
  go_region_with ((go_at_call 8; (with_reducible refine (W1 _).mono ?_); rintro e w1 ⟨rfl, rfl⟩))
  all_goals go_wp2_with fail
  all_goals go_region_with ((go_at_call 8; (with_reducible refine (W2 _).mono ?_); rintro e w1 ⟨rfl, rfl⟩))
  all_goals go_wp2_with fail
  all_goals go_returns
  all_goals
    refine ⟨rfl, ?_⟩
    rw [h.setCell, h.setCell_setRow, h.setCell_setRow]
    rw [show (((wcs X Y k v).setIfInBounds 1 (.complex .f64 (fo (wx k')) (fo (wy k')))).setIfInBounds 0 (.complex .f64 (fo (bk (X + n * wx k'))) (fo (bk (Y + n * wy k'))))).setIfInBounds 2 (.int .u8 b) = wcs (bk (X + n * wx k')) (bk (Y + n * wy k')) k' b from rfl]
    have hB := h.setRow (wcs (bk (X + n * wx k')) (bk (Y + n * wy k')) k' b)
    have hC := Chg.setRow w g (wcs (bk (X + n * wx k')) (bk (Y + n * wy k')) k' b)
    generalize w.setRow g (wcs (bk (X + n * wx k')) (bk (Y + n * wy k')) k' b) = W at hB hC ⊢
    constructor
    · repeat' (first | with_reducible assumption | with_reducible refine Blk.alloc ?_ _ | with_reducible refine Blk.drew ?_ | with_reducible refine Blk.drewN ?_ _)
    · repeat' (first | with_reducible assumption | with_reducible refine Chg.alloc ?_ _ | with_reducible refine Chg.drew ?_ | with_reducible refine Chg.drewN ?_ _)
/-- What a wheel has. -/
structure St where
  X : Int
  Y : Int
  k : Nat
  v : Int
def St.ok (s : St) : Prop := s.k < 4 ∧ (-128 ≤ s.X ∧ s.X ≤ 127) ∧ (-128 ≤ s.Y ∧ s.Y ≤ 127) ∧ 0 ≤ s.v ∧ s.v ≤ 255
def St.cells (s : St) : Array Value := wcs s.X s.Y s.k s.v
def St.roll (s : St) (b : Int) : St := ⟨bk (s.X + b / 4 * wx ((s.k + (b % 4).toNat) % 4)), bk (s.Y + b / 4 * wy ((s.k + (b % 4).toNat) % 4)), (s.k + (b % 4).toNat) % 4, b⟩
theorem bk_bnd (n : Int) : -128 ≤ bk n ∧ bk n ≤ 127 := by unfold bk; omega
theorem St.ok_roll (s : St) {b : Int} (hb : 0 ≤ b ∧ b ≤ 255) : (s.roll b).ok := ⟨Nat.mod_lt _ (by omega), bk_bnd _, bk_bnd _, hb⟩
theorem write_turn (w : World) (g : Nat) (s : St) (b : Int) (hs : s.ok) (hb : 0 ≤ b ∧ b ≤ 255) (h : Blk w g 57 s.cells) :
    Calls Try.prog 12 #[.pointer (some ⟨g, 0, none⟩), .int .i64 0, .agg #[.int .u8 b, .int .u8 0]] w fun e w' => e = .returned (.tuple #[.int .i64 0, .int .i64 0]) ∧ Blk w' g 57 (s.roll b).cells ∧ Chg (· = g) w w' := by
  obtain ⟨X, Y, k, v⟩ := s
  obtain ⟨hk, hX, hY, hv⟩ := hs
  obtain ⟨n, hn⟩ : ∃ n : Nat, (n : Int) = b / 4 := ⟨(b / 4).toNat, by omega⟩
  have key : ∀ q : Nat, b % 4 = q → (⟨X, Y, k, v⟩ : St).roll b = ⟨bk (X + n * wx ((k + q) % 4)), bk (Y + n * wy ((k + q) % 4)), (k + q) % 4, b⟩ := by
    intro q hq
    unfold St.roll
    rw [hq, hn]
    rfl
  rcases (by omega : b % 4 = (0 : Nat) ∨ b % 4 = (1 : Nat) ∨ b % 4 = (2 : Nat) ∨ b % 4 = (3 : Nat)) with hq | hq | hq | hq
  · rw [key 0 hq]
    exact write_turn0 w g k X Y v b n hk (by omega) (by omega) hX hY h
  · rw [key 1 hq]
    exact write_turn1 w g k X Y v b n hk (by omega) (by omega) hX hY h
  · rw [key 2 hq]
    exact write_turn2 w g k X Y v b n hk (by omega) (by omega) hX hY h
  · rw [key 3 hq]
    exact write_turn3 w g k X Y v b n hk (by omega) (by omega) hX hY h
/-- What a write does. -/
def St.put (s : St) (r v t : Int) : St := if r = 0 ∧ t = 0 then s.roll v else s
def ruleOf (r t : Int) : Int := if r < 0 ∨ 2 < r then 0 else if t = 0 then 0 else 4
def errOf (r t : Int) : Int := if r < 0 ∨ 2 < r then 10 else if t = 0 then 0 else 20
theorem St.ok_put {s : St} (hs : s.ok) (r t : Int) {v : Int} (hb : 0 ≤ v ∧ v ≤ 255) : (s.put r v t).ok := by
  unfold St.put
  split
  · exact s.ok_roll hb
  · exact hs
theorem write_calls (w : World) (g : Nat) (s : St) (r v t : Int) (hs : s.ok) (hb : 0 ≤ v ∧ v ≤ 255) (h : Blk w g 57 s.cells) :
    Calls Try.prog 12 #[.pointer (some ⟨g, 0, none⟩), .int .i64 r, .agg #[.int .u8 v, .int .u8 t]] w fun e w' => e = .returned (.tuple #[.int .i64 (ruleOf r t), .int .i64 (errOf r t)]) ∧ Blk w' g 57 (s.put r v t).cells ∧ Chg (· = g) w w' := by
  unfold St.put ruleOf errOf
  by_cases h1 : r < 0 ∨ 2 < r
  · rw [if_pos h1, if_pos h1, if_neg (by omega)]
    exact (write_bad w g r v t h1).mono fun e w' ⟨he, hb⟩ => ⟨he, h.call hb, .of hb⟩
  rw [if_neg h1, if_neg h1]
  by_cases h2 : t = 0
  · subst h2
    rw [if_pos rfl, if_pos rfl]
    by_cases h3 : r = 0
    · subst h3
      rw [if_pos ⟨rfl, rfl⟩]
      exact write_turn w g s v hs hb h
    · rw [if_neg (fun h => h3 h.1)]
      exact (write_other w g r v (by omega)).mono fun e w' ⟨he, hb⟩ => ⟨he, h.call hb, .of hb⟩
  · rw [if_neg h2, if_neg h2, if_neg (fun h => h2 h.2)]
    exact (write_alarm w g r v t (by omega) h2).mono fun e w' ⟨he, hb⟩ => ⟨he, h.call hb, .of hb⟩
end Go.Proofs.Ytjjebkgljgfecaa

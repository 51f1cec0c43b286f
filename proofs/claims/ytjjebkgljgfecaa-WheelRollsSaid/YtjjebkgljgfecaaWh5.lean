/- The wheel: the document's wheel; plain, same, Same. (printed by gen/wh5.py) -/
import Derived.Test.YtjjebkgljgfecaaWh4
import Derived.Test.YtjjebkgljgfecaaQuiet
namespace Go.Proofs.Ytjjebkgljgfecaa
set_option linter.unusedVariables false
set_option linter.unusedSimpArgs false
open Go.RowKit
attribute [local go_sem] run_store_complex run_store_float

theorem ret_int {k : IntKind} {a b : Int} (h : a = b) : Ending.returned (.int k a) = .returned (.int k b) := by rw [h]
theorem back_calls (n : Int) (w : World) (h1 : -1099511627776 ≤ n) (h2 : n ≤ 1099511627776) :
    Calls Try.prog 10 #[.int .i64 n] w fun e w' => e = .returned (.int .i64 (bk n)) ∧ w' = w := by
  have a1 := Int.tmod_lt_of_pos n (b := 256) (by omega)
  have a2 : -256 < n.tmod 256 := Int.lt_tmod_of_pos _ (by omega)
  have a3 : n.tmod 256 = n - 256 * (n.tdiv 256) := Int.tmod_def _ _
  have a4 : bk n = (n.tmod 256 + 128) % 256 - 128 := by unfold bk; omega
  rw [a4]
  clear a3 a4
  obtain ⟨m, hm⟩ : ∃ m, n.tmod 256 = m := ⟨_, rfl⟩
  rw [hm] at a1 a2 ⊢
  by_cases c1 : m < -128
  · go_enter Try.func10, Try.ntmps10
    go_wp2
    go_returns
    exact ⟨ret_int (by omega), rfl⟩
  · by_cases c2 : 127 < m
    · go_enter Try.func10, Try.ntmps10
      go_wp2
      go_returns
      exact ⟨ret_int (by omega), rfl⟩
    · go_enter Try.func10, Try.ntmps10
      go_wp2
      go_returns
      exact ⟨ret_int (by omega), rfl⟩
theorem ways_calls (k : Nat) (w : World) (hk : k < 4) :
    Calls Try.prog 23 #[.int .i64 (k : Int)] w fun e w' => e = .returned (.tuple #[.int .i64 (wx k), .int .i64 (wy k)]) ∧ w' = w := by
  rcases (by omega : k = 0 ∨ k = 1 ∨ k = 2 ∨ k = 3) with rfl | rfl | rfl | rfl
  · show Calls Try.prog 23 #[.int .i64 0] w fun e w' => e = .returned (.tuple #[.int .i64 1, .int .i64 0]) ∧ w' = w
    go_enter Try.func23, Try.ntmps23
    go_wp2
    go_returns
    exact ⟨rfl, rfl⟩
  · show Calls Try.prog 23 #[.int .i64 1] w fun e w' => e = .returned (.tuple #[.int .i64 0, .int .i64 1]) ∧ w' = w
    go_enter Try.func23, Try.ntmps23
    go_wp2
    go_returns
    exact ⟨rfl, rfl⟩
  · show Calls Try.prog 23 #[.int .i64 2] w fun e w' => e = .returned (.tuple #[.int .i64 (-1), .int .i64 0]) ∧ w' = w
    go_enter Try.func23, Try.ntmps23
    go_wp2
    go_returns
    exact ⟨rfl, rfl⟩
  · show Calls Try.prog 23 #[.int .i64 3] w fun e w' => e = .returned (.tuple #[.int .i64 0, .int .i64 (-1)]) ∧ w' = w
    go_enter Try.func23, Try.ntmps23
    go_wp2
    go_returns
    exact ⟨rfl, rfl⟩
abbrev rcs (X Y k v : Int) : Array Value := #[.int .i64 X, .int .i64 Y, .int .i64 k, .int .u8 v]
def St.rcells (s : St) : Array Value := rcs s.X s.Y s.k s.v
set_option maxHeartbeats 1600000 in
theorem refWrite_leaf (w : World) (g : Nat) (X Y v b q n x y k' : Int) (k : Nat) (k2 : Nat) (hk : k < 4) (hk2 : k2 < 4) (hq : b.tmod 4 = q) (hq0 : 0 ≤ q) (hq1 : q < 4) (hn : b.tdiv 4 = n) (hn0 : 0 ≤ n) (hn1 : n < 64) (hb0 : 0 ≤ b) (hb1 : b ≤ 255)
    (hkq : ((k : Int) + q).tmod 4 = k2) (hx : wx k2 = x) (hy : wy k2 = y) (hX : -128 ≤ X ∧ X ≤ 127) (hY : -128 ≤ Y ∧ Y ≤ 127) (h : Blk w g 44 (rcs X Y k v)) :
    Calls Try.prog 18 #[.pointer (some ⟨g, 0, none⟩), .int .u8 b] w fun e w' => e = .returned (.tuple #[]) ∧ w' = w.setRow g (rcs (bk (X + n * x)) (bk (Y + n * y)) k2 b) := by
  have hc0 := h.cell 0
  have hc1 := h.cell 1
  have hc2 := h.cell 2
  have hc3 := h.cell 3
  have hf0 := h.frozen 0
  have hf1 := h.frozen 1
  have hf2 := h.frozen 2
  have hf3 := h.frozen 3
  have W := fun W => ways_calls k2 W hk2
  rw [hx, hy] at W
  have hb := bnd_way k2
  rw [hx, hy] at hb
  have px : -64 ≤ n * x ∧ n * x ≤ 64 := by
    obtain ⟨-, -, h1, h2, -, -⟩ := hb
    rcases (by omega : x = -1 ∨ x = 0 ∨ x = 1) with h | h | h <;> rw [h] <;> omega
  have py : -64 ≤ n * y ∧ n * y ≤ 64 := by
    obtain ⟨-, -, -, -, h1, h2⟩ := hb
    rcases (by omega : y = -1 ∨ y = 0 ∨ y = 1) with h | h | h <;> rw [h] <;> omega
  obtain ⟨px1, px2⟩ := px
  obtain ⟨py1, py2⟩ := py
  have B1 := fun W => back_calls (X + n * x) W (by omega) (by omega)
  have B2 := fun W => back_calls (Y + n * y) W (by omega) (by omega)
  have H := Lib.hid h
  clear h hx hy hb
  obtain ⟨X1, X2⟩ := hX
  obtain ⟨Y1, Y2⟩ := hY
  go_enter Try.func18, Try.ntmps18
  go_wp2_with (first
    | (go_at_call 23; (with_reducible refine (W _).mono ?_); rintro e w1 ⟨rfl, rfl⟩)
    | (go_at_call 10; first | ((with_reducible refine (B1 _).mono ?_); rintro e w1 ⟨rfl, rfl⟩) | ((with_reducible refine (B2 _).mono ?_); rintro e w1 ⟨rfl, rfl⟩)))

  go_end0
  refine ⟨rfl, ?_⟩
  rw [H.out.setCell, H.out.setCell_setRow, H.out.setCell_setRow, H.out.setCell_setRow]
  rfl
theorem refWrite_calls (w : World) (g : Nat) (s : St) (b : Int) (hs : s.ok) (hb : 0 ≤ b ∧ b ≤ 255) (h : Blk w g 44 s.rcells) :
    Calls Try.prog 18 #[.pointer (some ⟨g, 0, none⟩), .int .u8 b] w fun e w' => e = .returned (.tuple #[]) ∧ Blk w' g 44 (s.roll b).rcells ∧ Chg (· = g) w w' := by
  refine (refWrite_leaf w g s.X s.Y s.v b (b % 4) (b / 4) _ _ 0 s.k ((s.k + (b % 4).toNat) % 4) hs.1 (Nat.mod_lt _ (by omega)) (Int.tmod_eq_emod_of_nonneg hb.1) (by omega) (by omega) (Int.tdiv_eq_ediv_of_nonneg hb.1) (by omega) (by omega) hb.1 hb.2 ?_ rfl rfl hs.2.1 hs.2.2.1 h).mono fun e w' ⟨he, hw⟩ => ⟨he, ?_⟩
  · rw [Int.tmod_eq_emod_of_nonneg (by omega)]
    omega
  · subst hw
    exact ⟨h.setRow _, Chg.setRow _ _ _⟩

theorem fo_eq (x : Int) (hx : x.natAbs < 2 ^ 53) : FloatKind.f64.format.order (floatOfInt .f64 x) (floatOfInt .f64 x) = some .eq := by
  rw [(isF_ofInt x).order (isF_ofInt x) hx hx, cmp_eq]
theorem inf_bits : floatBits .quo .f64 4607182418800017408 0 = some 9218868437227405312 := by decide +kernel
theorem inf_gt : FloatKind.f64.format.order 9218868437227405312 0 = some .gt := by decide +kernel
theorem zero_eq : FloatKind.f64.format.order 0 0 = some .eq := by decide +kernel
set_option maxHeartbeats 1600000 in
theorem plain_calls (x y : Int) (w : World) (hx : x.natAbs < 2 ^ 53) (hy : y.natAbs < 2 ^ 53) :
    Calls Try.prog 7 #[.complex .f64 (fo x) (fo y), .int .i64 x, .int .i64 y] w fun e w' => e = .returned (.bool true) ∧ w' = w := by
  have M := fun W => run_float_arith (P := Try.prog) (w := W) .quo 26 .f64 _ _ _ inf_bits
  have i1 := inf_gt
  have i2 := zero_eq
  have i3 : floatOfInt .f64 0 = 0 := fo_0
  by_cases h1 : x = 0 <;> by_cases h2 : y = 0
  · subst h1 h2
    rw [fo_0]
    go_enter Try.func7, Try.ntmps7
    go_wp2
    go_returns
    exact ⟨rfl, rfl⟩
  · subst h1
    rw [fo_0]
    have e1 := fo_eq y hy
    have e2 : (y == 0) = false := beq_eq_false_iff_ne.2 h2
    have e3 : (y != 0) = true := by simp [bne, e2]
    generalize hf : floatOfInt .f64 y = fy at *
    go_enter Try.func7, Try.ntmps7
    go_wp2
    go_returns
    exact ⟨rfl, rfl⟩
  · subst h2
    rw [fo_0]
    have e1 := fo_eq x hx
    have e2 : (x == 0) = false := beq_eq_false_iff_ne.2 h1
    have e3 : (x != 0) = true := by simp [bne, e2]
    generalize hf : floatOfInt .f64 x = fx at *
    go_enter Try.func7, Try.ntmps7
    go_wp2
    go_returns
    exact ⟨rfl, rfl⟩
  · have e1 := fo_eq x hx
    have e2 : (x == 0) = false := beq_eq_false_iff_ne.2 h1
    have e3 : (x != 0) = true := by simp [bne, e2]
    have e4 := fo_eq y hy
    have e5 : (y == 0) = false := beq_eq_false_iff_ne.2 h2
    have e6 : (y != 0) = true := by simp [bne, e5]
    generalize hf : floatOfInt .f64 x = fx at *
    generalize hg : floatOfInt .f64 y = fy at *
    go_enter Try.func7, Try.ntmps7
    go_wp2
    go_returns
    exact ⟨rfl, rfl⟩
end Go.Proofs.Ytjjebkgljgfecaa

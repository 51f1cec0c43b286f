/- The wheel: calls that are handed in; the walk of WheelTurns. (printed by gen/wh10.py) -/
import Derived.Test.YtjjebkgljgfecaaWh9
namespace Go.Proofs.Ytjjebkgljgfecaa
set_option linter.unusedVariables false
set_option linter.unusedSimpArgs false
open Go.RowKit
attribute [local go_sem] run_store_complex run_store_float
attribute [local go_sem ↓] Go.wp_at_zero Go.wp_at_succ

structure WOp where
  r : Int
  v : Int
  t : Int
/-- A slice of calls that is read. -/
def ReadsW (w : World) (B : Nat) (a : Option Addr) (len : Nat) (ops : List WOp) : Prop :=
  ops.length = len ∧ (0 < len → ∃ b off, a = some ⟨b, off, none⟩ ∧ b < B ∧ ∀ (k : Nat) (o : WOp), ops[k]? = some o →
    w.cell? ⟨b, off + k * 3, none⟩ = some (.int .i64 o.r) ∧ w.cell? ⟨b, off + k * 3 + 1, none⟩ = some (.int .u8 o.v) ∧ w.cell? ⟨b, off + k * 3 + 2, none⟩ = some (.int .u8 o.t) ∧ 0 ≤ o.v ∧ o.v ≤ 255)
theorem ReadsW.below {w w' : World} {B : Nat} {a : Option Addr} {len : Nat} {ops : List WOp} (h : ReadsW w B a len ops) (hb : Below B w w') : ReadsW w' B a len ops := by
  refine ⟨h.1, fun hl => ?_⟩
  obtain ⟨b, off, rfl, hlt, hc⟩ := h.2 hl
  refine ⟨b, off, rfl, hlt, fun k o hk => ?_⟩
  obtain ⟨c0, c1, c2, c3⟩ := hc k o hk
  exact ⟨(hb.cell (p := ⟨b, _, none⟩) hlt).trans c0, (hb.cell (p := ⟨b, _, none⟩) hlt).trans c1, (hb.cell (p := ⟨b, _, none⟩) hlt).trans c2, c3⟩
theorem ReadsW.at_ {w : World} {B : Nat} {a : Option Addr} {len : Nat} {ops : List WOp} (h : ReadsW w B a len ops) {k : Nat} (hk : k < len) :
    ∃ b off o, a = some ⟨b, off, none⟩ ∧ b < B ∧ ops[k]? = some o ∧ w.cell? ⟨b, off + k * 3, none⟩ = some (.int .i64 o.r) ∧ w.cell? ⟨b, off + k * 3 + 1, none⟩ = some (.int .u8 o.v) ∧ w.cell? ⟨b, off + k * 3 + 2, none⟩ = some (.int .u8 o.t) ∧ 0 ≤ o.v ∧ o.v ≤ 255 := by
  obtain ⟨b, off, rfl, hb, hc⟩ := h.2 (by omega)
  have hr : ops[k]? = some (ops[k]'(by rw [h.1]; exact hk)) := List.getElem?_eq_getElem _
  exact ⟨b, off, _, rfl, hb, hr, hc k _ hr⟩

def rolls (s : St) (b : Int) : Nat → St
  | 0 => s
  | j + 1 => (rolls s b j).roll b
theorem ok_rolls {s : St} (hs : s.ok) {b : Int} (hb : 0 ≤ b ∧ b ≤ 255) : ∀ j, (rolls s b j).ok
  | 0 => hs
  | j + 1 => St.ok_roll _ hb
theorem bk_bk (a c : Int) : bk (bk a + c) = bk (a + c) := by unfold bk; omega
theorem bk_id {x : Int} (h : -128 ≤ x ∧ x ≤ 127) : bk x = x := by unfold bk; omega
theorem rolls_four (s : St) (hs : s.ok) (m : Int) (h1 : 0 ≤ m) (h2 : m ≤ 31) : rolls s (4 * m + 1) 4 = ⟨s.X, s.Y, s.k, 4 * m + 1⟩ := by
  obtain ⟨X, Y, k, v⟩ := s
  obtain ⟨hk, hX, hY, -⟩ := hs
  have e1 : (4 * m + 1) / 4 = m := by omega
  have e2 : ((4 * m + 1) % 4).toNat = 1 := by omega
  simp only [rolls, St.roll, e1, e2, bk_bk]
  have hk : k < 4 := hk
  have hX : -128 ≤ X ∧ X ≤ 127 := hX
  have hY : -128 ≤ Y ∧ Y ≤ 127 := hY
  rcases (by omega : k = 0 ∨ k = 1 ∨ k = 2 ∨ k = 3) with rfl | rfl | rfl | rfl <;>
    (simp only [wx, wy, St.mk.injEq]; refine ⟨?_, ?_, by decide, trivial⟩ <;> (rw [bk_id (by omega)]; omega))
theorem St.roll_4 (s : St) (hs : s.ok) (m : Int) (h1 : 0 ≤ m) (h2 : m ≤ 63) : s.roll (4 * m) = ⟨bk (s.X + m * wx s.k), bk (s.Y + m * wy s.k), s.k, 4 * m⟩ := by
  have e1 : (4 * m) / 4 = m := by omega
  have e2 : ((4 * m) % 4).toNat = 0 := by omega
  have e3 : (s.k + 0) % 4 = s.k := by have := hs.1; omega
  unfold St.roll
  rw [e1, e2, e3]
/-- What is so behind the way in: the wheel, the two numbers. -/
def TurnsMid (w0 : World) (g bx : Nat) (s : St) (m n : Int) (w : World) : Prop := s.ok ∧ Blk w g 57 s.cells ∧ Blk w bx 22 #[.int .i64 m, .int .i64 n] ∧ Below w0.heap.size w0 w
set_option maxRecDepth 100000 in
set_option maxHeartbeats 3200000 in
theorem wheelTurns_walk (a : Option Addr) (len cap : Nat) (ops : List WOp) (m n : Int) (w : World) (hlen : len ≤ maxLen) (hr : ReadsW w w.heap.size a len ops) :
    Calls Try.prog 4 #[.slice a len cap, .agg #[.int .i64 m, .int .i64 n]] w fun e w' => e = .returned (.bool true) ∧ Below w.heap.size w w' := by
  have HR := Lib.hid hr
  have hl63 : (len : Int) ≤ 9223372036854775807 := by unfold maxLen at hlen; omega
  clear hr hlen
  by_cases hok : len ≤ 100 ∧ 0 ≤ m ∧ m ≤ 31 ∧ 0 ≤ n ∧ n ≤ 31
  · obtain ⟨h1, h2, h3, h4, h5⟩ := hok
    go_enter Try.func4, Try.ntmps4
    go_wp2_with fail
    have b0 : Below w.heap.size w (w.alloc (.cells #[.int .i64 m, .int .i64 n] 22)) := Q.alloc (Below.refl _ _) _
    have d0 := Blk.new w 22 #[.int .i64 m, .int .i64 n]
    (with_reducible refine (newS_calls _).mono ?_)
    rintro e w1 ⟨rfl, hw1⟩
    have g1 : Blk w1 (w.heap.size + 1) 57 St.init.cells := by rw [hw1]; exact Blk.new' (by simp)
    have d1 : Blk w1 w.heap.size 22 #[.int .i64 m, .int .i64 n] := by rw [hw1]; exact d0.alloc _
    have b1 : Below w.heap.size w w1 := by rw [hw1]; exact Q.alloc b0 _
    have sz : (w.alloc (.cells #[.int .i64 m, .int .i64 n] 22)).heap.size = w.heap.size + 1 := by simp
    rw [sz]
    clear hw1 b0 d0 sz
    have p0 := d1.cell 0
    have p1 := d1.cell 1
    go_wp2_with fail
    clear p0 p1
    go_loopw [6] (fun v wr => ∃ (k : Nat) (s : St), v = .int .i64 (k : Int) ∧ k ≤ len ∧ TurnsMid w (w.heap.size + 1) w.heap.size s m n wr)
      (fun v _ => len - (intOf v).toNat)
    case atStart => exact ⟨0, St.init, rfl, Nat.zero_le _, St.ok_init, g1, d1, b1⟩
    case round =>
      obtain ⟨k, s, rfl, hk, hs, hg, hd, hb⟩ := hrel
      clear g1 d1 b1
      by_cases hkn : k < len
      · obtain ⟨b, off, o, rfl, hbl, hget, c0, c1, c2, c3, c4⟩ := (HR.out.below hb).at_ hkn
        have hki : (k : Int) < (len : Int) := by omega
        have hk0 : (0 : Int) ≤ (k : Int) := by omega
        have C := fun V h => write_calls V (w.heap.size + 1) s o.r o.v o.t hs ⟨c3, c4⟩ h
        have hso := St.ok_put hs o.r o.t ⟨c3, c4⟩
        have HG := Lib.hid hg
        have HS := Lib.hid hso
        clear hget hg hs hso c3 c4
        go_wp2_with fail
        go_region_with ((go_at_call 12; (with_reducible refine (C _ (by repeat' (first | exact HG.out | with_reducible refine Blk.drew ?_ | with_reducible refine Blk.drewN ?_ _))).mono ?_); rintro e w5 ⟨rfl, hg5, hc5⟩))
        all_goals
          have hm5 : TurnsMid w (w.heap.size + 1) w.heap.size (s.put o.r o.v o.t) m n w5 := ⟨HS.out, hg5, hd.drew.chg hc5 (by omega), hc5.below hb.drew hb.size (fun b hb => by omega)⟩
          go_wp2
          refine ⟨⟨k + 1, _, by simp, by omega, hm5⟩, by simp [intOf]; omega⟩
      · obtain rfl : k = len := by omega
        have A := fun V h => atS_calls V (w.heap.size + 1) s h
        have Y := fun V h => wayS_calls V (w.heap.size + 1) s h
        have hgl := hg.lt
        go_wp2_with fail
        (with_reducible refine (A _ hg).mono ?_)
        rintro e w6 ⟨rfl, rfl⟩
        go_wp2_with fail
        (with_reducible refine (Y _ hg).mono ?_)
        rintro e w7 ⟨rfl, rfl⟩
        go_wp2_with fail
        (with_reducible refine (cloneS_calls w7 _ s hg).mono ?_)
        rintro e w8 ⟨rfl, hw8⟩
        have h8 : Blk w8 w7.heap.size 57 s.cells := by rw [hw8]; exact Blk.new _ _ _
        have g8 : Blk w8 (w.heap.size + 1) 57 s.cells := by rw [hw8]; exact hg.alloc _
        have d8 : Blk w8 w.heap.size 22 #[.int .i64 m, .int .i64 n] := by rw [hw8]; exact hd.alloc _
        have b8 : Below w.heap.size w w8 := by rw [hw8]; exact Q.alloc hb _
        clear hw8 hg hd hb A Y
        generalize w7.heap.size = h at *
        have W1 : IntKind.u8.wrap (4 * m + 1) = 4 * m + 1 := by rw [IntKind.wrap_u8]; omega
        have W2 : (4 * m + 1) % 256 = 4 * m + 1 := by omega
        go_wp2_with fail
        go_loopw [10, 11, 12] (fun v _ _ wr => ∃ j : Nat, v = .int .i64 (j : Int) ∧ j ≤ 4 ∧ Blk wr h 57 (rolls s (4 * m + 1) j).cells ∧ TurnsMid w (w.heap.size + 1) w.heap.size s m n wr)
          (fun v _ _ _ => 4 - (intOf v).toNat)
        case atStart => exact ⟨0, rfl, by omega, h8, hs, g8, d8, b8⟩
        case round =>
          clear h8 g8 d8 b8
          obtain ⟨j, rfl, hj, h8, -, g8, d8, b8⟩ := hrel
          by_cases hj4 : j < 4
          · have p0 := d8.cell 0
            have C := fun V hV => write_turn V h (rolls s (4 * m + 1) j) (4 * m + 1) (ok_rolls hs (by omega) j) (by omega) hV
            go_wp2_with (go_at_call 12; (with_reducible refine (C _ h8).mono ?_); rintro e w9 ⟨rfl, h9, c9⟩)
            have hm9 : TurnsMid w (w.heap.size + 1) w.heap.size s m n w9 := ⟨hs, g8.chg c9 (by omega), d8.chg c9 (by omega), c9.below b8 b8.size (fun b hb => by omega)⟩
            refine ⟨⟨j + 1, by simp, by omega, h9, hm9⟩, by simp [intOf]; omega⟩
          · obtain rfl : j = 4 := by omega
            have p0 := d8.cell 0
            have p1 := d8.cell 1
            have E4 := rolls_four s hs m h2 h3
            have A := fun V h => atS_calls V (w.heap.size + 1) s h
            rw [E4] at h8
            have A1 := atS_calls wr h _ h8
            have Y1 := wayS_calls wr h _ h8
            have f1 := fo_eq s.X (by have := hs.2.1; omega)
            have f2 := fo_eq s.Y (by have := hs.2.2.1; omega)
            have f3 := fo_eq (wx s.k) (by have := bnd_way s.k; omega)
            have f4 := fo_eq (wy s.k) (by have := bnd_way s.k; omega)
            have z1 : IntKind.u8.wrap (4 * m) = 4 * m := by rw [IntKind.wrap_u8]; omega
            have z2 : (4 * m) % 256 = 4 * m := by omega
            have z3 : IntKind.u8.wrap (4 * n) = 4 * n := by rw [IntKind.wrap_u8]; omega
            have z4 : (4 * n) % 256 = 4 * n := by omega
            have z5 : IntKind.u8.wrap (4 * (m + n)) = 4 * (m + n) := by rw [IntKind.wrap_u8]; omega
            have z6 : (4 * (m + n)) % 256 = 4 * (m + n) := by omega
            go_wp2_with (first
              | (go_at_call 13; (with_reducible refine A1.mono ?_); rintro e w9 ⟨rfl, rfl⟩)
              | (go_at_call 14; (with_reducible refine Y1.mono ?_); rintro e w9 ⟨rfl, rfl⟩))
            clear A1 Y1
            have b9 := b8
            have T1 := write_turn w9 (w.heap.size + 1) s (4 * m) hs (by omega) g8
            (with_reducible refine T1.mono ?_)
            rintro e w10 ⟨rfl, g10, c10⟩
            have h10 := h8.chg c10 (by omega)
            have d10 := d8.chg c10 (by omega)
            have b10 := c10.below b8 b8.size (fun b hb => by omega)
            have p0 := d10.cell 0
            have p1 := d10.cell 1
            clear T1 h8 d8 b8 c10 g8 b9
            go_wp2_with fail
            have T1 := write_turn w10 (w.heap.size + 1) (s.roll (4 * m)) (4 * n) (St.ok_roll _ (by omega)) (by omega) g10
            (with_reducible refine T1.mono ?_)
            rintro e w11 ⟨rfl, g11, c11⟩
            have h11 := h10.chg c11 (by omega)
            have d11 := d10.chg c11 (by omega)
            have b11 := c11.below b10 b10.size (fun b hb => by omega)
            have p0 := d11.cell 0
            have p1 := d11.cell 1
            clear T1 h10 d10 b10 c11 g10
            go_wp2_with fail
            have T1 := write_turn w11 h ⟨s.X, s.Y, s.k, 4 * m + 1⟩ (4 * (m + n)) ⟨hs.1, hs.2.1, hs.2.2.1, by simp only; omega⟩ (by omega) h11
            (with_reducible refine T1.mono ?_)
            rintro e w12 ⟨rfl, h12, c12⟩
            have g12 := g11.chg c12 (by omega)
            have b12 := c12.below b11 b11.size (fun b hb => by omega)
            rw [St.roll_4 s hs m (by omega) (by omega), St.roll_4 ⟨bk (s.X + m * wx s.k), bk (s.Y + m * wy s.k), s.k, 4 * m⟩ ⟨hs.1, bk_bnd _, bk_bnd _, by simp only; omega⟩ n (by omega) (by omega)] at g12
            rw [St.roll_4 ⟨s.X, s.Y, s.k, 4 * m + 1⟩ ⟨hs.1, hs.2.1, hs.2.2.1, by simp only; omega⟩ (m + n) (by omega) (by omega)] at h12
            simp only [bk_bk] at g12
            have q1 : s.X + (m + n) * wx s.k = s.X + m * wx s.k + n * wx s.k := by rw [Int.add_mul, Int.add_assoc]
            have q2 : s.Y + (m + n) * wy s.k = s.Y + m * wy s.k + n * wy s.k := by rw [Int.add_mul, Int.add_assoc]
            simp only [q1, q2] at h12
            have o1 := bk_bnd (s.X + m * wx s.k + n * wx s.k)
            have o2 := bk_bnd (s.Y + m * wy s.k + n * wy s.k)
            clear T1 q1 q2 h11 d11 b11 c12 g11 p0 p1 z1 z2 z3 z4 z5 z6 f1 f2
            generalize bk (s.X + m * wx s.k + n * wx s.k) = P0 at *
            generalize bk (s.Y + m * wy s.k + n * wy s.k) = Q0 at *
            have f1 := fo_eq P0 (by omega)
            have f2 := fo_eq Q0 (by omega)
            have A1 := atS_calls w12 _ _ g12
            have A2 := atS_calls w12 _ _ h12
            have Y1 := wayS_calls w12 _ _ g12
            have Y2 := wayS_calls w12 _ _ h12
            clear g12 h12
            go_wp2_with (first
              | (go_at_call 13; first | ((with_reducible refine A1.mono ?_); rintro e w13 ⟨rfl, rfl⟩) | ((with_reducible refine A2.mono ?_); rintro e w13 ⟨rfl, rfl⟩))
              | (go_at_call 14; first | ((with_reducible refine Y1.mono ?_); rintro e w13 ⟨rfl, rfl⟩) | ((with_reducible refine Y2.mono ?_); rintro e w13 ⟨rfl, rfl⟩))
              | (go_at_call 9; (with_reducible refine (awake12_calls _).mono ?_); rintro e w3 ⟨rfl, b3⟩))
            go_returns
            exact ⟨rfl, Q.call b12 b3⟩
  · go_enter Try.func4, Try.ntmps4
    go_wp2_with fail
    (with_reducible refine (newS_calls _).mono ?_)
    rintro e w1 ⟨rfl, hw1⟩
    have d1 : Blk w1 w.heap.size 22 #[.int .i64 m, .int .i64 n] := by rw [hw1]; exact (Blk.new w _ _).alloc _
    have b1 : Below w.heap.size w w1 := by rw [hw1]; exact Q.alloc (Q.alloc (Below.refl _ _) _) _
    clear hw1
    have p0 := d1.cell 0
    have p1 := d1.cell 1
    go_wp2_with (go_at_call 9; (with_reducible refine (awake12_calls _).mono ?_); rintro e w3 ⟨rfl, b3⟩)
    all_goals
      go_returns
      exact ⟨rfl, Q.call b1 b3⟩
end Go.Proofs.Ytjjebkgljgfecaa

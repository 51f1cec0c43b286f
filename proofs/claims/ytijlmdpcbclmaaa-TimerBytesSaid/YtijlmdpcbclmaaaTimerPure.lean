/- What timers come to, in plain words: ticks, many ticks, registers. No program. -/
import Derived.Test.YtijlmdpcbclmaaaBase
import Derived.Laws.BitsAllLaws
namespace Go.Proofs.Ytijlmdpcbclmaaa
set_option linter.unusedVariables false
set_option linter.unusedSimpArgs false
open Go.RowKit

def TM.ok (t : TM) : Prop := 0 ≤ t.latch ∧ t.latch ≤ 65535 ∧ 0 ≤ t.count ∧ t.count ≤ 65535
instance (t : TM) : Decidable t.ok := by unfold TM.ok; infer_instance
def TM.zero : TM := ⟨0, 0, false, false, false, false⟩

def TM.tick (t : TM) : TM :=
  if t.runs = true then
    if 0 < t.count then { t with count := t.count - 1 }
    else { t with rings := true, runs := t.again, count := if t.again = true then t.latch else t.count }
  else t

def TM.aft (t : TM) : Nat → TM
  | 0 => t
  | n + 1 => t.tick.aft n

theorem TM.aft_add (t : TM) (a b : Nat) : t.aft (a + b) = (t.aft a).aft b := by
  induction a generalizing t with
  | zero => simp [TM.aft]
  | succ a ih => rw [show a + 1 + b = (a + b) + 1 by omega]; simp only [TM.aft]; exact ih _

theorem TM.aft_succ (t : TM) (a : Nat) : t.aft (a + 1) = (t.aft a).tick := by
  rw [TM.aft_add]; rfl

theorem TM.tick_stop {t : TM} (h : t.runs = false) : t.tick = t := by simp [TM.tick, h]
theorem TM.aft_stop {t : TM} (h : t.runs = false) (n : Nat) : t.aft n = t := by
  induction n with
  | zero => rfl
  | succ n ih => simp only [TM.aft]; rw [TM.tick_stop h]; exact ih

theorem TM.tick_ok {t : TM} (h : t.ok) : t.tick.ok := by
  obtain ⟨h1, h2, h3, h4⟩ := h
  unfold TM.tick
  split
  · split
    · exact ⟨h1, h2, by simp only; omega, by simp only; omega⟩
    · refine ⟨h1, h2, ?_, ?_⟩ <;> simp only <;> split <;> omega
  · exact ⟨h1, h2, h3, h4⟩
theorem TM.aft_ok {t : TM} (h : t.ok) (n : Nat) : (t.aft n).ok := by
  induction n generalizing t with
  | zero => exact h
  | succ n ih => exact ih (TM.tick_ok h)

theorem TM.aft_le {t : TM} (hr : t.runs = true) (n : Nat) (h : (n : Int) ≤ t.count) : t.aft n = { t with count := t.count - n } := by
  induction n generalizing t with
  | zero => cases t; simp [TM.aft]
  | succ n ih =>
    simp only [TM.aft]
    have e : t.tick = { t with count := t.count - 1 } := by
      unfold TM.tick; rw [if_pos hr, if_pos (by omega)]
    rw [e, ih (t := { t with count := t.count - 1 }) hr (by simp only; omega)]
    simp only [TM.mk.injEq, true_and, and_true]
    omega

/-- Beyond the count: the count runs out, one tick rings, and what is left goes on from there. -/
theorem TM.aft_gt {t : TM} (hr : t.runs = true) (h0 : 0 ≤ t.count) (n : Nat) (h : t.count < n) :
    t.aft n = (({ t with count := 0 } : TM).tick).aft (n - t.count.toNat - 1) := by
  have e : n = t.count.toNat + ((n - t.count.toNat - 1) + 1) := by omega
  conv => lhs; rw [e, TM.aft_add, TM.aft_le hr _ (by omega)]
  simp only [TM.aft]
  rw [show t.count - (t.count.toNat : Int) = 0 by omega]

/-- A round of one that runs again: as it was. -/
theorem TM.aft_round {t : TM} (hr : t.runs = true) (ha : t.again = true) (hi : t.rings = true) (hc : t.count = t.latch) (h0 : 0 ≤ t.latch) :
    t.aft (t.latch.toNat + 1) = t := by
  rw [TM.aft_gt hr (by omega) _ (by omega)]
  have e : t.latch.toNat + 1 - t.count.toNat - 1 = 0 := by rw [hc]; omega
  rw [e]
  simp only [TM.aft, TM.tick, hr, ha, if_true]
  rw [if_neg (by omega)]
  cases t
  simp_all
theorem TM.aft_rounds {t : TM} (hr : t.runs = true) (ha : t.again = true) (hi : t.rings = true) (hc : t.count = t.latch) (h0 : 0 ≤ t.latch) (k n : Nat) :
    t.aft (k * (t.latch.toNat + 1) + n) = t.aft n := by
  induction k with
  | zero => simp
  | succ k ih =>
    rw [show (k + 1) * (t.latch.toNat + 1) + n = (t.latch.toNat + 1) + (k * (t.latch.toNat + 1) + n) by rw [Nat.succ_mul]; omega, TM.aft_add, TM.aft_round hr ha hi hc h0]
    exact ih
theorem TM.aft_mod {t : TM} (hr : t.runs = true) (ha : t.again = true) (hi : t.rings = true) (hc : t.count = t.latch) (h0 : 0 ≤ t.latch) (n : Nat) :
    t.aft n = t.aft (n % (t.latch.toNat + 1)) := by
  conv => lhs; rw [← Nat.div_add_mod n (t.latch.toNat + 1), Nat.mul_comm]
  exact TM.aft_rounds hr ha hi hc h0 _ _

/-- What is written into a register (0 to 3). -/
def TM.write (t : TM) (reg v : Int) : TM :=
  if reg = 0 then { t with latch := t.latch / 256 * 256 + v }
  else if reg = 1 then { t with latch := t.latch % 256 + 256 * v }
  else if reg = 2 then { t with runs := v % 2 == 1, again := v / 2 % 2 == 1, asks := v / 4 % 2 == 1, count := if v % 2 = 1 then t.latch else t.count }
  else { t with rings := false }

def b2i (b : Bool) : Int := if b = true then 1 else 0
/-- What is read out of a register (0 to 3). -/
def TM.read (t : TM) (reg : Int) : Int :=
  if reg = 0 then t.count % 256
  else if reg = 1 then t.count / 256
  else if reg = 2 then b2i t.runs + 2 * b2i t.again + 4 * b2i t.asks
  else 128 * b2i t.rings

theorem TM.read_range {t : TM} (h : t.ok) {reg : Int} (hr : 0 ≤ reg ∧ reg ≤ 3) : 0 ≤ t.read reg ∧ t.read reg ≤ 255 := by
  obtain ⟨h1, h2, h3, h4⟩ := h
  unfold TM.read
  split
  · omega
  · split
    · omega
    · split
      · cases t.runs <;> cases t.again <;> cases t.asks <;> simp [b2i]
      · cases t.rings <;> simp [b2i]
theorem TM.write_ok {t : TM} (h : t.ok) {reg v : Int} (hv : 0 ≤ v ∧ v < 256) : (t.write reg v).ok := by
  obtain ⟨h1, h2, h3, h4⟩ := h
  unfold TM.write
  split
  · exact ⟨by simp only; omega, by simp only; omega, h3, h4⟩
  · split
    · exact ⟨by simp only; omega, by simp only; omega, h3, h4⟩
    · split
      · refine ⟨h1, h2, ?_, ?_⟩ <;> simp only <;> split <;> omega
      · exact ⟨h1, h2, h3, h4⟩

theorem ofInt_i64 (a : Nat) (ha : a < 9223372036854775808) : (BitVec.ofInt 64 (a : Int)).toNat = a := by
  rw [BitVec.ofInt_natCast, BitVec.toNat_ofNat]; exact Nat.mod_eq_of_lt (by omega)
theorem i64_and_nat (a b : Nat) (ha : a < 9223372036854775808) (hb : b < 9223372036854775808) : bits .and .i64 (a : Int) (b : Int) = ((a &&& b : Nat) : Int) := by
  have hx : a &&& b < 2 ^ 63 := Nat.and_lt_two_pow _ (by omega)
  show IntKind.i64.wrap ((BitVec.ofInt 64 (a : Int) &&& BitVec.ofInt 64 (b : Int)).toNat : Int) = _
  rw [BitVec.toNat_and, ofInt_i64 a ha, ofInt_i64 b hb, IntKind.wrap_i64]
  omega
theorem i64_or_nat (a b : Nat) (ha : a < 9223372036854775808) (hb : b < 9223372036854775808) : bits .or .i64 (a : Int) (b : Int) = ((a ||| b : Nat) : Int) := by
  have hx : a ||| b < 2 ^ 63 := Nat.or_lt_two_pow (by omega) (by omega)
  show IntKind.i64.wrap ((BitVec.ofInt 64 (a : Int) ||| BitVec.ofInt 64 (b : Int)).toNat : Int) = _
  rw [BitVec.toNat_or, ofInt_i64 a ha, ofInt_i64 b hb, IntKind.wrap_i64]
  omega
theorem i64_andNot_nat (a : Nat) (ha : a < 65536) : bits .andNot .i64 (a : Int) 255 = ((a / 256 * 256 : Nat) : Int) := by
  show IntKind.i64.wrap ((BitVec.ofInt 64 (a : Int) &&& ~~~ BitVec.ofInt 64 255).toNat : Int) = _
  have h2 : (~~~ BitVec.ofInt 64 255).toNat = 18446744073709551360 := by decide
  have h1 : a &&& 18446744073709551360 = a / 256 * 256 := by
    apply Nat.eq_of_testBit_eq
    intro i
    rw [Nat.testBit_and]
    have hm : (18446744073709551360 : Nat) = 2 ^ 64 - 1 - (2 ^ 8 - 1) := by decide
    have e : a / 256 * 256 = (a >>> 8) <<< 8 := by rw [Nat.shiftRight_eq_div_pow, Nat.shiftLeft_eq]
    rw [e, Nat.testBit_shiftLeft, Nat.testBit_shiftRight]
    by_cases hi : 8 ≤ i
    · rw [show 8 + (i - 8) = i by omega]
      simp only [hi, decide_true, Bool.true_and]
      by_cases h64 : i < 64
      · have : (18446744073709551360 : Nat).testBit i = true := by
          have : ∀ j : Fin 64, 8 ≤ j.val → (18446744073709551360 : Nat).testBit j.val = true := by decide
          exact this ⟨i, h64⟩ hi
        rw [this, Bool.and_true]
      · have : a.testBit i = false := Nat.testBit_lt_two_pow (Nat.lt_of_lt_of_le ha (by
          have := Nat.pow_le_pow_right (n := 2) (by omega) (show 16 ≤ i by omega)
          omega))
        rw [this, Bool.false_and]
    · have : ∀ j : Fin 8, (18446744073709551360 : Nat).testBit j.val = false := by decide
      rw [this ⟨i, by omega⟩]
      simp [hi]
  rw [BitVec.toNat_and, ofInt_i64 a (by omega), h2, h1, IntKind.wrap_i64]
  omega

theorem latch_low (l v : Int) (h0 : 0 ≤ l) (h1 : l ≤ 65535) (v0 : 0 ≤ v) (v1 : v < 256) : bits .or .i64 (bits .andNot .i64 l 255) v = l / 256 * 256 + v := by
  obtain ⟨a, rfl⟩ := Int.eq_ofNat_of_zero_le h0
  obtain ⟨b, rfl⟩ := Int.eq_ofNat_of_zero_le v0
  rw [i64_andNot_nat a (by omega), i64_or_nat _ _ (by omega) (by omega), nat_join 8 _ _ (by omega) (by omega)]
  omega
theorem latch_high (l v : Int) (h0 : 0 ≤ l) (h1 : l ≤ 65535) (v0 : 0 ≤ v) (v1 : v < 256) : bits .or .i64 (bits .and .i64 l 255) (v * 256) = l % 256 + 256 * v := by
  obtain ⟨a, rfl⟩ := Int.eq_ofNat_of_zero_le h0
  obtain ⟨b, rfl⟩ := Int.eq_ofNat_of_zero_le v0
  have e : bits .and .i64 (a : Int) 255 = ((a % 256 : Nat) : Int) := by
    have := i64_and_nat a 255 (by omega) (by omega)
    rw [nat_mask8] at this
    exact this
  rw [e, show ((b : Int) * 256) = ((b * 256 : Nat) : Int) by omega, i64_or_nat _ _ (by omega) (by omega), Nat.or_comm, nat_join 8 _ _ (by omega) (by omega)]
  omega
theorem bit0 (v : Int) (h : 0 ≤ v ∧ v < 256) : bits .and .u8 v 1 = v % 2 := by
  obtain ⟨a, rfl⟩ := Int.eq_ofNat_of_zero_le h.1
  have := u8_and_nat a 1 (by omega) (by omega)
  rw [nat_mask1] at this
  exact this
theorem bit1 (v : Int) (h : 0 ≤ v ∧ v < 256) : bits .and .u8 v 2 = v / 2 % 2 * 2 := by
  obtain ⟨a, rfl⟩ := Int.eq_ofNat_of_zero_le h.1
  have := u8_and_nat a 2 (by omega) (by omega)
  rw [show (2 : Nat) = 2 ^ 1 from rfl, nat_bit 1] at this
  exact this
theorem bit2 (v : Int) (h : 0 ≤ v ∧ v < 256) : bits .and .u8 v 4 = v / 4 % 2 * 4 := by
  obtain ⟨a, rfl⟩ := Int.eq_ofNat_of_zero_le h.1
  have := u8_and_nat a 4 (by omega) (by omega)
  rw [show (4 : Nat) = 2 ^ 2 from rfl, nat_bit 2] at this
  exact this
end Go.Proofs.Ytijlmdpcbclmaaa

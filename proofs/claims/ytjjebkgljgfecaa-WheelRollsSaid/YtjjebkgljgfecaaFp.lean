/- Floats: what the operations give at whole numbers, at eighths, and at great ones (pure). -/
import Derived.Laws.ComplexArith
namespace Go.Proofs.Ytjjebkgljgfecaa
set_option linter.unusedVariables false
set_option linter.unusedSimpArgs false
open Ieee

theorem cut_zero (s : Bool) (n : Nat) : Toward.cut .even s n 0 = n := by
  unfold Toward.cut
  simp [Nat.mod_one]

theorem cut_exact (s : Bool) (a d : Nat) (ha : a ≠ 0) : Toward.cut .even s (a * 2 ^ d) d = a := by
  have hl : d ≤ (a * 2 ^ d).log2 + 2 := by
    have h1 : a * 2 ^ d ≠ 0 := Nat.mul_ne_zero ha (Nat.ne_of_gt (Nat.two_pow_pos d))
    have := (Nat.le_log2 (k := d) h1).2 (Nat.le_mul_of_pos_left _ (Nat.pos_of_ne_zero ha))
    omega
  have hp := Nat.two_pow_pos d
  unfold Toward.cut
  rw [Nat.min_eq_left hl, Nat.one_shiftLeft]
  simp only [Nat.mul_div_cancel _ hp, Nat.mul_mod_left]
  simp

theorem log2_mul (m j : Nat) (hm : m ≠ 0) : (m * 2 ^ j).log2 = m.log2 + j := by
  have h1 : m * 2 ^ j ≠ 0 := Nat.mul_ne_zero hm (Nat.ne_of_gt (Nat.two_pow_pos j))
  rw [Nat.log2_eq_iff h1, Nat.pow_add, show m.log2 + j + 1 = (m.log2 + 1) + j by omega, Nat.pow_add]
  exact ⟨Nat.mul_le_mul_right _ (Nat.log2_self_le hm), (Nat.mul_lt_mul_right (Nat.two_pow_pos j)).2 Nat.lt_log2_self⟩

/-- The rung of m * 2 ^ p. -/
def rungOf (m : Nat) (p : Int) : Nat := (p + m.log2 - 52 + 1074).toNat * 2 ^ 52 + m * 2 ^ (52 - m.log2)

theorem kept_lo (m : Nat) (hm : m ≠ 0) (hl : m.log2 ≤ 52) : 2 ^ 52 ≤ m * 2 ^ (52 - m.log2) := by
  have h := Nat.mul_le_mul_right (2 ^ (52 - m.log2)) (Nat.log2_self_le hm)
  rwa [← Nat.pow_add, show m.log2 + (52 - m.log2) = 52 by omega] at h
theorem kept_hi (m : Nat) (hl : m.log2 ≤ 52) : m * 2 ^ (52 - m.log2) < 2 ^ 53 := by
  have h := (Nat.mul_lt_mul_right (Nat.two_pow_pos (52 - m.log2))).2 (Nat.lt_log2_self (n := m))
  rwa [← Nat.pow_add, show m.log2 + 1 + (52 - m.log2) = 53 by omega] at h

theorem nearest_K (s : Bool) (m j : Nat) (p P : Int) (hm : m ≠ 0) (hl : m.log2 ≤ 52) (hP : P + j = p) (h1 : -1000 ≤ p) (h2 : p ≤ 900) :
    double.nearest s (m * 2 ^ j) P = double.word s (rungOf m p) := by
  have h0 : m * 2 ^ j ≠ 0 := Nat.mul_ne_zero hm (Nat.ne_of_gt (Nat.two_pow_pos j))
  have hlo := kept_lo m hm hl
  have hhi := kept_hi m hl
  unfold Format.nearest
  rw [if_neg h0, log2_mul m j hm]
  have hleast : double.leastPlace = -1074 := rfl
  have hlast : max (P + ((m.log2 + j : Nat) : Int) - (double.fractionBits : Int)) double.leastPlace = p + m.log2 - 52 := by
    rw [hleast, show (double.fractionBits : Int) = 52 from rfl]
    omega
  simp only [hlast]
  have hk : Toward.even.cut s ((m * 2 ^ j) <<< (P - (p + ↑m.log2 - 52)).toNat) (p + ↑m.log2 - 52 - P).toNat = m * 2 ^ (52 - m.log2) := by
    by_cases hj : j ≤ 52 - m.log2
    · rw [show (p + (m.log2 : Int) - 52 - P).toNat = 0 by omega, show (P - (p + (m.log2 : Int) - 52)).toNat = 52 - m.log2 - j by omega, cut_zero, Nat.shiftLeft_eq, Nat.mul_assoc, ← Nat.pow_add, show j + (52 - m.log2 - j) = 52 - m.log2 by omega]
    · obtain ⟨d, hd⟩ : ∃ d, j = (52 - m.log2) + d := ⟨j - (52 - m.log2), by omega⟩
      rw [show (P - (p + (m.log2 : Int) - 52)).toNat = 0 by omega, show (p + (m.log2 : Int) - 52 - P).toNat = d by omega, Nat.shiftLeft_zero, hd, Nat.pow_add, ← Nat.mul_assoc]
      exact cut_exact s _ d (by omega)
  rw [hk, hleast]
  have hb : double.binade = 2 ^ 52 := rfl
  have hi : double.infRung = 2047 * 2 ^ 52 := rfl
  rw [hb, hi]
  unfold rungOf
  rw [show (p + (m.log2 : Int) - 52 - -1074) = (p + m.log2 - 52 + 1074) by omega, Nat.min_eq_left (by omega)]

theorem rung_lt (m : Nat) (p : Int) (hm : m ≠ 0) (hl : m.log2 ≤ 52) (h1 : -1000 ≤ p) (h2 : p ≤ 900) : rungOf m p < 2047 * 2 ^ 52 ∧ 2 ^ 52 ≤ rungOf m p := by
  have hlo := kept_lo m hm hl
  have hhi := kept_hi m hl
  unfold rungOf
  omega

theorem number_eq (s : Bool) {m m' : Nat} {p p' : Int} (h : m = m') (k : p = p') : Datum.number s m p = .number s m' p' := by rw [h, k]
theorem read_word (s : Bool) (m : Nat) (p : Int) (hm : m ≠ 0) (hl : m.log2 ≤ 52) (h1 : -1000 ≤ p) (h2 : p ≤ 900) :
    double.read (double.word s (rungOf m p)) = .number s (m * 2 ^ (52 - m.log2)) (p - (52 - m.log2 : Nat)) := by
  have hr := rung_lt m p hm hl h1 h2
  have hlo := kept_lo m hm hl
  have hhi := kept_hi m hl
  have hw : double.signWeight = 2 ^ 63 := rfl
  have hb : double.binade = 2 ^ 52 := rfl
  have hi : double.infRung = 2047 * 2 ^ 52 := rfl
  have hsg : double.word s (rungOf m p) / 2 ^ 63 % 2 = s.toNat ∧ double.word s (rungOf m p) % 2 ^ 63 = rungOf m p := by
    unfold Format.word
    rw [hw]
    cases s
    · simp only [Bool.false_eq_true, if_false, Bool.toNat_false]
      omega
    · simp only [if_true, Bool.toNat_true]
      omega
  unfold Format.read
  simp only [hw, hb, hi, hsg.1, hsg.2]
  rw [if_neg (by omega), if_pos hr.1]
  have e1 : rungOf m p / 2 ^ 52 = (p + m.log2 - 52 + 1074).toNat + 1 ∧ rungOf m p % 2 ^ 52 = m * 2 ^ (52 - m.log2) - 2 ^ 52 := by
    unfold rungOf
    omega
  have e2 : (s.toNat == 1) = s := by cases s <;> rfl
  have e3 : double.leastPlace = -1074 := rfl
  simp only [e1.1, e1.2, e2, e3]
  exact number_eq s (by omega) (by omega)

/-- The word of ± m * 2 ^ p. -/
def fp (s : Bool) (m : Nat) (p : Int) : Nat := double.nearest s m p
/-- ± m. -/
def sg (s : Bool) (m : Nat) : Int := if s then -(m : Int) else m

theorem log2_lt53 (m : Nat) (h : m < 2 ^ 53) : m.log2 ≤ 52 := by
  by_cases h0 : m = 0
  · subst h0
    simp [Nat.log2_zero]
  · exact Nat.le_of_lt_succ ((Nat.log2_lt h0).2 h)
theorem nearest_zero (s : Bool) (p : Int) : double.nearest s 0 p = double.word s 0 := by
  unfold Format.nearest
  rw [if_pos rfl]
theorem fp_scale (s : Bool) (m j : Nat) (p P : Int) (hm : m < 2 ^ 53) (hP : P + j = p) (h1 : -1000 ≤ p) (h2 : p ≤ 900) : double.nearest s (m * 2 ^ j) P = fp s m p := by
  unfold fp
  by_cases h0 : m = 0
  · subst h0
    rw [Nat.zero_mul, nearest_zero, nearest_zero]
  · have hl := log2_lt53 m hm
    rw [nearest_K s m j p P h0 hl hP h1 h2]
    have := nearest_K s m 0 p p h0 hl (by omega) h1 h2
    rw [Nat.pow_zero, Nat.mul_one] at this
    exact this.symm
theorem read_zero (s : Bool) : double.read (double.word s 0) = .number s 0 (-1074) := by cases s <;> decide
theorem fp_read (s : Bool) (m : Nat) (p : Int) (hm : m < 2 ^ 53) (h1 : -1000 ≤ p) (h2 : p ≤ 900) : ∃ e : Nat, e ≤ 2000 ∧ double.read (fp s m p) = .number s (m * 2 ^ e) (p - e) := by
  by_cases h0 : m = 0
  · subst h0
    refine ⟨(p + 1074).toNat, by omega, ?_⟩
    unfold fp
    rw [nearest_zero, read_zero]
    exact number_eq s (by rw [Nat.zero_mul]) (by omega)
  · have hl := log2_lt53 m hm
    refine ⟨52 - m.log2, by omega, ?_⟩
    have := nearest_K s m 0 p p h0 hl (by omega) h1 h2
    rw [Nat.pow_zero, Nat.mul_one] at this
    unfold fp
    rw [this, read_word s m p h0 hl h1 h2]

theorem signed_sg (s : Bool) (m e k : Nat) : signed s (m * 2 ^ e) k = sg s m * ((2 ^ (e + k) : Nat) : Int) := by
  unfold signed sg
  rw [Nat.shiftLeft_eq, Nat.mul_assoc, ← Nat.pow_add]
  cases s
  · simp only [Bool.false_eq_true, if_false]
    exact Int.natCast_mul _ _
  · simp only [if_true]
    rw [Int.natCast_mul, Int.neg_mul]

theorem write_number (s : Bool) (m : Nat) (p : Int) : double.write (.number s m p) = double.nearest s m p := rfl

/-- The sign of a sum. -/
def sumNeg (s t : Bool) (z : Int) : Bool := if z = 0 then s && t else decide (z < 0)

theorem sum_read (s t : Bool) (m n e e' : Nat) (p : Int) :
    (Datum.number s (m * 2 ^ e) (p - e)).sum (.number t (n * 2 ^ e') (p - e')) = some (.number (sumNeg s t (sg s m + sg t n)) ((sg s m + sg t n).natAbs * 2 ^ max e e') (p - (max e e' : Nat))) := by
  unfold Datum.sum
  have hb : min (p - (e : Int)) (p - e') = p - (max e e' : Nat) := by omega
  simp only [hb]
  rw [signed_sg, signed_sg, show e + (p - (e : Int) - (p - (max e e' : Nat))).toNat = max e e' by omega, show e' + (p - (e' : Int) - (p - (max e e' : Nat))).toNat = max e e' by omega, ← Int.add_mul]
  generalize sg s m + sg t n = z
  have hp : 0 < 2 ^ max e e' := Nat.two_pow_pos _
  generalize 2 ^ max e e' = B at hp ⊢
  have hB : (0 : Int) < (B : Int) := by omega
  have h0 : z * (B : Int) = 0 ↔ z = 0 := by
    constructor
    · intro h
      rcases Int.mul_eq_zero.1 h with h | h
      · exact h
      · omega
    · rintro rfl
      exact Int.zero_mul _
  have hn : z * (B : Int) < 0 ↔ z < 0 := by
    constructor
    · intro h
      by_cases hz : z < 0
      · exact hz
      · have := Int.mul_nonneg (by omega : 0 ≤ z) (Int.le_of_lt hB)
        omega
    · intro h
      exact Int.mul_neg_of_neg_of_pos h hB
  have hs : (if z * (B : Int) = 0 then s && t else decide (z * (B : Int) < 0)) = sumNeg s t z := by
    unfold sumNeg
    by_cases hz : z = 0
    · rw [if_pos (h0.2 hz), if_pos hz]
    · rw [if_neg (fun h => hz (h0.1 h)), if_neg hz]
      exact decide_eq_decide.2 hn
  rw [hs, Int.natAbs_mul, Int.natAbs_natCast]

theorem add_fp (s t : Bool) (m n : Nat) (p : Int) (hm : m < 2 ^ 52) (hn : n < 2 ^ 52) (h1 : -1000 ≤ p) (h2 : p ≤ 900) :
    double.add (fp s m p) (fp t n p) = some (fp (sumNeg s t (sg s m + sg t n)) (sg s m + sg t n).natAbs p) := by
  obtain ⟨e, -, he⟩ := fp_read s m p (by omega) h1 h2
  obtain ⟨e', -, he'⟩ := fp_read t n p (by omega) h1 h2
  unfold Format.add
  rw [he, he', sum_read, Option.map_some, write_number, fp_scale _ _ (max e e') p _ _ (by omega) h1 h2]
  unfold sg
  cases s <;> cases t <;> simp only [Bool.false_eq_true, if_false, if_true] <;> omega
theorem sub_fp (s t : Bool) (m n : Nat) (p : Int) (hm : m < 2 ^ 52) (hn : n < 2 ^ 52) (h1 : -1000 ≤ p) (h2 : p ≤ 900) :
    double.sub (fp s m p) (fp t n p) = some (fp (sumNeg s (!t) (sg s m + sg (!t) n)) (sg s m + sg (!t) n).natAbs p) := by
  obtain ⟨e, -, he⟩ := fp_read s m p (by omega) h1 h2
  obtain ⟨e', -, he'⟩ := fp_read t n p (by omega) h1 h2
  unfold Format.sub
  rw [he, he']
  show Option.map double.write ((Datum.number s (m * 2 ^ e) (p - e)).sum (.number (!t) (n * 2 ^ e') (p - e'))) = _
  rw [sum_read, Option.map_some, write_number, fp_scale _ _ (max e e') p _ _ (by omega) h1 h2]
  unfold sg
  cases s <;> cases t <;> simp only [Bool.false_eq_true, if_false, if_true, Bool.not_true, Bool.not_false] <;> omega
theorem mul_fp (s t : Bool) (m n : Nat) (p q : Int) (hm : m < 2 ^ 53) (hn : n < 2 ^ 53) (hmn : m * n < 2 ^ 53) (h1 : -400 ≤ p) (h2 : p ≤ 400) (h3 : -400 ≤ q) (h4 : q ≤ 400) :
    double.mul (fp s m p) (fp t n q) = some (fp (s ^^ t) (m * n) (p + q)) := by
  obtain ⟨e, -, he⟩ := fp_read s m p hm (by omega) (by omega)
  obtain ⟨e', -, he'⟩ := fp_read t n q hn (by omega) (by omega)
  unfold Format.mul
  rw [he, he']
  show Option.map double.write (some (Datum.number (s ^^ t) (m * 2 ^ e * (n * 2 ^ e')) (p - e + (q - e')))) = _
  rw [Option.map_some, write_number, show m * 2 ^ e * (n * 2 ^ e') = m * n * 2 ^ (e + e') by rw [Nat.pow_add, Nat.mul_mul_mul_comm], fp_scale _ _ (e + e') (p + q) _ hmn (by omega) (by omega) (by omega)]

theorem compare_mul (x y B : Int) (hB : 0 < B) : compare (x * B) (y * B) = compare x y := by
  have h1 : x * B < y * B ↔ x < y := Int.mul_lt_mul_right hB
  have h2 : x * B = y * B ↔ x = y := ⟨fun h => Int.eq_of_mul_eq_mul_right (by omega) h, fun h => by rw [h]⟩
  show compareOfLessAndEq _ _ = compareOfLessAndEq _ _
  unfold compareOfLessAndEq
  by_cases h : x < y
  · rw [if_pos h, if_pos (h1.2 h)]
  · rw [if_neg h, if_neg (fun k => h (h1.1 k))]
    by_cases k : x = y
    · rw [if_pos k, if_pos (h2.2 k)]
    · rw [if_neg k, if_neg (fun q => k (h2.1 q))]
theorem order_fp (s t : Bool) (m n : Nat) (p : Int) (hm : m < 2 ^ 53) (hn : n < 2 ^ 53) (h1 : -1000 ≤ p) (h2 : p ≤ 900) :
    double.order (fp s m p) (fp t n p) = some (compare (sg s m) (sg t n)) := by
  obtain ⟨e, -, he⟩ := fp_read s m p hm h1 h2
  obtain ⟨e', -, he'⟩ := fp_read t n p hn h1 h2
  unfold Format.order Datum.order
  rw [he, he']
  have hb : min (p - (e : Int)) (p - e') = p - (max e e' : Nat) := by omega
  simp only [hb]
  rw [signed_sg, signed_sg, show e + (p - (e : Int) - (p - (max e e' : Nat))).toNat = max e e' by omega, show e' + (p - (e' : Int) - (p - (max e e' : Nat))).toNat = max e e' by omega]
  have hp : 0 < 2 ^ max e e' := Nat.two_pow_pos _
  rw [compare_mul _ _ _ (by omega)]

/-- Cut towards zero. -/
theorem cut_down (s : Bool) (m e j : Nat) : Toward.cut .zero s (m * 2 ^ e) (e + j) = m / 2 ^ j ∨ 2 ≤ j ∧ m < 2 ^ j ∧ Toward.cut .zero s (m * 2 ^ e) (e + j) = 0 := by
  unfold Toward.cut
  simp only [Bool.toNat_false, Nat.add_zero, Nat.one_shiftLeft]
  by_cases hk : e + j ≤ (m * 2 ^ e).log2 + 2
  · rw [Nat.min_eq_left hk, Nat.pow_add, Nat.mul_comm m, Nat.mul_div_mul_left _ _ (Nat.two_pow_pos e)]
    exact .inl rfl
  · rw [Nat.min_eq_right (by omega)]
    have h1 : m * 2 ^ e < 2 ^ ((m * 2 ^ e).log2 + 1) := Nat.lt_log2_self
    have h2 : 2 ^ ((m * 2 ^ e).log2 + 1) ≤ 2 ^ ((m * 2 ^ e).log2 + 2) := Nat.pow_le_pow_right (by omega) (by omega)
    have h3 : m * 2 ^ e < 2 ^ (e + j) := Nat.lt_of_lt_of_le h1 (Nat.pow_le_pow_right (by omega) (by omega))
    rw [Nat.pow_add, Nat.mul_comm (2 ^ e)] at h3
    have h4 : m < 2 ^ j := Nat.lt_of_mul_lt_mul_right h3
    have h5 : m * 2 ^ e / 2 ^ ((m * 2 ^ e).log2 + 2) = 0 := Nat.div_eq_of_lt (by omega)
    rw [h5, Nat.div_eq_of_lt h4]
    exact .inl rfl
theorem cut_fp (s : Bool) (m e j : Nat) : Toward.cut .zero s (m * 2 ^ e) (e + j) = m / 2 ^ j := by
  rcases cut_down s m e j with h | ⟨-, h1, h⟩
  · exact h
  · rw [h, Nat.div_eq_of_lt h1]
theorem integral_fp (s : Bool) (m j : Nat) (hm : m < 2 ^ 53) (hj : j ≤ 900) : (double.read (fp s m (-(j : Int)))).integral .zero = .number s (m / 2 ^ j) 0 := by
  obtain ⟨e, -, he⟩ := fp_read s m (-(j : Int)) hm (by omega) (by omega)
  rw [he]
  unfold Datum.integral
  simp only
  rw [show (-(j : Int) - e).toNat = 0 by omega, show (-(-(j : Int) - e)).toNat = e + j by omega, Nat.shiftLeft_zero, cut_fp]

theorem sg_natAbs (s : Bool) (m : Nat) : (sg s m).natAbs = m := by
  unfold sg
  cases s <;> simp
theorem sg_sumNeg (s t : Bool) (z : Int) : sg (sumNeg s t z) z.natAbs = z := by
  unfold sg sumNeg
  by_cases hz : z = 0
  · subst hz
    simp
  · rw [if_neg hz]
    by_cases hn : z < 0
    · rw [decide_eq_true hn, if_pos rfl]
      omega
    · rw [decide_eq_false hn, if_neg (by simp)]
      omega
theorem sg_not (s : Bool) (m : Nat) : sg (!s) m = -sg s m := by
  unfold sg
  cases s <;> simp
theorem sg_xor (s t : Bool) (m n : Nat) : sg (s ^^ t) (m * n) = sg s m * sg t n := by
  unfold sg
  cases s <;> cases t <;> simp [Int.natCast_mul, Int.neg_mul, Int.mul_neg]
theorem sg_div (s : Bool) (m k : Nat) : sg s (m / k) = (sg s m).tdiv k := by
  unfold sg
  cases s
  · simp only [Bool.false_eq_true, if_false]
    exact Int.ofNat_tdiv m k
  · simp only [if_true]
    rw [Int.neg_tdiv, ← Int.ofNat_tdiv]

/-- The bits are those of a whole number (a zero of either sign). -/
def IsF (b : Nat) (n : Int) : Prop := ∃ s m, b = fp s m 0 ∧ sg s m = n
/-- The bits are those of so many 8ths. -/
def IsG (b : Nat) (n : Int) : Prop := ∃ s m, b = fp s m (-3) ∧ sg s m = n
theorem IsF.add {a b : Nat} {x y : Int} (h : IsF a x) (k : IsF b y) (hx : x.natAbs < 2 ^ 52) (hy : y.natAbs < 2 ^ 52) : ∃ c, floatBits .add .f64 a b = some c ∧ IsF c (x + y) := by
  obtain ⟨s, m, rfl, rfl⟩ := h
  obtain ⟨t, n, rfl, rfl⟩ := k
  rw [sg_natAbs] at hx hy
  exact ⟨_, add_fp s t m n 0 hx hy (by omega) (by omega), _, _, rfl, sg_sumNeg _ _ _⟩
theorem IsG.add {a b : Nat} {x y : Int} (h : IsG a x) (k : IsG b y) (hx : x.natAbs < 2 ^ 52) (hy : y.natAbs < 2 ^ 52) : ∃ c, floatBits .add .f64 a b = some c ∧ IsG c (x + y) := by
  obtain ⟨s, m, rfl, rfl⟩ := h
  obtain ⟨t, n, rfl, rfl⟩ := k
  rw [sg_natAbs] at hx hy
  exact ⟨_, add_fp s t m n (-3) hx hy (by omega) (by omega), _, _, rfl, sg_sumNeg _ _ _⟩
theorem IsF.sub {a b : Nat} {x y : Int} (h : IsF a x) (k : IsF b y) (hx : x.natAbs < 2 ^ 52) (hy : y.natAbs < 2 ^ 52) : ∃ c, floatBits .sub .f64 a b = some c ∧ IsF c (x - y) := by
  obtain ⟨s, m, rfl, rfl⟩ := h
  obtain ⟨t, n, rfl, rfl⟩ := k
  rw [sg_natAbs] at hx hy
  refine ⟨_, sub_fp s t m n 0 hx hy (by omega) (by omega), _, _, rfl, ?_⟩
  rw [sg_sumNeg, sg_not]
  rfl
theorem IsF.mul {a b : Nat} {x y : Int} (h : IsF a x) (k : IsF b y) (hx : x.natAbs < 2 ^ 26) (hy : y.natAbs < 2 ^ 26) : ∃ c, floatBits .mul .f64 a b = some c ∧ IsF c (x * y) := by
  obtain ⟨s, m, rfl, rfl⟩ := h
  obtain ⟨t, n, rfl, rfl⟩ := k
  rw [sg_natAbs] at hx hy
  have hmn : m * n < 2 ^ 26 * 2 ^ 26 := Nat.mul_lt_mul'' hx hy
  exact ⟨_, mul_fp s t m n 0 0 (by omega) (by omega) (by omega) (by omega) (by omega) (by omega) (by omega), _, _, rfl, sg_xor _ _ _ _⟩
theorem IsF.toG {a : Nat} {x : Int} (h : IsF a x) (hx : x.natAbs < 2 ^ 49) : IsG a (8 * x) := by
  obtain ⟨s, m, rfl, rfl⟩ := h
  rw [sg_natAbs] at hx
  refine ⟨s, m * 2 ^ 3, ?_, ?_⟩
  · have := fp_scale s (m * 2 ^ 3) 0 (-3) (-3) (by omega) (by omega) (by omega) (by omega)
    rw [← fp_scale s m 3 0 (-3) (by omega) (by omega) (by omega) (by omega)]
    rfl
  · unfold sg
    cases s <;> simp only [Bool.false_eq_true, if_false, if_true] <;> omega
theorem IsG.order {a b : Nat} {x y : Int} (h : IsG a x) (k : IsG b y) (hx : x.natAbs < 2 ^ 53) (hy : y.natAbs < 2 ^ 53) : FloatKind.f64.format.order a b = some (compare x y) := by
  obtain ⟨s, m, rfl, rfl⟩ := h
  obtain ⟨t, n, rfl, rfl⟩ := k
  rw [sg_natAbs] at hx hy
  exact order_fp s t m n (-3) hx hy (by omega) (by omega)
theorem IsF.order {a b : Nat} {x y : Int} (h : IsF a x) (k : IsF b y) (hx : x.natAbs < 2 ^ 53) (hy : y.natAbs < 2 ^ 53) : FloatKind.f64.format.order a b = some (compare x y) := by
  obtain ⟨s, m, rfl, rfl⟩ := h
  obtain ⟨t, n, rfl, rfl⟩ := k
  rw [sg_natAbs] at hx hy
  exact order_fp s t m n 0 hx hy (by omega) (by omega)
theorem isF_ofInt (n : Int) : IsF (floatOfInt .f64 n) n := ⟨decide (n < 0), n.natAbs, rfl, by
  unfold sg
  by_cases h : n < 0
  · rw [decide_eq_true h, if_pos rfl]; omega
  · rw [decide_eq_false h, if_neg (by simp)]; omega⟩
/-- math.Trunc of such. -/
theorem IsG.trunc {a : Nat} {x : Int} (h : IsG a x) (hx : x.natAbs < 2 ^ 53) : ∃ s m p c, FloatKind.f64.decode a = .number s m p ∧ FloatKind.f64.encode ((Datum.number s m p).integral .zero) = c ∧ IsF c (x.tdiv 8) := by
  obtain ⟨s, m, rfl, rfl⟩ := h
  rw [sg_natAbs] at hx
  obtain ⟨e, -, he⟩ := fp_read s m (-3) hx (by omega) (by omega)
  refine ⟨s, m * 2 ^ e, _, _, he, rfl, ?_⟩
  have := integral_fp s m 3 hx (by omega)
  rw [show (-((3 : Nat) : Int)) = -3 from rfl, he] at this
  rw [this]
  exact ⟨s, m / 2 ^ 3, rfl, by rw [sg_div]; rfl⟩
theorem IsG.toInt {a : Nat} {x : Int} (h : IsG a x) (hx : x.natAbs < 2 ^ 53) : floatToIntVal .f64 a .i64 = some (x.tdiv 8) := by
  obtain ⟨s, m, rfl, rfl⟩ := h
  rw [sg_natAbs] at hx
  have := integral_fp s m 3 hx (by omega)
  unfold floatToIntVal Datum.toInt
  rw [show FloatKind.f64.decode (fp s m (-3)) = double.read (fp s m (-((3 : Nat) : Int))) from rfl, this]
  have h1 : signed s (m / 2 ^ 3) 0 = (sg s m).tdiv 8 := by
    have := signed_sg s (m / 2 ^ 3) 0 0
    rw [Nat.pow_zero, Nat.mul_one] at this
    rw [this, sg_div]
    simp
  simp only [h1]
  have h2 : (sg s m).tdiv 8 = sg s (m / 8) := (sg_div s m 8).symm
  rw [if_pos]
  rw [h2]
  have : m / 8 < 2 ^ 53 := by omega
  rw [show IntKind.i64.min = -9223372036854775808 from rfl, show IntKind.i64.max = 9223372036854775807 from rfl]
  unfold sg
  cases s <;> simp only [Bool.false_eq_true, if_false, if_true] <;> omega

theorem cMul_F {a b c d : Nat} {x y z v : Int} (ha : IsF a x) (hb : IsF b y) (hc : IsF c z) (hd : IsF d v) (h1 : x.natAbs < 2 ^ 20) (h2 : y.natAbs < 2 ^ 20) (h3 : z.natAbs < 2 ^ 20) (h4 : v.natAbs < 2 ^ 20) :
    ∃ r i, cMulBits a b c d = some (r, i) ∧ IsF r (x * z - y * v) ∧ IsF i (x * v + y * z) := by
  have bnd : ∀ p q : Int, p.natAbs < 2 ^ 20 → q.natAbs < 2 ^ 20 → (p * q).natAbs < 2 ^ 52 := fun p q hp hq => by
    rw [Int.natAbs_mul]
    have := Nat.mul_lt_mul'' hp hq
    omega
  obtain ⟨ac, e1, k1⟩ := ha.mul hc (by omega) (by omega)
  obtain ⟨bd, e2, k2⟩ := hb.mul hd (by omega) (by omega)
  obtain ⟨re, e3, k3⟩ := k1.sub k2 (bnd _ _ h1 h3) (bnd _ _ h2 h4)
  obtain ⟨ad, e4, k4⟩ := ha.mul hd (by omega) (by omega)
  obtain ⟨bc, e5, k5⟩ := hb.mul hc (by omega) (by omega)
  obtain ⟨im, e6, k6⟩ := k4.add k5 (bnd _ _ h1 h4) (bnd _ _ h2 h3)
  refine ⟨re, im, ?_, k3, k6⟩
  unfold cMulBits
  simp only [e1, e2, e3, e4, e5, e6, Option.bind_some]
theorem cAdd_F {a b c d : Nat} {x y z v : Int} (ha : IsF a x) (hb : IsF b y) (hc : IsF c z) (hd : IsF d v) (h1 : x.natAbs < 2 ^ 52) (h2 : y.natAbs < 2 ^ 52) (h3 : z.natAbs < 2 ^ 52) (h4 : v.natAbs < 2 ^ 52) :
    ∃ r i, cSumBits .add .f64 a b c d = some (r, i) ∧ IsF r (x + z) ∧ IsF i (y + v) := by
  obtain ⟨re, e1, k1⟩ := ha.add hc h1 h3
  obtain ⟨im, e2, k2⟩ := hb.add hd h2 h4
  refine ⟨re, im, ?_, k1, k2⟩
  unfold cSumBits
  simp only [e1, e2, Option.bind_some]

/-- A great number: whole, and 2 ^ 52 at the least. -/
def IsBig (b : Nat) (s : Bool) : Prop := ∃ (m k : Nat), double.read b = .number s m k ∧ 2 ^ 52 ≤ m
theorem read_rung (s : Bool) (r : Nat) (h1 : 2 ^ 52 ≤ r) (h2 : r < 2047 * 2 ^ 52) : double.read (double.word s r) = .number s (2 ^ 52 + r % 2 ^ 52) (-1074 + (r / 2 ^ 52 - 1 : Nat)) := by
  have hw : double.signWeight = 2 ^ 63 := rfl
  have hb : double.binade = 2 ^ 52 := rfl
  have hi : double.infRung = 2047 * 2 ^ 52 := rfl
  have hsg : double.word s r / 2 ^ 63 % 2 = s.toNat ∧ double.word s r % 2 ^ 63 = r := by
    unfold Format.word
    rw [hw]
    cases s
    · simp only [Bool.false_eq_true, if_false, Bool.toNat_false]
      omega
    · simp only [if_true, Bool.toNat_true]
      omega
  have e2 : (s.toNat == 1) = s := by cases s <;> rfl
  have e3 : double.leastPlace = -1074 := rfl
  unfold Format.read
  simp only [hw, hb, hi, hsg.1, hsg.2, e2, e3]
  rw [if_neg (by omega), if_pos h2]
theorem big_ofNat (s : Bool) (m : Nat) (h1 : 2 ^ 53 ≤ m) (h2 : m < 2 ^ 64) : IsBig (double.nearest s m 0) s := by
  have h0 : m ≠ 0 := by omega
  have hL1 : 53 ≤ m.log2 := (Nat.le_log2 h0).2 h1
  have hL2 : m.log2 < 64 := (Nat.log2_lt h0).2 h2
  have hlo := Nat.log2_self_le h0
  have hhi := Nat.lt_log2_self (n := m)
  generalize hL : m.log2 = L at hL1 hL2 hlo hhi
  have hk : ∃ K, Toward.even.cut s (m <<< 0) (L - 52) = K ∧ 2 ^ 52 ≤ K ∧ K ≤ 2 ^ 53 := by
    refine ⟨_, rfl, ?_⟩
    have hp := Nat.two_pow_pos (L - 52)
    have hd1 : 2 ^ 52 ≤ m / 2 ^ (L - 52) := by
      rw [Nat.le_div_iff_mul_le hp, ← Nat.pow_add, show 52 + (L - 52) = L by omega]
      exact hlo
    have hd2 : m / 2 ^ (L - 52) < 2 ^ 53 := by
      rw [Nat.div_lt_iff_lt_mul hp, ← Nat.pow_add, show 53 + (L - 52) = L + 1 by omega]
      exact hhi
    unfold Toward.cut
    rw [Nat.shiftLeft_zero, hL, Nat.min_eq_left (by omega), Nat.one_shiftLeft]
    simp only
    generalize (decide (2 ^ (L - 52) < 2 * (m % 2 ^ (L - 52))) || 2 ^ (L - 52) == 2 * (m % 2 ^ (L - 52)) && m / 2 ^ (L - 52) % 2 == 1) = B
    have : B.toNat ≤ 1 := by cases B <;> simp
    omega
  obtain ⟨K, hK, hK1, hK2⟩ := hk
  have hn : double.nearest s m 0 = double.word s ((L - 52 + 1074) * 2 ^ 52 + K) := by
    unfold Format.nearest
    rw [if_neg h0]
    have hleast : double.leastPlace = -1074 := rfl
    have hlast : max (0 + (m.log2 : Int) - (double.fractionBits : Int)) double.leastPlace = (L : Int) - 52 := by
      rw [hleast, hL, show (double.fractionBits : Int) = 52 from rfl]
      omega
    have hb : double.binade = 2 ^ 52 := rfl
    have hi : double.infRung = 2047 * 2 ^ 52 := rfl
    simp only [hlast]
    simp only [hb, hi, hleast]
    rw [show (0 - ((L : Int) - 52)).toNat = 0 by omega, show ((L : Int) - 52 - 0).toNat = L - 52 by omega, hK, show ((L : Int) - 52 - -1074).toNat = L - 52 + 1074 by omega, Nat.min_eq_left (by omega)]
  rw [hn]
  refine ⟨2 ^ 52 + ((L - 52 + 1074) * 2 ^ 52 + K) % 2 ^ 52, (((L - 52 + 1074) * 2 ^ 52 + K) / 2 ^ 52 - 1 - 1074), ?_, ?_⟩
  · rw [read_rung s _ (by omega) (by omega)]
    exact number_eq s rfl (by omega)
  · omega
theorem IsBig.order {b : Nat} {s t : Bool} {n : Nat} (h : IsBig b s) (hn : n < 2 ^ 52) : double.order b (fp t n 0) = some (if s then .lt else .gt) := by
  obtain ⟨m, k, hr, hm⟩ := h
  obtain ⟨e, -, he⟩ := fp_read t n 0 (by omega) (by omega) (by omega)
  unfold Format.order Datum.order
  rw [hr, he]
  have hb : min (k : Int) (0 - (e : Int)) = -(e : Int) := by omega
  simp only [hb]
  have h1 := signed_sg s m 0 ((k : Int) - -(e : Int)).toNat
  rw [Nat.pow_zero, Nat.mul_one] at h1
  rw [h1, signed_sg, show e + (0 - (e : Int) - -(e : Int)).toNat = e by omega, show 0 + ((k : Int) - -(e : Int)).toNat = k + e by omega, Nat.pow_add, Int.natCast_mul, ← Int.mul_assoc, compare_mul _ _ _ (by have := Nat.two_pow_pos e; omega)]
  have hk := Nat.two_pow_pos k
  have hmk : 2 ^ 52 ≤ m * 2 ^ k := Nat.le_trans hm (Nat.le_mul_of_pos_right _ hk)
  have h2 : sg s m * ((2 ^ k : Nat) : Int) = sg s (m * 2 ^ k) := by
    unfold sg
    cases s <;> simp only [Bool.false_eq_true, if_false, if_true, Int.natCast_mul, Int.neg_mul]
  rw [h2]
  generalize m * 2 ^ k = M at hmk ⊢
  show some (compareOfLessAndEq _ _) = _
  unfold compareOfLessAndEq sg
  cases s <;> cases t <;> simp only [Bool.false_eq_true, if_false, if_true]
  · rw [if_neg (by omega), if_neg (by omega)]
  · rw [if_neg (by omega), if_neg (by omega)]
  · rw [if_pos (by omega)]
  · rw [if_pos (by omega)]
end Go.Proofs.Ytjjebkgljgfecaa

/- The wheel: Trunc, whole, Whole. -/
import Derived.Test.YtjjebkgljgfecaaWord
import Derived.Test.YtjjebkgljgfecaaFp
import Derived.Laws.Externs
import Derived.KernelRfl
namespace Go.Proofs.Ytjjebkgljgfecaa
set_option linter.unusedVariables false
set_option linter.unusedSimpArgs false
open Go.RowKit

attribute [local irreducible] FloatKind.decode in
theorem archTrunc_run (a c : Nat) (s : Bool) (m : Nat) (p : Int) (h : FloatKind.f64.decode a = .number s m p) (hc : FloatKind.f64.encode ((Ieee.Datum.number s m p).integral .zero) = c) (w : World) :
    (callFunc 25 #[.float .f64 a]).run Try.prog w = .ok (.value (.float .f64 c)) w := by
  rw [run_callFunc_extern Try.func25 (by kernel_rfl) (by kernel_rfl) (by kernel_rfl) (e := Extern.MathFloor.toIntegral "math.archTrunc" .zero) (by kernel_rfl)]
  conv in Extern.MathFloor.toIntegral _ _ _ => whnf
  rw [h]
  rw [← hc]
  rfl
theorem trunc_calls (a c : Nat) (s : Bool) (m : Nat) (p : Int) (h : FloatKind.f64.decode a = .number s m p) (hc : FloatKind.f64.encode ((Ieee.Datum.number s m p).integral .zero) = c) (w : World) :
    Calls Try.prog 24 #[.float .f64 a] w fun e w' => e = .returned (.float .f64 c) ∧ w' = w := by
  have hop := fun w => archTrunc_run a c s m p h hc w
  go_enter Try.func24, Try.ntmps24
  go_wp2_with fail
  go_ret
  exact ⟨rfl, rfl⟩

/-- A whole number, brought back. -/
def bk (n : Int) : Int := (n + 128) % 256 - 128
theorem cmp_lt {x y : Int} (h : x < y) : compare x y = .lt := by
  show compareOfLessAndEq _ _ = _
  unfold compareOfLessAndEq
  rw [if_pos h]
theorem cmp_gt {x y : Int} (h : y < x) : compare x y = .gt := by
  show compareOfLessAndEq _ _ = _
  unfold compareOfLessAndEq
  rw [if_neg (by omega), if_neg (by omega)]
theorem cmp_eq (x : Int) : compare x x = .eq := by
  show compareOfLessAndEq _ _ = _
  unfold compareOfLessAndEq
  rw [if_neg (by omega), if_pos rfl]

theorem isG_lo : IsG 14010698440749613056 (-8796093022208) := ⟨true, 8796093022208, by decide +kernel, rfl⟩
theorem isG_hi : IsG 4787326403894837248 8796093022208 := ⟨false, 8796093022208, by decide +kernel, rfl⟩
theorem bk_go (x : Int) (h1 : -1099511627776 ≤ x) (h2 : x ≤ 1099511627776) : wrap64 ((wrap64 ((x + 128).tmod 256 + 256)).tmod 256 - 128) = bk x := by
  have hb := Int.tmod_lt_of_pos (x + 128) (b := 256) (by omega)
  have hb2 : -256 < (x + 128).tmod 256 := Int.lt_tmod_of_pos _ (by omega)
  have e1 : wrap64 ((x + 128).tmod 256 + 256) = (x + 128).tmod 256 + 256 := IntWalk.wrap64_in _ ⟨by omega, by omega⟩
  have e2 : ((x + 128).tmod 256 + 256).tmod 256 = (x + 128) % 256 := by
    rw [Int.tmod_eq_emod_of_nonneg (by omega)]
    have : (x + 128).tmod 256 = (x + 128) - 256 * ((x + 128).tdiv 256) := Int.tmod_def _ _
    omega
  rw [e1, e2]
  unfold bk
  exact IntWalk.wrap64_in _ ⟨by omega, by omega⟩
theorem whole_yes (a : Nat) (x : Int) (h : IsG a (8 * x)) (h1 : -1099511627776 ≤ x) (h2 : x ≤ 1099511627776) (w : World) :
    Calls Try.prog 21 #[.float .f64 a] w fun e w' => e = .returned (.tuple #[.float .f64 (floatOfInt .f64 (bk x)), .bool true]) ∧ w' = w := by
  have hx : (8 * x).natAbs < 2 ^ 53 := by omega
  obtain ⟨s, m, p, c, hd, hc, hcx⟩ := h.trunc hx
  have htd : (8 * x).tdiv 8 = x := Int.mul_tdiv_cancel_left x (by omega)
  rw [htd] at hcx
  have o1 : FloatKind.f64.format.order a c = some .eq := by
    rw [h.order (hcx.toG (by omega)) hx hx, cmp_eq]
  have o2 : (FloatKind.f64.format.order a 14010698440749613056 == some .lt) = false := by
    rw [h.order isG_lo hx (by decide)]
    rcases Int.lt_trichotomy (8 * x) (-8796093022208) with h | h | h
    · omega
    · rw [h, cmp_eq]; rfl
    · rw [cmp_gt h]; rfl
  have o3 : (FloatKind.f64.format.order a 4787326403894837248 == some .gt) = false := by
    rw [h.order isG_hi hx (by decide)]
    rcases Int.lt_trichotomy (8 * x) 8796093022208 with h | h | h
    · rw [cmp_lt h]; rfl
    · rw [h, cmp_eq]; rfl
    · omega
  have hi := h.toInt hx
  rw [htd] at hi
  have T := fun w => trunc_calls a c s m p hd hc w
  have hcv : ∀ w, (convert 26 3 (.float .f64 a)).run Try.prog w = .ok (.int .i64 x) w := fun w => run_convert_float_int w _ _ .f64 .i64 a x (by rw [Try.underlying26]; rfl) Try.underlying3 hi
  go_enter Try.func21, Try.ntmps21
  go_wp2_with fail
  (with_reducible refine (T _).mono ?_)
  rintro e w1 ⟨rfl, rfl⟩
  go_wp2_with (simp only [hcv])
  go_returns
  rw [bk_go x h1 h2]
  exact ⟨rfl, rfl⟩
theorem whole_no (a : Nat) (x : Int) (h : IsG a x) (hx : x.natAbs < 2 ^ 52) (hno : x % 8 ≠ 0 ∨ x < -8796093022208 ∨ 8796093022208 < x) (w : World) :
    Calls Try.prog 21 #[.float .f64 a] w fun e w' => e = .returned (.tuple #[.float .f64 0, .bool false]) ∧ w' = w := by
  obtain ⟨s, m, p, c, hd, hc, hcx⟩ := h.trunc (by omega)
  have T := fun w => trunc_calls a c s m p hd hc w
  have hct : (x.tdiv 8).natAbs = x.natAbs / 8 := Int.natAbs_tdiv x 8
  have hca : (x.tdiv 8).natAbs < 2 ^ 49 := by omega
  have hor := h.order (hcx.toG (by omega)) (by omega) (by omega)
  have hlo := h.order isG_lo (by omega) (by decide)
  have hhi := h.order isG_hi (by omega) (by decide)
  obtain ⟨o1, ho1⟩ : ∃ o, compare x (8 * x.tdiv 8) = o := ⟨_, rfl⟩
  obtain ⟨o2, ho2⟩ : ∃ o, compare x (-8796093022208) = o := ⟨_, rfl⟩
  obtain ⟨o3, ho3⟩ : ∃ o, compare x 8796093022208 = o := ⟨_, rfl⟩
  rw [ho1] at hor
  rw [ho2] at hlo
  rw [ho3] at hhi
  have hall : o1 ≠ .eq ∨ o2 = .lt ∨ o3 = .gt := by
    rcases hno with hn | hn | hn
    · left
      rintro rfl
      rcases Int.lt_trichotomy x (8 * x.tdiv 8) with h | h | h
      · rw [cmp_lt h] at ho1; cases ho1
      · omega
      · rw [cmp_gt h] at ho1; cases ho1
    · exact .inr (.inl (ho2 ▸ cmp_lt hn))
    · exact .inr (.inr (ho3 ▸ cmp_gt hn))
  clear ho1 ho2 ho3 hct hca hno hx hcx
  go_enter Try.func21, Try.ntmps21
  go_wp2_with fail
  (with_reducible refine (T _).mono ?_)
  rintro e w1 ⟨rfl, rfl⟩
  cases o1 <;> cases o2 <;> cases o3 <;> first | (exfalso; revert hall; decide) | (go_wp2; go_returns; exact ⟨rfl, rfl⟩)
theorem whole_big (a : Nat) (s : Bool) (h : IsBig a s) (w : World) :
    Calls Try.prog 21 #[.float .f64 a] w fun e w' => e = .returned (.tuple #[.float .f64 0, .bool false]) ∧ w' = w := by
  have hlo : FloatKind.f64.format.order a 14010698440749613056 = some (if s then .lt else .gt) := h.order (t := true) (n := 1099511627776) (by decide)
  have hhi : FloatKind.f64.format.order a 4787326403894837248 = some (if s then .lt else .gt) := h.order (t := false) (n := 1099511627776) (by decide)
  obtain ⟨m, k, hd, -⟩ := h
  have T := fun w => trunc_calls a _ s m k hd rfl w
  generalize FloatKind.f64.encode _ = c at T
  generalize hb : (FloatKind.f64.format.order a c != some .eq) = b
  go_enter Try.func21, Try.ntmps21
  go_wp2_with fail
  (with_reducible refine (T _).mono ?_)
  rintro e w1 ⟨rfl, rfl⟩
  cases b <;> cases s <;> simp only [Bool.false_eq_true, if_false, if_true] at hlo hhi <;> go_wp2 <;> go_returns <;> exact ⟨rfl, rfl⟩
theorem isF_lo : IsF 14010698440749613056 (-1099511627776) := ⟨true, 1099511627776, by decide +kernel, rfl⟩
theorem isF_hi : IsF 4787326403894837248 1099511627776 := ⟨false, 1099511627776, by decide +kernel, rfl⟩
theorem whole_far (a : Nat) (x : Int) (h : IsF a x) (hx : x.natAbs < 2 ^ 53) (hno : x < -1099511627776 ∨ 1099511627776 < x) (w : World) :
    Calls Try.prog 21 #[.float .f64 a] w fun e w' => e = .returned (.tuple #[.float .f64 0, .bool false]) ∧ w' = w := by
  have hlo := h.order isF_lo hx (by decide)
  have hhi := h.order isF_hi hx (by decide)
  obtain ⟨s, m, p, hd⟩ : ∃ s m p, FloatKind.f64.decode a = .number s m p := by
    obtain ⟨s, m, rfl, rfl⟩ := h
    rw [sg_natAbs] at hx
    obtain ⟨e, -, he⟩ := fp_read s m 0 hx (by omega) (by omega)
    exact ⟨_, _, _, he⟩
  have T := fun w => trunc_calls a _ s m p hd rfl w
  generalize FloatKind.f64.encode _ = c at T
  generalize hb : (FloatKind.f64.format.order a c != some .eq) = b
  go_enter Try.func21, Try.ntmps21
  go_wp2_with fail
  (with_reducible refine (T _).mono ?_)
  rintro e w1 ⟨rfl, rfl⟩
  rcases hno with hn | hn
  · rw [cmp_lt hn] at hlo
    rw [cmp_lt (by omega)] at hhi
    cases b <;> go_wp2 <;> go_returns <;> exact ⟨rfl, rfl⟩
  · rw [cmp_gt (by omega)] at hlo
    rw [cmp_gt hn] at hhi
    cases b <;> go_wp2 <;> go_returns <;> exact ⟨rfl, rfl⟩
end Go.Proofs.Ytjjebkgljgfecaa

/- The lexer: how far a word and a number go, and what begins behind them. (printed by gen/lx6.py) -/
import Derived.Test.YtlmcdbegnjikdaaDoorLx5
namespace Go.Proofs.YtlmcdbegnjikdaaDoor
set_option linter.unusedVariables false
set_option linter.unusedSimpArgs false
open Go.RowKit
attribute [local go_sem ↓] Go.wp_at_zero Go.wp_at_succ

theorem wordL_yes {b : UInt8} {l : By} (h : isLet b = true) : wordL (b :: l) = wordL l := by simp [wordL, h]
theorem wordL_no {b : UInt8} {l : By} (h : isLet b = false) : wordL (b :: l) = b :: l := by simp [wordL, h]
set_option maxHeartbeats 1600000 in
theorem word_eq (w : World) (g : Nat) (s : ByteArray) (k : Nat) (h0 : w.cell? ⟨g, 0, none⟩ = some (.string s)) (hs : s.size ≤ 1000000) (hk : k ≤ s.size) :
    Calls Tryd.prog 39 #[.pointer (some ⟨g, 0, none⟩), .int .i64 k] w fun e w' => e = .returned (.int .i64 ((s.size - (wordL (from_ s k)).length : Nat) : Int)) ∧ w = w' := by
  go_enter Tryd.func39, Tryd.ntmps39
  go_wp2_with fail
  go_loop [1] (fun i => ∃ j : Nat, j ≤ s.size ∧ i = .int .i64 j ∧ Hid (wordL (from_ s j) = wordL (from_ s k))) (fun i => s.size - (intOf i).toNat)
  case atStart => exact ⟨k, hk, rfl, Lib.hid rfl⟩
  case round =>
    obtain ⟨j, hj, rfl, HW⟩ := hrel
    by_cases hlt : j < s.size
    · have HF := Lib.hid (from_lt hlt)
      cases hb : isLet s[j] with
      | true =>
        go_wp2_with (go_at_call 38; (with_reducible refine (letter_eq _ _).mono ?_); rintro e w' ⟨rfl, rfl⟩)
        go_round
        case rel => exact ⟨j + 1, by omega, by go_num, Lib.hid (by have h := HW.out; rw [HF.out, wordL_yes hb] at h; exact h)⟩
        case measure => simp [intOf]; omega
      | false =>
        go_wp2_with (go_at_call 38; (with_reducible refine (letter_eq _ _).mono ?_); rintro e w' ⟨rfl, rfl⟩)
        go_ret
        refine ⟨ret_int ?_, rfl⟩
        have h := HW.out
        rw [HF.out, wordL_no hb] at h
        rw [← h, List.length_cons, from_len]; omega
    · go_wp2_with fail
      go_ret
      refine ⟨ret_int ?_, rfl⟩
      have h := HW.out
      rw [from_ge (by omega)] at h
      rw [← h]
      simp [wordL]; omega
theorem numL_yes {base n : Nat} {b : UInt8} {l : By} (h : dig b < base) : numL base n (b :: l) = numL base (min 65536 (n * base + dig b)) l := by rw [numL, if_pos h]
theorem numL_no {base n : Nat} {b : UInt8} {l : By} (h : base ≤ dig b) : numL base n (b :: l) = (n, b :: l) := by rw [numL, if_neg (by omega)]
theorem ret_int2 {a b c d : Int} (h : a = b) (h' : c = d) : Ending.returned (.tuple #[.int .i64 a, .int .i64 c]) = .returned (.tuple #[.int .i64 b, .int .i64 d]) := by rw [h, h']
set_option maxHeartbeats 1600000 in
theorem number10_eq (w : World) (g : Nat) (s : ByteArray) (k : Nat) (h0 : w.cell? ⟨g, 0, none⟩ = some (.string s)) (hs : s.size ≤ 1000000) (hk : k ≤ s.size) :
    Calls Tryd.prog 43 #[.pointer (some ⟨g, 0, none⟩), .int .i64 k, .int .i64 10] w fun e w' => e = .returned (.tuple #[.int .i64 ((numL 10 0 (from_ s k)).1 : Int), .int .i64 ((s.size - (numL 10 0 (from_ s k)).2.length : Nat) : Int)]) ∧ w = w' := by
  go_enter Tryd.func43, Tryd.ntmps43
  go_wp2_with fail
  go_loop [1, 8] (fun i n => ∃ j m : Nat, j ≤ s.size ∧ m ≤ 65536 ∧ i = .int .i64 j ∧ n = .int .i64 m ∧ Hid (numL 10 m (from_ s j) = numL 10 0 (from_ s k))) (fun i _ => s.size - (intOf i).toNat)
  case atStart => exact ⟨k, 0, hk, by omega, rfl, rfl, Lib.hid rfl⟩
  case round =>
    obtain ⟨j, m, hj, hm, rfl, rfl, HW⟩ := hrel
    by_cases hlt : j < s.size
    · have HF := Lib.hid (from_lt hlt)
      by_cases hd : dig s[j] < 10
      · go_wp2_with (go_at_call 37; (with_reducible refine (digit_yes _ _ (by omega) (by omega) _).mono ?_); rintro e w' ⟨rfl, rfl⟩)
        go_round
        case rel =>
          refine ⟨j + 1, min 65536 (m * 10 + dig s[j]), by omega, by omega, by go_num, ?_, Lib.hid (by have h := HW.out; rw [HF.out, numL_yes hd] at h; exact h)⟩
          congr 1; omega
        case measure => simp [intOf]; omega
      · go_wp2_with (go_at_call 37; (with_reducible refine (digit_no _ _ (by omega) (by omega) _).mono ?_); rintro e w' ⟨rfl, rfl⟩)
        go_ret2
        refine ⟨?_, rfl⟩
        have h := HW.out
        rw [HF.out, numL_no (by omega)] at h
        rw [← h]
        exact ret_int2 rfl (by simp only [List.length_cons, from_len]; omega)
    · go_wp2_with fail
      go_ret2
      refine ⟨?_, rfl⟩
      have h := HW.out
      rw [from_ge (by omega)] at h
      rw [← h]
      exact ret_int2 rfl (by simp [numL]; omega)
set_option maxHeartbeats 1600000 in
theorem number16_eq (w : World) (g : Nat) (s : ByteArray) (k : Nat) (h0 : w.cell? ⟨g, 0, none⟩ = some (.string s)) (hs : s.size ≤ 1000000) (hk : k ≤ s.size) :
    Calls Tryd.prog 43 #[.pointer (some ⟨g, 0, none⟩), .int .i64 k, .int .i64 16] w fun e w' => e = .returned (.tuple #[.int .i64 ((numL 16 0 (from_ s k)).1 : Int), .int .i64 ((s.size - (numL 16 0 (from_ s k)).2.length : Nat) : Int)]) ∧ w = w' := by
  go_enter Tryd.func43, Tryd.ntmps43
  go_wp2_with fail
  go_loop [1, 8] (fun i n => ∃ j m : Nat, j ≤ s.size ∧ m ≤ 65536 ∧ i = .int .i64 j ∧ n = .int .i64 m ∧ Hid (numL 16 m (from_ s j) = numL 16 0 (from_ s k))) (fun i _ => s.size - (intOf i).toNat)
  case atStart => exact ⟨k, 0, hk, by omega, rfl, rfl, Lib.hid rfl⟩
  case round =>
    obtain ⟨j, m, hj, hm, rfl, rfl, HW⟩ := hrel
    by_cases hlt : j < s.size
    · have HF := Lib.hid (from_lt hlt)
      by_cases hd : dig s[j] < 16
      · go_wp2_with (go_at_call 37; (with_reducible refine (digit_yes _ _ (by omega) (by omega) _).mono ?_); rintro e w' ⟨rfl, rfl⟩)
        go_round
        case rel =>
          refine ⟨j + 1, min 65536 (m * 16 + dig s[j]), by omega, by omega, by go_num, ?_, Lib.hid (by have h := HW.out; rw [HF.out, numL_yes hd] at h; exact h)⟩
          congr 1; omega
        case measure => simp [intOf]; omega
      · go_wp2_with (go_at_call 37; (with_reducible refine (digit_no _ _ (by omega) (by omega) _).mono ?_); rintro e w' ⟨rfl, rfl⟩)
        go_ret2
        refine ⟨?_, rfl⟩
        have h := HW.out
        rw [HF.out, numL_no (by omega)] at h
        rw [← h]
        exact ret_int2 rfl (by simp only [List.length_cons, from_len]; omega)
    · go_wp2_with fail
      go_ret2
      refine ⟨?_, rfl⟩
      have h := HW.out
      rw [from_ge (by omega)] at h
      rw [← h]
      exact ret_int2 rfl (by simp [numL]; omega)
theorem glued_cons (b : UInt8) (l : By) : glued (b :: l) = (isLet b || decide (dig b < 10) || decide (b.toNat = 36)) := rfl
set_option maxHeartbeats 1600000 in
theorem begins_eq (w : World) (g : Nat) (s : ByteArray) (k : Nat) (h0 : w.cell? ⟨g, 0, none⟩ = some (.string s)) (hs : s.size ≤ 1000000) (hk : k ≤ s.size) :
    Calls Tryd.prog 40 #[.pointer (some ⟨g, 0, none⟩), .int .i64 k] w fun e w' => e = .returned (.bool (glued (from_ s k))) ∧ w = w' := by
  by_cases hlt : k < s.size
  · have HF := Lib.hid (from_lt hlt)
    have hne : ((k : Int) == (s.size : Int)) = false := by simp; omega
    by_cases hd : dig s[k] < 10
    · go_enter Tryd.func40, Tryd.ntmps40
      go_wp2_with (go_at_call 37; (with_reducible refine (digit_yes _ _ (by omega) (by omega) _).mono ?_); rintro e w' ⟨rfl, rfl⟩)
      go_ret
      exact ⟨bool_eq (by rw [HF.out, glued_cons]; simp [hd]), rfl⟩
    · cases hb : isLet s[k] with
      | true =>
        go_enter Tryd.func40, Tryd.ntmps40
        go_wp2_with (first
          | (go_at_call 37; (with_reducible refine (digit_no _ _ (by omega) (by omega) _).mono ?_); rintro e w' ⟨rfl, rfl⟩)
          | (go_at_call 38; (with_reducible refine (letter_eq _ _).mono ?_); rintro e w' ⟨rfl, rfl⟩))
        go_ret
        exact ⟨bool_eq (by rw [HF.out, glued_cons, hb]; rfl), rfl⟩
      | false =>
        go_enter Tryd.func40, Tryd.ntmps40
        go_wp2_with (first
          | (go_at_call 37; (with_reducible refine (digit_no _ _ (by omega) (by omega) _).mono ?_); rintro e w' ⟨rfl, rfl⟩)
          | (go_at_call 38; (with_reducible refine (letter_eq _ _).mono ?_); rintro e w' ⟨rfl, rfl⟩))
        go_ret
        refine ⟨bool_eq (by rw [HF.out, glued_cons, hb]; rw [Bool.eq_iff_iff]; simp; omega), rfl⟩
  · have he : k = s.size := by omega
    subst he
    go_enter Tryd.func40, Tryd.ntmps40
    go_wp2_with fail
    go_ret
    exact ⟨bool_eq (by rw [from_ge (Nat.le_refl _)]; rfl), rfl⟩
end Go.Proofs.YtlmcdbegnjikdaaDoor

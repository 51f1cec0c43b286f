/- The document's lexer: what begins at a byte. (printed by gen/lx20.py) -/
import Derived.Test.YtlmcdbegnjikdaaDoorLx8
namespace Go.Proofs.YtlmcdbegnjikdaaDoor
set_option linter.unusedVariables false
set_option linter.unusedSimpArgs false
open Go.RowKit
attribute [local go_sem ↓] Go.wp_at_zero Go.wp_at_succ

set_option maxHeartbeats 1600000 in
theorem refglued_eq (w : World) (s : ByteArray) (k : Nat) (hs : s.size ≤ 1000000) (hk : k ≤ s.size) :
    Calls Tryd.prog 44 #[.string s, .int .i64 k] w fun e w' => e = .returned (.bool (glued (from_ s k))) ∧ w = w' := by
  by_cases hlt : k < s.size
  · have HF := Lib.hid (from_lt hlt)
    have hlti : (k : Int) < (s.size : Int) := by omega
    cases hb : isLet s[k] with
    | true =>
      go_enter Tryd.func44, Tryd.ntmps44
      go_wp2_with (first
      | (go_at_call 22; (with_reducible refine (refletter_eq _ _).mono ?_); rintro e w1 ⟨rfl, rfl⟩)
      | (go_at_call 45; (with_reducible refine (refDigit_eq _ _).mono ?_); rintro e w1 ⟨rfl, rfl⟩))
      go_ret
      exact ⟨bool_eq (by rw [HF.out, glued_cons, hb]; rfl), rfl⟩
    | false =>
      by_cases hd : dig s[k] < 10
      · have hdi : (dig s[k] : Int) < 10 := by omega
        go_enter Tryd.func44, Tryd.ntmps44
        go_wp2_with (first
      | (go_at_call 22; (with_reducible refine (refletter_eq _ _).mono ?_); rintro e w1 ⟨rfl, rfl⟩)
      | (go_at_call 45; (with_reducible refine (refDigit_eq _ _).mono ?_); rintro e w1 ⟨rfl, rfl⟩))
        go_ret
        exact ⟨bool_eq (by rw [HF.out, glued_cons]; simp [hd]), rfl⟩
      · have hdi : ¬ (dig s[k] : Int) < 10 := by omega
        go_enter Tryd.func44, Tryd.ntmps44
        go_wp2_with (first
      | (go_at_call 22; (with_reducible refine (refletter_eq _ _).mono ?_); rintro e w1 ⟨rfl, rfl⟩)
      | (go_at_call 45; (with_reducible refine (refDigit_eq _ _).mono ?_); rintro e w1 ⟨rfl, rfl⟩))
        go_ret
        refine ⟨bool_eq (by rw [HF.out, glued_cons, hb]; rw [Bool.eq_iff_iff]; simp; omega), rfl⟩
  · have hlti : ¬ (k : Int) < (s.size : Int) := by omega
    go_enter Tryd.func44, Tryd.ntmps44
    go_wp2_with fail
    go_ret
    exact ⟨bool_eq (by rw [from_ge (by omega)]; rfl), rfl⟩
theorem refglued_at (w : World) (s : ByteArray) (k : Nat) (b : Bool) (hs : s.size ≤ 1000000) (hk : k ≤ s.size) (hb : glued (from_ s k) = b) :
    Calls Tryd.prog 44 #[.string s, .int .i64 k] w fun e w' => e = .returned (.bool b) ∧ w = w' := by
  subst hb; exact refglued_eq w s k hs hk
set_option maxHeartbeats 1600000 in
theorem refnumber10_eq (w : World) (s : ByteArray) (k : Nat) (hs : s.size ≤ 1000000) (hk : k ≤ s.size) :
    Calls Tryd.prog 46 #[.string s, .int .i64 k, .int .i64 10] w fun e w' => e = .returned (.tuple #[.int .i64 ((numL 10 0 (from_ s k)).1 : Int), .int .i64 ((s.size - (numL 10 0 (from_ s k)).2.length : Nat) : Int)]) ∧ w = w' := by
  go_enter Tryd.func46, Tryd.ntmps46
  go_wp2_with fail
  go_loop [1, 8] (fun i n => ∃ j m : Nat, j ≤ s.size ∧ m ≤ 65536 ∧ i = .int .i64 j ∧ n = .int .i64 m ∧ Hid (numL 10 m (from_ s j) = numL 10 0 (from_ s k))) (fun i _ => s.size - (intOf i).toNat)
  case atStart => exact ⟨k, 0, hk, by omega, rfl, rfl, Lib.hid rfl⟩
  case round =>
    obtain ⟨j, m, hj, hm, rfl, rfl, HW⟩ := hrel
    by_cases hlt : j < s.size
    · have HF := Lib.hid (from_lt hlt)
      by_cases hd : dig s[j] < 10
      · have hdi : (dig s[j] : Int) < 10 := by omega
        go_wp2_with (go_at_call 45; (with_reducible refine (refDigit_eq _ _).mono ?_); rintro e w1 ⟨rfl, rfl⟩)
        go_round
        case rel =>
          refine ⟨j + 1, min 65536 (m * 10 + dig s[j]), by omega, by omega, by go_num, ?_, Lib.hid (by have h := HW.out; rw [HF.out, numL_yes hd] at h; exact h)⟩
          congr 1; omega
        case measure => simp [intOf]; omega
      · have hdi : ¬ (dig s[j] : Int) < 10 := by omega
        go_wp2_with (go_at_call 45; (with_reducible refine (refDigit_eq _ _).mono ?_); rintro e w1 ⟨rfl, rfl⟩)
        go_ret2
        refine ⟨?_, rfl⟩
        have h := HW.out
        rw [HF.out, numL_no (by omega)] at h
        rw [← h]
        exact ret_int2 rfl (by simp only [List.length_cons, from_len]; omega)
    · have hlti : ¬ (j : Int) < (s.size : Int) := by omega
      go_wp2_with fail
      go_ret2
      refine ⟨?_, rfl⟩
      have h := HW.out
      rw [from_ge (by omega)] at h
      rw [← h]
      exact ret_int2 rfl (by simp [numL]; omega)
theorem refnum_at10 (w : World) (s : ByteArray) (k : Nat) (ki : Int) (m : Nat) (r : By) (he : ki = k) (hs : s.size ≤ 1000000) (hk : k ≤ s.size) (hN : numL 10 0 (from_ s k) = (m, r)) :
    Calls Tryd.prog 46 #[.string s, .int .i64 ki, .int .i64 10] w fun e w' => e = .returned (.tuple #[.int .i64 (m : Int), .int .i64 ((s.size - r.length : Nat) : Int)]) ∧ w = w' := by
  subst he
  have := refnumber10_eq w s k hs hk
  rw [hN] at this
  exact this
set_option maxHeartbeats 1600000 in
theorem refnumber16_eq (w : World) (s : ByteArray) (k : Nat) (hs : s.size ≤ 1000000) (hk : k ≤ s.size) :
    Calls Tryd.prog 46 #[.string s, .int .i64 k, .int .i64 16] w fun e w' => e = .returned (.tuple #[.int .i64 ((numL 16 0 (from_ s k)).1 : Int), .int .i64 ((s.size - (numL 16 0 (from_ s k)).2.length : Nat) : Int)]) ∧ w = w' := by
  go_enter Tryd.func46, Tryd.ntmps46
  go_wp2_with fail
  go_loop [1, 8] (fun i n => ∃ j m : Nat, j ≤ s.size ∧ m ≤ 65536 ∧ i = .int .i64 j ∧ n = .int .i64 m ∧ Hid (numL 16 m (from_ s j) = numL 16 0 (from_ s k))) (fun i _ => s.size - (intOf i).toNat)
  case atStart => exact ⟨k, 0, hk, by omega, rfl, rfl, Lib.hid rfl⟩
  case round =>
    obtain ⟨j, m, hj, hm, rfl, rfl, HW⟩ := hrel
    by_cases hlt : j < s.size
    · have HF := Lib.hid (from_lt hlt)
      by_cases hd : dig s[j] < 16
      · have hdi : (dig s[j] : Int) < 16 := by omega
        go_wp2_with (go_at_call 45; (with_reducible refine (refDigit_eq _ _).mono ?_); rintro e w1 ⟨rfl, rfl⟩)
        go_round
        case rel =>
          refine ⟨j + 1, min 65536 (m * 16 + dig s[j]), by omega, by omega, by go_num, ?_, Lib.hid (by have h := HW.out; rw [HF.out, numL_yes hd] at h; exact h)⟩
          congr 1; omega
        case measure => simp [intOf]; omega
      · have hdi : ¬ (dig s[j] : Int) < 16 := by omega
        go_wp2_with (go_at_call 45; (with_reducible refine (refDigit_eq _ _).mono ?_); rintro e w1 ⟨rfl, rfl⟩)
        go_ret2
        refine ⟨?_, rfl⟩
        have h := HW.out
        rw [HF.out, numL_no (by omega)] at h
        rw [← h]
        exact ret_int2 rfl (by simp only [List.length_cons, from_len]; omega)
    · have hlti : ¬ (j : Int) < (s.size : Int) := by omega
      go_wp2_with fail
      go_ret2
      refine ⟨?_, rfl⟩
      have h := HW.out
      rw [from_ge (by omega)] at h
      rw [← h]
      exact ret_int2 rfl (by simp [numL]; omega)
theorem refnum_at16 (w : World) (s : ByteArray) (k : Nat) (ki : Int) (m : Nat) (r : By) (he : ki = k) (hs : s.size ≤ 1000000) (hk : k ≤ s.size) (hN : numL 16 0 (from_ s k) = (m, r)) :
    Calls Tryd.prog 46 #[.string s, .int .i64 ki, .int .i64 16] w fun e w' => e = .returned (.tuple #[.int .i64 (m : Int), .int .i64 ((s.size - r.length : Nat) : Int)]) ∧ w = w' := by
  subst he
  have := refnumber16_eq w s k hs hk
  rw [hN] at this
  exact this
/-- What One answers. -/
def OnePost (w : World) (s : ByteArray) (k : Nat) (e : Ending) (w' : World) : Prop :=
  match one (from_ s k) with
  | .bad c => e = .returned (.tuple #[.agg #[.int .i64 0, .string ⟨#[]⟩, .int .i64 0, .int .i64 0, .int .i64 0], .int .i64 0, .int .i64 c]) ∧ Below w.heap.size w w'
  | .ok kk t v r => e = .returned (.tuple #[.agg #[.int .i64 kk, .string (str t), .int .i64 v, .int .i64 0, .int .i64 0], .int .i64 ((s.size - r.length : Nat) : Int), .int .i64 0]) ∧ Below w.heap.size w w'

set_option maxRecDepth 100000 in
set_option maxHeartbeats 3200000 in
theorem one_word_bad (w : World) (s : ByteArray) (k : Nat) (hk : k < s.size) (hs : s.size ≤ 1000) (hb : isLet s[k] = true) (hg : glued (wordL (from_ s k)) = true) :
    Calls Tryd.prog 31 #[.string s, .int .i64 k] w (OnePost w s k) := by
  have HF := Lib.hid (from_lt hk)
  have hki : (k : Int) < (s.size : Int) := by omega
  have hk0 : k ≤ s.size := by omega
  have hk1 : (k : Int) ≤ (s.size : Int) := by omega
  have hw := wordL_len (from_ s k)
  rw [from_len] at hw
  obtain ⟨to_, hto⟩ : ∃ to_, to_ = s.size - (wordL (from_ s k)).length := ⟨_, rfl⟩
  have hbk : from_ s to_ = wordL (from_ s k) := by rw [hto]; exact word_back s k (by omega)
  have hkt : k ≤ to_ := by omega
  have hkti : (k : Int) ≤ (to_ : Int) := by omega
  have hts : to_ ≤ s.size := by omega
  have htsi : (to_ : Int) ≤ (s.size : Int) := by omega
  have GL := fun V => refglued_at V s (to_) true (by omega) (by omega) (by rw [hbk]; exact hg)
  have HO := Lib.hid (show one (from_ s k) = .bad 11 from by
    have h := hg; rw [HF.out] at h ⊢; rw [one_cons, if_pos hb, if_pos h])
  have HT := Lib.hid hto
  clear hg hto hbk hw
  go_enter Tryd.func31, Tryd.ntmps31
  go_wp2_with (go_at_call 22; (with_reducible refine (refletter_eq _ _).mono ?_); rintro e w1 ⟨rfl, rfl⟩)
  go_loop [7] (fun i => ∃ j : Nat, j ≤ s.size ∧ i = .int .i64 j ∧ Hid (wordL (from_ s j) = wordL (from_ s k))) (fun i => s.size - (intOf i).toNat)
  case atStart => exact ⟨k, by omega, rfl, Lib.hid rfl⟩
  case round =>
    obtain ⟨j, hj, rfl, HW⟩ := hrel
    by_cases hlt : j < s.size
    · have hlti : (j : Int) < (s.size : Int) := by omega
      have HFj := Lib.hid (from_lt hlt)
      cases hbj : isLet s[j] with
      | true =>
        go_wp2_with (go_at_call 22; (with_reducible refine (refletter_eq _ _).mono ?_); rintro e w1 ⟨rfl, rfl⟩)
        go_round
        case rel => exact ⟨j + 1, by omega, by go_num, Lib.hid (by have h := HW.out; rw [HFj.out, wordL_yes hbj] at h; exact h)⟩
        case measure => simp [intOf]; omega
      | false =>
        have hje : j = to_ := by have h := HW.out; rw [HFj.out, wordL_no hbj, ← HFj.out] at h; have := congrArg List.length h; rw [from_len] at this; rw [HT.out]; omega
        subst hje
        clear HT
        go_wp2_with (first
      | (go_at_call 22; (with_reducible refine (refletter_eq _ _).mono ?_); rintro e w1 ⟨rfl, rfl⟩)
      | (go_at_call 44; (with_reducible refine (GL _).mono ?_); rintro e w1 ⟨rfl, rfl⟩))
        go_returns
        unfold OnePost
        rw [HO.out]
        exact ⟨rfl, (by repeat' (first | with_reducible exact Below.refl _ _ | with_reducible assumption | with_reducible refine Q.alloc ?_ _ | with_reducible refine Q.drew ?_ | with_reducible refine Q.drewN ?_ _ | with_reducible refine Q.call ?_ (by assumption)))⟩
    · have hlti : ¬ (j : Int) < (s.size : Int) := by omega
      have hje : j = to_ := by have h := HW.out; rw [from_ge (by omega)] at h; have := congrArg List.length h; simp [wordL] at this; rw [HT.out]; omega
      subst hje
      clear HT
      go_wp2_with (first
      | (go_at_call 22; (with_reducible refine (refletter_eq _ _).mono ?_); rintro e w1 ⟨rfl, rfl⟩)
      | (go_at_call 44; (with_reducible refine (GL _).mono ?_); rintro e w1 ⟨rfl, rfl⟩))
      go_returns
      unfold OnePost
      rw [HO.out]
      exact ⟨rfl, (by repeat' (first | with_reducible exact Below.refl _ _ | with_reducible assumption | with_reducible refine Q.alloc ?_ _ | with_reducible refine Q.drew ?_ | with_reducible refine Q.drewN ?_ _ | with_reducible refine Q.call ?_ (by assumption)))⟩

set_option maxRecDepth 100000 in
set_option maxHeartbeats 3200000 in
theorem one_word_ok (w : World) (s : ByteArray) (k : Nat) (hk : k < s.size) (hs : s.size ≤ 1000) (hb : isLet s[k] = true) (hg : glued (wordL (from_ s k)) = false) :
    Calls Tryd.prog 31 #[.string s, .int .i64 k] w (OnePost w s k) := by
  have HF := Lib.hid (from_lt hk)
  have hki : (k : Int) < (s.size : Int) := by omega
  have hk0 : k ≤ s.size := by omega
  have hk1 : (k : Int) ≤ (s.size : Int) := by omega
  have hw := wordL_len (from_ s k)
  rw [from_len] at hw
  obtain ⟨to_, hto⟩ : ∃ to_, to_ = s.size - (wordL (from_ s k)).length := ⟨_, rfl⟩
  have hbk : from_ s to_ = wordL (from_ s k) := by rw [hto]; exact word_back s k (by omega)
  have hkt : k ≤ to_ := by omega
  have hkti : (k : Int) ≤ (to_ : Int) := by omega
  have hts : to_ ≤ s.size := by omega
  have htsi : (to_ : Int) ≤ (s.size : Int) := by omega
  have GL := fun V => refglued_at V s (to_) false (by omega) (by omega) (by rw [hbk]; exact hg)
  have HO := Lib.hid (show one (from_ s k) = .ok 1 ((from_ s k).take ((from_ s k).length - (wordL (from_ s k)).length)) 0 (wordL (from_ s k)) from by
    have h := hg; rw [HF.out] at h ⊢; rw [one_cons, if_pos hb, if_neg (by rw [h]; decide)])
  have HX := Lib.hid (show s.extract k to_ = str ((from_ s k).take ((from_ s k).length - (wordL (from_ s k)).length)) from by
    rw [extract_str s k _ (by omega), hto, from_len, Nat.sub_right_comm])
  have HR := Lib.hid (show s.size - (wordL (from_ s k)).length = to_ from hto.symm)
  have HT := Lib.hid hto
  clear hg hto hbk hw
  go_enter Tryd.func31, Tryd.ntmps31
  go_wp2_with (go_at_call 22; (with_reducible refine (refletter_eq _ _).mono ?_); rintro e w1 ⟨rfl, rfl⟩)
  go_loop [7] (fun i => ∃ j : Nat, j ≤ s.size ∧ i = .int .i64 j ∧ Hid (wordL (from_ s j) = wordL (from_ s k))) (fun i => s.size - (intOf i).toNat)
  case atStart => exact ⟨k, by omega, rfl, Lib.hid rfl⟩
  case round =>
    obtain ⟨j, hj, rfl, HW⟩ := hrel
    by_cases hlt : j < s.size
    · have hlti : (j : Int) < (s.size : Int) := by omega
      have HFj := Lib.hid (from_lt hlt)
      cases hbj : isLet s[j] with
      | true =>
        go_wp2_with (go_at_call 22; (with_reducible refine (refletter_eq _ _).mono ?_); rintro e w1 ⟨rfl, rfl⟩)
        go_round
        case rel => exact ⟨j + 1, by omega, by go_num, Lib.hid (by have h := HW.out; rw [HFj.out, wordL_yes hbj] at h; exact h)⟩
        case measure => simp [intOf]; omega
      | false =>
        have hje : j = to_ := by have h := HW.out; rw [HFj.out, wordL_no hbj, ← HFj.out] at h; have := congrArg List.length h; rw [from_len] at this; rw [HT.out]; omega
        subst hje
        clear HT
        go_wp2_with (first
      | (go_at_call 22; (with_reducible refine (refletter_eq _ _).mono ?_); rintro e w1 ⟨rfl, rfl⟩)
      | (go_at_call 44; (with_reducible refine (GL _).mono ?_); rintro e w1 ⟨rfl, rfl⟩))
        go_returns
        unfold OnePost
        rw [HO.out]
        simp only
        rw [HR.out, ← HX.out]
        exact ⟨rfl, (by repeat' (first | with_reducible exact Below.refl _ _ | with_reducible assumption | with_reducible refine Q.alloc ?_ _ | with_reducible refine Q.drew ?_ | with_reducible refine Q.drewN ?_ _ | with_reducible refine Q.call ?_ (by assumption)))⟩
    · have hlti : ¬ (j : Int) < (s.size : Int) := by omega
      have hje : j = to_ := by have h := HW.out; rw [from_ge (by omega)] at h; have := congrArg List.length h; simp [wordL] at this; rw [HT.out]; omega
      subst hje
      clear HT
      go_wp2_with (first
      | (go_at_call 22; (with_reducible refine (refletter_eq _ _).mono ?_); rintro e w1 ⟨rfl, rfl⟩)
      | (go_at_call 44; (with_reducible refine (GL _).mono ?_); rintro e w1 ⟨rfl, rfl⟩))
      go_returns
      unfold OnePost
      rw [HO.out]
      simp only
      rw [HR.out, ← HX.out]
      exact ⟨rfl, (by repeat' (first | with_reducible exact Below.refl _ _ | with_reducible assumption | with_reducible refine Q.alloc ?_ _ | with_reducible refine Q.drew ?_ | with_reducible refine Q.drewN ?_ _ | with_reducible refine Q.call ?_ (by assumption)))⟩

set_option maxRecDepth 100000 in
set_option maxHeartbeats 3200000 in
theorem one_dots_ok (w : World) (s : ByteArray) (k : Nat) (hk : k < s.size) (hs : s.size ≤ 1000) (r : By) (hb : s[k].toNat = 46) (hk2 : k + 1 < s.size) (hb2 : s[k + 1].toNat = 46) (hr : from_ s (k + 1) = s[k + 1] :: r) :
    Calls Tryd.prog 31 #[.string s, .int .i64 k] w (OnePost w s k) := by
  have HF := Lib.hid (from_lt hk)
  have hki : (k : Int) < (s.size : Int) := by omega
  have hk0 : k ≤ s.size := by omega
  have hk1 : (k : Int) ≤ (s.size : Int) := by omega
  have hnl : isLet s[k] = false := by unfold isLet; simp; omega
  have hlen := congrArg List.length hr
  rw [from_len, List.length_cons] at hlen
  have h46 : ((s[k].toNat : Int) == 46) = true := by rw [beq_iff_eq]; omega
  have h462 : ((s[k + 1].toNat : Int) == 46) = true := by rw [beq_iff_eq]; omega
  have hk2i : (k : Int) + 1 < (s.size : Int) := by omega
  have HO := Lib.hid (show one (from_ s k) = .ok 3 [] 0 r from by
    rw [HF.out, one_cons, if_neg (by rw [hnl]; decide), if_pos hb, hr]; show (if s[k + 1].toNat = 46 then _ else _) = _; rw [if_pos hb2])
  have HL := Lib.hid (show ((s.size - r.length : Nat) : Int) = (k : Int) + 2 by omega)
  clear hr hb hb2
  go_enter Tryd.func31, Tryd.ntmps31
  go_wp2_with (go_at_call 22; (with_reducible refine (refletter_eq _ _).mono ?_); rintro e w1 ⟨rfl, rfl⟩)
  go_returns
  unfold OnePost
  rw [HO.out]
  simp only
  rw [HL.out]
  exact ⟨rfl, (by repeat' (first | with_reducible exact Below.refl _ _ | with_reducible assumption | with_reducible refine Q.alloc ?_ _ | with_reducible refine Q.drew ?_ | with_reducible refine Q.drewN ?_ _ | with_reducible refine Q.call ?_ (by assumption)))⟩

set_option maxRecDepth 100000 in
set_option maxHeartbeats 3200000 in
theorem one_dot_bad1 (w : World) (s : ByteArray) (k : Nat) (hk : k < s.size) (hs : s.size ≤ 1000) (hb : s[k].toNat = 46) (hk2 : k + 1 < s.size) (hb2 : s[k + 1].toNat ≠ 46) :
    Calls Tryd.prog 31 #[.string s, .int .i64 k] w (OnePost w s k) := by
  have HF := Lib.hid (from_lt hk)
  have hki : (k : Int) < (s.size : Int) := by omega
  have hk0 : k ≤ s.size := by omega
  have hk1 : (k : Int) ≤ (s.size : Int) := by omega
  have hnl : isLet s[k] = false := by unfold isLet; simp; omega
  have h46 : ((s[k].toNat : Int) == 46) = true := by rw [beq_iff_eq]; omega
  have h462 : ((s[k + 1].toNat : Int) == 46) = false := by rw [beq_eq_false_iff_ne]; omega
  have hk2i : (k : Int) + 1 < (s.size : Int) := by omega
  have HO := Lib.hid (show one (from_ s k) = .bad 11 from by
    rw [HF.out, one_cons, if_neg (by rw [hnl]; decide), if_pos hb, from_lt hk2]; show (if s[k + 1].toNat = 46 then _ else _) = _; rw [if_neg hb2])
  clear hb hb2
  go_enter Tryd.func31, Tryd.ntmps31
  go_wp2_with (go_at_call 22; (with_reducible refine (refletter_eq _ _).mono ?_); rintro e w1 ⟨rfl, rfl⟩)
  go_returns
  unfold OnePost
  rw [HO.out]
  exact ⟨rfl, (by repeat' (first | with_reducible exact Below.refl _ _ | with_reducible assumption | with_reducible refine Q.alloc ?_ _ | with_reducible refine Q.drew ?_ | with_reducible refine Q.drewN ?_ _ | with_reducible refine Q.call ?_ (by assumption)))⟩

set_option maxRecDepth 100000 in
set_option maxHeartbeats 3200000 in
theorem one_dot_bad2 (w : World) (s : ByteArray) (k : Nat) (hk : k < s.size) (hs : s.size ≤ 1000) (hb : s[k].toNat = 46) (hk2 : s.size ≤ k + 1) :
    Calls Tryd.prog 31 #[.string s, .int .i64 k] w (OnePost w s k) := by
  have HF := Lib.hid (from_lt hk)
  have hki : (k : Int) < (s.size : Int) := by omega
  have hk0 : k ≤ s.size := by omega
  have hk1 : (k : Int) ≤ (s.size : Int) := by omega
  have hnl : isLet s[k] = false := by unfold isLet; simp; omega
  have h46 : ((s[k].toNat : Int) == 46) = true := by rw [beq_iff_eq]; omega
  have hk2i : ¬ (k : Int) + 1 < (s.size : Int) := by omega
  have HO := Lib.hid (show one (from_ s k) = .bad 11 from by
    rw [HF.out, one_cons, if_neg (by rw [hnl]; decide), if_pos hb, from_ge hk2]; rfl)
  clear hb
  go_enter Tryd.func31, Tryd.ntmps31
  go_wp2_with (go_at_call 22; (with_reducible refine (refletter_eq _ _).mono ?_); rintro e w1 ⟨rfl, rfl⟩)
  go_returns
  unfold OnePost
  rw [HO.out]
  exact ⟨rfl, (by repeat' (first | with_reducible exact Below.refl _ _ | with_reducible assumption | with_reducible refine Q.alloc ?_ _ | with_reducible refine Q.drew ?_ | with_reducible refine Q.drewN ?_ _ | with_reducible refine Q.call ?_ (by assumption)))⟩

set_option maxRecDepth 100000 in
set_option maxHeartbeats 3200000 in
theorem one_mark_bad (w : World) (s : ByteArray) (k : Nat) (hk : k < s.size) (hs : s.size ≤ 1000) (hl0 : isLet s[k] = false) (hd : ¬ dig s[k] < 10) (hb : ¬ (s[k].toNat = 46 ∨ s[k].toNat = 36)) :
    Calls Tryd.prog 31 #[.string s, .int .i64 k] w (OnePost w s k) := by
  have HF := Lib.hid (from_lt hk)
  have hki : (k : Int) < (s.size : Int) := by omega
  have hk0 : k ≤ s.size := by omega
  have hk1 : (k : Int) ≤ (s.size : Int) := by omega
  have HO := Lib.hid (show one (from_ s k) = .bad 22 from by
    rw [HF.out, one_cons, if_neg (by rw [hl0]; decide), if_neg (by omega), if_neg (by omega), if_neg hd])
  have h46 : ((s[k].toNat : Int) == 46) = false := by simp; omega
  have h36 : ((s[k].toNat : Int) == 36) = false := by simp; omega
  have hdi : 9 < (dig s[k] : Int) := by omega
  go_enter Tryd.func31, Tryd.ntmps31
  go_wp2_with (first
      | (go_at_call 22; (with_reducible refine (refletter_eq _ _).mono ?_); rintro e w1 ⟨rfl, rfl⟩)
      | (go_at_call 45; (with_reducible refine (refDigit_eq _ _).mono ?_); rintro e w1 ⟨rfl, rfl⟩))
  go_returns
  unfold OnePost
  rw [HO.out]
  exact ⟨rfl, (by repeat' (first | with_reducible exact Below.refl _ _ | with_reducible assumption | with_reducible refine Q.alloc ?_ _ | with_reducible refine Q.drew ?_ | with_reducible refine Q.drewN ?_ _ | with_reducible refine Q.call ?_ (by assumption)))⟩

set_option maxRecDepth 100000 in
set_option maxHeartbeats 3200000 in
theorem one_hex_a (w : World) (s : ByteArray) (k : Nat) (hk : k < s.size) (hs : s.size ≤ 1000) (m : Nat) (r : By) (hN : numL 16 0 (from_ s (k + 1)) = (m, r)) (hb : s[k].toNat = 36) (hr : r.length = (from_ s (k + 1)).length) :
    Calls Tryd.prog 31 #[.string s, .int .i64 k] w (OnePost w s k) := by
  have HF := Lib.hid (from_lt hk)
  have hki : (k : Int) < (s.size : Int) := by omega
  have hk0 : k ≤ s.size := by omega
  have hk1 : (k : Int) ≤ (s.size : Int) := by omega
  have hnl : isLet s[k] = false := by unfold isLet; simp; omega
  have hrl := num_len2 hN
  have hbk := num_back2 (by omega) hN
  have hfl := from_len s (k + 1)
  have HO := Lib.hid (show one (from_ s k) = .bad 11 from by
    rw [HF.out, one_cons, if_neg (by rw [hnl]; decide), if_neg (by omega), if_pos hb]
    unfold numTok
    simp only [hN]
    rw [if_pos (Or.inl hr)])
  have h46 : ((s[k].toNat : Int) == 46) = false := by simp; omega
  have h36 : ((s[k].toNat : Int) == 36) = true := by simp; omega
  have NU := fun V => refnum_at16 V s (k + 1) ((k : Int) + 1) m r (by omega) (by omega) (by omega) hN
  have hto : (((s.size - r.length : Nat) : Int) == ((k : Int) + 1)) = true := by
    rw [beq_iff_eq]; omega
  clear hN hbk hfl hr hb
  go_enter Tryd.func31, Tryd.ntmps31
  go_wp2_with (first
      | (go_at_call 22; (with_reducible refine (refletter_eq _ _).mono ?_); rintro e w1 ⟨rfl, rfl⟩)
      | (go_at_call 46; (with_reducible refine (NU _).mono ?_); rintro e w1 ⟨rfl, rfl⟩))
  go_returns
  unfold OnePost
  rw [HO.out]
  exact ⟨rfl, (by repeat' (first | with_reducible exact Below.refl _ _ | with_reducible assumption | with_reducible refine Q.alloc ?_ _ | with_reducible refine Q.drew ?_ | with_reducible refine Q.drewN ?_ _ | with_reducible refine Q.call ?_ (by assumption)))⟩

set_option maxRecDepth 100000 in
set_option maxHeartbeats 3200000 in
theorem one_hex_b (w : World) (s : ByteArray) (k : Nat) (hk : k < s.size) (hs : s.size ≤ 1000) (m : Nat) (r : By) (hN : numL 16 0 (from_ s (k + 1)) = (m, r)) (hb : s[k].toNat = 36) (hr : r.length ≠ (from_ s (k + 1)).length) (hg : glued r = true) :
    Calls Tryd.prog 31 #[.string s, .int .i64 k] w (OnePost w s k) := by
  have HF := Lib.hid (from_lt hk)
  have hki : (k : Int) < (s.size : Int) := by omega
  have hk0 : k ≤ s.size := by omega
  have hk1 : (k : Int) ≤ (s.size : Int) := by omega
  have hnl : isLet s[k] = false := by unfold isLet; simp; omega
  have hrl := num_len2 hN
  have hbk := num_back2 (by omega) hN
  have hfl := from_len s (k + 1)
  have HO := Lib.hid (show one (from_ s k) = .bad 11 from by
    rw [HF.out, one_cons, if_neg (by rw [hnl]; decide), if_neg (by omega), if_pos hb]
    unfold numTok
    simp only [hN]
    rw [if_pos (Or.inr hg)])
  have h46 : ((s[k].toNat : Int) == 46) = false := by simp; omega
  have h36 : ((s[k].toNat : Int) == 36) = true := by simp; omega
  have NU := fun V => refnum_at16 V s (k + 1) ((k : Int) + 1) m r (by omega) (by omega) (by omega) hN
  have hto : (((s.size - r.length : Nat) : Int) == ((k : Int) + 1)) = false := by
    rw [beq_eq_false_iff_ne]; omega
  have GL := fun V => refglued_at V s (s.size - r.length) true (by omega) (by omega) (by rw [hbk]; exact hg)
  clear hN hbk hfl hr hb hg
  go_enter Tryd.func31, Tryd.ntmps31
  go_wp2_with (first
      | (go_at_call 22; (with_reducible refine (refletter_eq _ _).mono ?_); rintro e w1 ⟨rfl, rfl⟩)
      | (go_at_call 46; (with_reducible refine (NU _).mono ?_); rintro e w1 ⟨rfl, rfl⟩)
      | (go_at_call 44; (with_reducible refine (GL _).mono ?_); rintro e w1 ⟨rfl, rfl⟩))
  go_returns
  unfold OnePost
  rw [HO.out]
  exact ⟨rfl, (by repeat' (first | with_reducible exact Below.refl _ _ | with_reducible assumption | with_reducible refine Q.alloc ?_ _ | with_reducible refine Q.drew ?_ | with_reducible refine Q.drewN ?_ _ | with_reducible refine Q.call ?_ (by assumption)))⟩

set_option maxRecDepth 100000 in
set_option maxHeartbeats 3200000 in
theorem one_hex_c (w : World) (s : ByteArray) (k : Nat) (hk : k < s.size) (hs : s.size ≤ 1000) (m : Nat) (r : By) (hN : numL 16 0 (from_ s (k + 1)) = (m, r)) (hb : s[k].toNat = 36) (hr : r.length ≠ (from_ s (k + 1)).length) (hg : glued r = false) (hm : 65535 < m) :
    Calls Tryd.prog 31 #[.string s, .int .i64 k] w (OnePost w s k) := by
  have HF := Lib.hid (from_lt hk)
  have hki : (k : Int) < (s.size : Int) := by omega
  have hk0 : k ≤ s.size := by omega
  have hk1 : (k : Int) ≤ (s.size : Int) := by omega
  have hnl : isLet s[k] = false := by unfold isLet; simp; omega
  have hrl := num_len2 hN
  have hbk := num_back2 (by omega) hN
  have hfl := from_len s (k + 1)
  have HO := Lib.hid (show one (from_ s k) = .bad 10 from by
    rw [HF.out, one_cons, if_neg (by rw [hnl]; decide), if_neg (by omega), if_pos hb]
    unfold numTok
    simp only [hN]
    rw [if_neg (by rw [hg]; simpa using hr), if_pos hm])
  have h46 : ((s[k].toNat : Int) == 46) = false := by simp; omega
  have h36 : ((s[k].toNat : Int) == 36) = true := by simp; omega
  have NU := fun V => refnum_at16 V s (k + 1) ((k : Int) + 1) m r (by omega) (by omega) (by omega) hN
  have hto : (((s.size - r.length : Nat) : Int) == ((k : Int) + 1)) = false := by
    rw [beq_eq_false_iff_ne]; omega
  have GL := fun V => refglued_at V s (s.size - r.length) false (by omega) (by omega) (by rw [hbk]; exact hg)
  have hmi : 65535 < (m : Int) := by omega
  clear hN hbk hfl hr hb hg hm
  go_enter Tryd.func31, Tryd.ntmps31
  go_wp2_with (first
      | (go_at_call 22; (with_reducible refine (refletter_eq _ _).mono ?_); rintro e w1 ⟨rfl, rfl⟩)
      | (go_at_call 46; (with_reducible refine (NU _).mono ?_); rintro e w1 ⟨rfl, rfl⟩)
      | (go_at_call 44; (with_reducible refine (GL _).mono ?_); rintro e w1 ⟨rfl, rfl⟩))
  go_returns
  unfold OnePost
  rw [HO.out]
  exact ⟨rfl, (by repeat' (first | with_reducible exact Below.refl _ _ | with_reducible assumption | with_reducible refine Q.alloc ?_ _ | with_reducible refine Q.drew ?_ | with_reducible refine Q.drewN ?_ _ | with_reducible refine Q.call ?_ (by assumption)))⟩

set_option maxRecDepth 100000 in
set_option maxHeartbeats 3200000 in
theorem one_hex_d (w : World) (s : ByteArray) (k : Nat) (hk : k < s.size) (hs : s.size ≤ 1000) (m : Nat) (r : By) (hN : numL 16 0 (from_ s (k + 1)) = (m, r)) (hb : s[k].toNat = 36) (hr : r.length ≠ (from_ s (k + 1)).length) (hg : glued r = false) (hm : ¬ 65535 < m) :
    Calls Tryd.prog 31 #[.string s, .int .i64 k] w (OnePost w s k) := by
  have HF := Lib.hid (from_lt hk)
  have hki : (k : Int) < (s.size : Int) := by omega
  have hk0 : k ≤ s.size := by omega
  have hk1 : (k : Int) ≤ (s.size : Int) := by omega
  have hnl : isLet s[k] = false := by unfold isLet; simp; omega
  have hrl := num_len2 hN
  have hbk := num_back2 (by omega) hN
  have hfl := from_len s (k + 1)
  have HO := Lib.hid (show one (from_ s k) = .ok 2 [] m r from by
    rw [HF.out, one_cons, if_neg (by rw [hnl]; decide), if_neg (by omega), if_pos hb]
    unfold numTok
    simp only [hN]
    rw [if_neg (by rw [hg]; simpa using hr), if_neg hm])
  have h46 : ((s[k].toNat : Int) == 46) = false := by simp; omega
  have h36 : ((s[k].toNat : Int) == 36) = true := by simp; omega
  have NU := fun V => refnum_at16 V s (k + 1) ((k : Int) + 1) m r (by omega) (by omega) (by omega) hN
  have hto : (((s.size - r.length : Nat) : Int) == ((k : Int) + 1)) = false := by
    rw [beq_eq_false_iff_ne]; omega
  have GL := fun V => refglued_at V s (s.size - r.length) false (by omega) (by omega) (by rw [hbk]; exact hg)
  have hmi : ¬ 65535 < (m : Int) := by omega
  clear hN hbk hfl hr hb hg hm
  go_enter Tryd.func31, Tryd.ntmps31
  go_wp2_with (first
      | (go_at_call 22; (with_reducible refine (refletter_eq _ _).mono ?_); rintro e w1 ⟨rfl, rfl⟩)
      | (go_at_call 46; (with_reducible refine (NU _).mono ?_); rintro e w1 ⟨rfl, rfl⟩)
      | (go_at_call 44; (with_reducible refine (GL _).mono ?_); rintro e w1 ⟨rfl, rfl⟩))
  go_returns
  unfold OnePost
  rw [HO.out]
  exact ⟨rfl, (by repeat' (first | with_reducible exact Below.refl _ _ | with_reducible assumption | with_reducible refine Q.alloc ?_ _ | with_reducible refine Q.drew ?_ | with_reducible refine Q.drewN ?_ _ | with_reducible refine Q.call ?_ (by assumption)))⟩

set_option maxRecDepth 100000 in
set_option maxHeartbeats 3200000 in
theorem one_dec_b (w : World) (s : ByteArray) (k : Nat) (hk : k < s.size) (hs : s.size ≤ 1000) (m : Nat) (r : By) (hN : numL 10 0 (from_ s k) = (m, r)) (hd : dig s[k] < 10) (hnl : isLet s[k] = false) (hb : ¬ (s[k].toNat = 46 ∨ s[k].toNat = 36)) (hr : r.length ≠ (from_ s k).length) (hg : glued r = true) :
    Calls Tryd.prog 31 #[.string s, .int .i64 k] w (OnePost w s k) := by
  have HF := Lib.hid (from_lt hk)
  have hki : (k : Int) < (s.size : Int) := by omega
  have hk0 : k ≤ s.size := by omega
  have hk1 : (k : Int) ≤ (s.size : Int) := by omega
  have hrl := num_len2 hN
  have hbk := num_back2 (by omega) hN
  have hfl := from_len s k
  have HO := Lib.hid (show one (from_ s k) = .bad 11 from by
    rw [HF.out, one_cons, if_neg (by rw [hnl]; decide), if_neg (by omega), if_neg (by omega), if_pos hd, ← HF.out]
    unfold numTok
    simp only [hN]
    rw [if_pos (Or.inr hg)])
  have h46 : ((s[k].toNat : Int) == 46) = false := by simp; omega
  have h36 : ((s[k].toNat : Int) == 36) = false := by simp; omega
  have hdi : ¬ 9 < (dig s[k] : Int) := by omega
  have NU := fun V => refnum_at10 V s k (k : Int) m r (by omega) (by omega) (by omega) hN
  have hto : (((s.size - r.length : Nat) : Int) == (k : Int)) = false := by
    rw [beq_eq_false_iff_ne]; omega
  have GL := fun V => refglued_at V s (s.size - r.length) true (by omega) (by omega) (by rw [hbk]; exact hg)
  clear hN hbk hfl hr hg
  go_enter Tryd.func31, Tryd.ntmps31
  go_wp2_with (first
      | (go_at_call 22; (with_reducible refine (refletter_eq _ _).mono ?_); rintro e w1 ⟨rfl, rfl⟩)
      | (go_at_call 45; (with_reducible refine (refDigit_eq _ _).mono ?_); rintro e w1 ⟨rfl, rfl⟩)
      | (go_at_call 46; (with_reducible refine (NU _).mono ?_); rintro e w1 ⟨rfl, rfl⟩)
      | (go_at_call 44; (with_reducible refine (GL _).mono ?_); rintro e w1 ⟨rfl, rfl⟩))
  go_returns
  unfold OnePost
  rw [HO.out]
  exact ⟨rfl, (by repeat' (first | with_reducible exact Below.refl _ _ | with_reducible assumption | with_reducible refine Q.alloc ?_ _ | with_reducible refine Q.drew ?_ | with_reducible refine Q.drewN ?_ _ | with_reducible refine Q.call ?_ (by assumption)))⟩

set_option maxRecDepth 100000 in
set_option maxHeartbeats 3200000 in
theorem one_dec_c (w : World) (s : ByteArray) (k : Nat) (hk : k < s.size) (hs : s.size ≤ 1000) (m : Nat) (r : By) (hN : numL 10 0 (from_ s k) = (m, r)) (hd : dig s[k] < 10) (hnl : isLet s[k] = false) (hb : ¬ (s[k].toNat = 46 ∨ s[k].toNat = 36)) (hr : r.length ≠ (from_ s k).length) (hg : glued r = false) (hm : 65535 < m) :
    Calls Tryd.prog 31 #[.string s, .int .i64 k] w (OnePost w s k) := by
  have HF := Lib.hid (from_lt hk)
  have hki : (k : Int) < (s.size : Int) := by omega
  have hk0 : k ≤ s.size := by omega
  have hk1 : (k : Int) ≤ (s.size : Int) := by omega
  have hrl := num_len2 hN
  have hbk := num_back2 (by omega) hN
  have hfl := from_len s k
  have HO := Lib.hid (show one (from_ s k) = .bad 10 from by
    rw [HF.out, one_cons, if_neg (by rw [hnl]; decide), if_neg (by omega), if_neg (by omega), if_pos hd, ← HF.out]
    unfold numTok
    simp only [hN]
    rw [if_neg (by rw [hg]; simpa using hr), if_pos hm])
  have h46 : ((s[k].toNat : Int) == 46) = false := by simp; omega
  have h36 : ((s[k].toNat : Int) == 36) = false := by simp; omega
  have hdi : ¬ 9 < (dig s[k] : Int) := by omega
  have NU := fun V => refnum_at10 V s k (k : Int) m r (by omega) (by omega) (by omega) hN
  have hto : (((s.size - r.length : Nat) : Int) == (k : Int)) = false := by
    rw [beq_eq_false_iff_ne]; omega
  have GL := fun V => refglued_at V s (s.size - r.length) false (by omega) (by omega) (by rw [hbk]; exact hg)
  have hmi : 65535 < (m : Int) := by omega
  clear hN hbk hfl hr hg hm
  go_enter Tryd.func31, Tryd.ntmps31
  go_wp2_with (first
      | (go_at_call 22; (with_reducible refine (refletter_eq _ _).mono ?_); rintro e w1 ⟨rfl, rfl⟩)
      | (go_at_call 45; (with_reducible refine (refDigit_eq _ _).mono ?_); rintro e w1 ⟨rfl, rfl⟩)
      | (go_at_call 46; (with_reducible refine (NU _).mono ?_); rintro e w1 ⟨rfl, rfl⟩)
      | (go_at_call 44; (with_reducible refine (GL _).mono ?_); rintro e w1 ⟨rfl, rfl⟩))
  go_returns
  unfold OnePost
  rw [HO.out]
  exact ⟨rfl, (by repeat' (first | with_reducible exact Below.refl _ _ | with_reducible assumption | with_reducible refine Q.alloc ?_ _ | with_reducible refine Q.drew ?_ | with_reducible refine Q.drewN ?_ _ | with_reducible refine Q.call ?_ (by assumption)))⟩

set_option maxRecDepth 100000 in
set_option maxHeartbeats 3200000 in
theorem one_dec_d (w : World) (s : ByteArray) (k : Nat) (hk : k < s.size) (hs : s.size ≤ 1000) (m : Nat) (r : By) (hN : numL 10 0 (from_ s k) = (m, r)) (hd : dig s[k] < 10) (hnl : isLet s[k] = false) (hb : ¬ (s[k].toNat = 46 ∨ s[k].toNat = 36)) (hr : r.length ≠ (from_ s k).length) (hg : glued r = false) (hm : ¬ 65535 < m) :
    Calls Tryd.prog 31 #[.string s, .int .i64 k] w (OnePost w s k) := by
  have HF := Lib.hid (from_lt hk)
  have hki : (k : Int) < (s.size : Int) := by omega
  have hk0 : k ≤ s.size := by omega
  have hk1 : (k : Int) ≤ (s.size : Int) := by omega
  have hrl := num_len2 hN
  have hbk := num_back2 (by omega) hN
  have hfl := from_len s k
  have HO := Lib.hid (show one (from_ s k) = .ok 2 [] m r from by
    rw [HF.out, one_cons, if_neg (by rw [hnl]; decide), if_neg (by omega), if_neg (by omega), if_pos hd, ← HF.out]
    unfold numTok
    simp only [hN]
    rw [if_neg (by rw [hg]; simpa using hr), if_neg hm])
  have h46 : ((s[k].toNat : Int) == 46) = false := by simp; omega
  have h36 : ((s[k].toNat : Int) == 36) = false := by simp; omega
  have hdi : ¬ 9 < (dig s[k] : Int) := by omega
  have NU := fun V => refnum_at10 V s k (k : Int) m r (by omega) (by omega) (by omega) hN
  have hto : (((s.size - r.length : Nat) : Int) == (k : Int)) = false := by
    rw [beq_eq_false_iff_ne]; omega
  have GL := fun V => refglued_at V s (s.size - r.length) false (by omega) (by omega) (by rw [hbk]; exact hg)
  have hmi : ¬ 65535 < (m : Int) := by omega
  clear hN hbk hfl hr hg hm
  go_enter Tryd.func31, Tryd.ntmps31
  go_wp2_with (first
      | (go_at_call 22; (with_reducible refine (refletter_eq _ _).mono ?_); rintro e w1 ⟨rfl, rfl⟩)
      | (go_at_call 45; (with_reducible refine (refDigit_eq _ _).mono ?_); rintro e w1 ⟨rfl, rfl⟩)
      | (go_at_call 46; (with_reducible refine (NU _).mono ?_); rintro e w1 ⟨rfl, rfl⟩)
      | (go_at_call 44; (with_reducible refine (GL _).mono ?_); rintro e w1 ⟨rfl, rfl⟩))
  go_returns
  unfold OnePost
  rw [HO.out]
  exact ⟨rfl, (by repeat' (first | with_reducible exact Below.refl _ _ | with_reducible assumption | with_reducible refine Q.alloc ?_ _ | with_reducible refine Q.drew ?_ | with_reducible refine Q.drewN ?_ _ | with_reducible refine Q.call ?_ (by assumption)))⟩

theorem one_eq (w : World) (s : ByteArray) (k : Nat) (hk : k < s.size) (hs : s.size ≤ 1000) : Calls Tryd.prog 31 #[.string s, .int .i64 k] w (OnePost w s k) := by
  cases hb : isLet s[k] with
  | true =>
    cases hg : glued (wordL (from_ s k)) with
    | true => exact one_word_bad w s k hk hs hb hg
    | false => exact one_word_ok w s k hk hs hb hg
  | false =>
    by_cases h46 : s[k].toNat = 46
    · by_cases hk2 : k + 1 < s.size
      · by_cases hb2 : s[k + 1].toNat = 46
        · exact one_dots_ok w s k hk hs _ h46 hk2 hb2 (from_lt hk2)
        · exact one_dot_bad1 w s k hk hs h46 hk2 hb2
      · exact one_dot_bad2 w s k hk hs h46 (by omega)
    · by_cases h36 : s[k].toNat = 36
      · obtain ⟨m, r, hN⟩ : ∃ m r, numL 16 0 (from_ s (k + 1)) = (m, r) := ⟨_, _, rfl⟩
        by_cases hr : r.length = (from_ s (k + 1)).length
        · exact one_hex_a w s k hk hs m r hN h36 hr
        · cases hg : glued r with
          | true => exact one_hex_b w s k hk hs m r hN h36 hr hg
          | false =>
            by_cases hm : 65535 < m
            · exact one_hex_c w s k hk hs m r hN h36 hr hg hm
            · exact one_hex_d w s k hk hs m r hN h36 hr hg hm
      · by_cases hd : dig s[k] < 10
        · obtain ⟨m, r, hN⟩ : ∃ m r, numL 10 0 (from_ s k) = (m, r) := ⟨_, _, rfl⟩
          have hr : r.length ≠ (from_ s k).length := by
            have h2 := hN
            rw [from_lt hk, numL_yes hd] at h2
            have h3 := numL_len 10 (from_ s (k + 1)) (min 65536 (0 * 10 + dig s[k]))
            rw [h2] at h3
            rw [from_lt hk, List.length_cons]
            simp only at h3
            omega
          cases hg : glued r with
          | true => exact one_dec_b w s k hk hs m r hN hd hb (by omega) hr hg
          | false =>
            by_cases hm : 65535 < m
            · exact one_dec_c w s k hk hs m r hN hd hb (by omega) hr hg hm
            · exact one_dec_d w s k hk hs m r hN hd hb (by omega) hr hg hm
        · exact one_mark_bad w s k hk hs hb hd (by omega)
end Go.Proofs.YtlmcdbegnjikdaaDoor

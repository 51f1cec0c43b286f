/- The lexer: what begins at a byte. (printed by gen/lx8.py) -/
import Derived.Test.YtlmcdbegnjikdaaDoorLx7
import Derived.StillTailTactics
namespace Go.Proofs.YtlmcdbegnjikdaaDoor
set_option linter.unusedVariables false
set_option linter.unusedSimpArgs false
open Go.RowKit
attribute [local go_sem ↓] Go.wp_at_zero Go.wp_at_succ

theorem extract_str (s : ByteArray) (a b : Nat) (h : b ≤ s.size) : s.extract a b = str ((from_ s a).take (b - a)) := by
  have h1 : (s.extract a b).data = s.data.extract a b := by
    simp
  cases hs : s.extract a b with
  | mk d =>
    rw [hs] at h1
    simp only at h1
    unfold str from_
    rw [h1]
    congr 1
    apply Array.toList_inj.1
    simp [List.extract]
theorem extract_from (s : ByteArray) (a b : Nat) (h : b = s.size) : (s.extract a b).data.toList = from_ s a := by
  subst h
  rw [extract_str s a _ (Nat.le_refl _)]
  simp only [str]
  rw [List.take_of_length_le (by rw [from_len]; omega)]
theorem begins_at (w : World) (g : Nat) (s : ByteArray) (k : Nat) (b : Bool) (h0 : w.cell? ⟨g, 0, none⟩ = some (.string s)) (hs : s.size ≤ 1000000) (hk : k ≤ s.size) (hb : glued (from_ s k) = b) :
    Calls Tryd.prog 40 #[.pointer (some ⟨g, 0, none⟩), .int .i64 k] w fun e w' => e = .returned (.bool b) ∧ w = w' := by
  subst hb; exact begins_eq w g s k h0 hs hk
/-- add, behind calls that only make blocks. -/
theorem add_b (w V : World) (B g : Nat) (s : ByteArray) (n : Int) (at_ : Nat) (to_ : Int) (sv : Value) (l : List Tok) (k v : Int) (x : By) (xs : ByteArray) (hx : xs = str x) (ha : 0 ≤ (at_ : Int) ∧ (at_ : Int) ≤ 1000) (hl : l.length ≤ 1000) (h : IsLn w B g s n at_ sv l)
    (hV : Below w.heap.size w V) :
    Calls Tryd.prog 41 #[.pointer (some ⟨g, 0, none⟩), .agg #[.int .i64 k, .string xs, .int .i64 v, .int .i64 0, .int .i64 0], .int .i64 to_] V fun e w' => e = .returned (.tuple #[]) ∧ ∃ sv', IsLn w' B g s n to_ sv' (l ++ [⟨k, x, v, n, at_ + 1⟩]) ∧ Chg (LnF g B) w w' := by
  subst hx
  refine (add_ok V B g s n at_ to_ sv l k v x ha hl (h.below hV)).mono fun e w' ⟨he, sv', h1, h2⟩ => ⟨he, sv', h1, (Chg.of hV).trans h2⟩
theorem quiet_add_same {P : Program} {f : FuncId} {args : Array Value} {w : World} {a n : Nat} {v : Value}
    (h : Calls P f args (w.drewN (a + n)) fun e w' => e = .returned v ∧ w' = w.drewN (a + n)) :
    Calls P f args (w.drewN (a + n)) fun e w'' => e = .returned v ∧ ∃ m, w'' = w.drewN (a + m) :=
  h.mono fun _ _ ⟨he, hm⟩ => ⟨he, n, hm⟩
theorem hasPrefix_eq (s p : ByteArray) (b : Bool) (h : Lib.hasPrefix s.data.toList p.data.toList = b) (w : World) : Calls Tryd.prog 42 #[.string s, .string p] w fun e w' => e = .returned (.bool b) ∧ w = w' := by
  refine (Any.strings_HasPrefix Tryd.lays99 s p w).mono fun e w' ⟨h1, h2⟩ => ⟨?_, h2.symm⟩
  rw [h1, h]
theorem word_at (w : World) (g : Nat) (s : ByteArray) (k to_ : Nat) (ht : to_ = s.size - (wordL (from_ s k)).length) (h0 : w.cell? ⟨g, 0, none⟩ = some (.string s)) (hs : s.size ≤ 1000000) (hk : k ≤ s.size) :
    Calls Tryd.prog 39 #[.pointer (some ⟨g, 0, none⟩), .int .i64 k] w fun e w' => e = .returned (.int .i64 (to_ : Int)) ∧ w = w' := by
  subst ht; exact word_eq w g s k h0 hs hk
abbrev dd : ByteArray := ⟨#[46, 46]⟩
/-- What next answers, and what a line is then. -/
def NextPost (w : World) (B g : Nat) (s : ByteArray) (n : Int) (k : Nat) (l : List Tok) (e : Ending) (w' : World) : Prop :=
  match one (from_ s k) with
  | .bad c => e = .returned (.int .i64 c) ∧ Below w.heap.size w w'
  | .ok kk t v r => e = .returned (.int .i64 0) ∧ ∃ sv', IsLn w' B g s n ((s.size - r.length : Nat) : Int) sv' (l ++ [⟨kk, t, v, n, k + 1⟩]) ∧ Chg (LnF g B) w w'
theorem from_back {s : ByteArray} {k : Nat} {r : By} (hr : r = (from_ s k).drop ((from_ s k).length - r.length)) (hl : r.length ≤ (from_ s k).length) (hk : k ≤ s.size) : from_ s (s.size - r.length) = r := by
  rw [from_len] at hr hl
  rw [hr]
  unfold from_
  rw [List.drop_drop]
  congr 1
  simp
  omega
theorem word_back (s : ByteArray) (k : Nat) (hk : k ≤ s.size) : from_ s (s.size - (wordL (from_ s k)).length) = wordL (from_ s k) := from_back (wordL_suffix _) (wordL_len _) hk
theorem num_back (s : ByteArray) (k base : Nat) (hk : k ≤ s.size) : from_ s (s.size - (numL base 0 (from_ s k)).2.length) = (numL base 0 (from_ s k)).2 := from_back (numL_suffix base _ _) (numL_len base _ _) hk
theorem hasPrefix_same (s p : ByteArray) (b : Bool) (h : Lib.hasPrefix s.data.toList p.data.toList = b) (w : World) : Calls Tryd.prog 42 #[.string s, .string p] w fun e w' => e = .returned (.bool b) ∧ w' = w :=
  (hasPrefix_eq s p b h w).mono fun e w' ⟨h1, h2⟩ => ⟨h1, h2.symm⟩
theorem num_len2 {base f m : Nat} {s : ByteArray} {r : By} (h : numL base 0 (from_ s f) = (m, r)) : r.length ≤ (from_ s f).length := by have := numL_len base (from_ s f) 0; rw [h] at this; exact this
theorem num_back2 {base f m : Nat} {s : ByteArray} {r : By} (hf : f ≤ s.size) (h : numL base 0 (from_ s f) = (m, r)) : from_ s (s.size - r.length) = r := by have := num_back s f base hf; rw [h] at this; exact this
theorem num_at10 (w : World) (g : Nat) (s : ByteArray) (k : Nat) (ki : Int) (m : Nat) (r : By) (he : ki = k) (h0 : w.cell? ⟨g, 0, none⟩ = some (.string s)) (hs : s.size ≤ 1000000) (hk : k ≤ s.size) (hN : numL 10 0 (from_ s k) = (m, r)) :
    Calls Tryd.prog 43 #[.pointer (some ⟨g, 0, none⟩), .int .i64 ki, .int .i64 10] w fun e w' => e = .returned (.tuple #[.int .i64 (m : Int), .int .i64 ((s.size - r.length : Nat) : Int)]) ∧ w = w' := by
  subst he
  have := number10_eq w g s k h0 hs hk
  rw [hN] at this
  exact this
theorem num_at16 (w : World) (g : Nat) (s : ByteArray) (k : Nat) (ki : Int) (m : Nat) (r : By) (he : ki = k) (h0 : w.cell? ⟨g, 0, none⟩ = some (.string s)) (hs : s.size ≤ 1000000) (hk : k ≤ s.size) (hN : numL 16 0 (from_ s k) = (m, r)) :
    Calls Tryd.prog 43 #[.pointer (some ⟨g, 0, none⟩), .int .i64 ki, .int .i64 16] w fun e w' => e = .returned (.tuple #[.int .i64 (m : Int), .int .i64 ((s.size - r.length : Nat) : Int)]) ∧ w = w' := by
  subst he
  have := number16_eq w g s k h0 hs hk
  rw [hN] at this
  exact this

set_option maxRecDepth 100000 in
set_option maxHeartbeats 3200000 in
theorem next_word_bad (w : World) (B g : Nat) (s : ByteArray) (n : Int) (k : Nat) (sv : Value) (l : List Tok) (h : IsLn w B g s n k sv l) (hk : k < s.size) (hs : s.size ≤ 1000) (hl : l.length ≤ 1000) (hb : isLet s[k] = true) (hg : glued (wordL (from_ s k)) = true) :
    Calls Tryd.prog 30 #[.pointer (some ⟨g, 0, none⟩)] w (NextPost w B g s n k l) := by
  obtain ⟨a, cap, rfl, hcap⟩ := own_slice h.own
  have c0 := h.blk.cell 0
  have c2 := h.blk.cell 2
  have hlt := h.blk.lt
  have HF := Lib.hid (from_lt hk)
  have hw := wordL_len (from_ s k)
  rw [from_len] at hw
  obtain ⟨to_, hto⟩ : ∃ to_, to_ = s.size - (wordL (from_ s k)).length := ⟨_, rfl⟩
  have WO := fun V (hV : Below w.heap.size w V) => word_at V g s k to_ hto ((hV.cell (p := ⟨g, 0, none⟩) hlt).trans c0) (by omega) (by omega)
  have hbk : from_ s to_ = wordL (from_ s k) := by rw [hto]; exact word_back s k (by omega)
  have BG := fun V (hV : Below w.heap.size w V) => begins_at V g s (to_) true ((hV.cell (p := ⟨g, 0, none⟩) hlt).trans c0) (by omega) (by omega) (by rw [hbk]; exact hg)
  have HO := Lib.hid (show one (from_ s k) = .bad 11 from by
    have h := hg; rw [HF.out] at h ⊢; rw [one_cons, if_pos hb, if_pos h])
  clear h hg hto hbk
  by_cases hd : dig s[k] < 10
  all_goals
    go_enter Tryd.func30, Tryd.ntmps30
    go_wp2
    go_quiet (fail)
    go_wp2_with fail
    go_quiet (fail)
    go_wp2_with (first
        | (go_at_call 37; (with_reducible refine (digit_yes _ _ (by omega) (by omega) _).mono ?_); rintro e w1 ⟨rfl, rfl⟩)
        | (go_at_call 37; (with_reducible refine (digit_no _ _ (by omega) (by omega) _).mono ?_); rintro e w1 ⟨rfl, rfl⟩)
        | (go_at_call 38; (with_reducible refine (letter_eq _ _).mono ?_); rintro e w1 ⟨rfl, rfl⟩)
        | (go_at_call 39; (with_reducible refine (WO _ (by repeat' (first | with_reducible exact Below.refl _ _ | with_reducible assumption | with_reducible refine Q.alloc ?_ _ | with_reducible refine Q.drew ?_ | with_reducible refine Q.drewN ?_ _ | with_reducible refine Q.call ?_ (by assumption)))).mono ?_); rintro e w1 ⟨rfl, rfl⟩)
        | (go_at_call 40; (with_reducible refine (BG _ (by repeat' (first | with_reducible exact Below.refl _ _ | with_reducible assumption | with_reducible refine Q.alloc ?_ _ | with_reducible refine Q.drew ?_ | with_reducible refine Q.drewN ?_ _ | with_reducible refine Q.call ?_ (by assumption)))).mono ?_); rintro e w1 ⟨rfl, rfl⟩))
    go_returns
    unfold NextPost
    rw [HO.out]
    exact ⟨rfl, (by repeat' (first | with_reducible exact Below.refl _ _ | with_reducible assumption | with_reducible refine Q.alloc ?_ _ | with_reducible refine Q.drew ?_ | with_reducible refine Q.drewN ?_ _ | with_reducible refine Q.call ?_ (by assumption)))⟩

set_option maxRecDepth 100000 in
set_option maxHeartbeats 3200000 in
theorem next_word_ok (w : World) (B g : Nat) (s : ByteArray) (n : Int) (k : Nat) (sv : Value) (l : List Tok) (h : IsLn w B g s n k sv l) (hk : k < s.size) (hs : s.size ≤ 1000) (hl : l.length ≤ 1000) (hb : isLet s[k] = true) (hg : glued (wordL (from_ s k)) = false) :
    Calls Tryd.prog 30 #[.pointer (some ⟨g, 0, none⟩)] w (NextPost w B g s n k l) := by
  obtain ⟨a, cap, rfl, hcap⟩ := own_slice h.own
  have c0 := h.blk.cell 0
  have c2 := h.blk.cell 2
  have hlt := h.blk.lt
  have HF := Lib.hid (from_lt hk)
  have hw := wordL_len (from_ s k)
  rw [from_len] at hw
  obtain ⟨to_, hto⟩ : ∃ to_, to_ = s.size - (wordL (from_ s k)).length := ⟨_, rfl⟩
  have WO := fun V (hV : Below w.heap.size w V) => word_at V g s k to_ hto ((hV.cell (p := ⟨g, 0, none⟩) hlt).trans c0) (by omega) (by omega)
  have hbk : from_ s to_ = wordL (from_ s k) := by rw [hto]; exact word_back s k (by omega)
  have BG := fun V (hV : Below w.heap.size w V) => begins_at V g s (to_) false ((hV.cell (p := ⟨g, 0, none⟩) hlt).trans c0) (by omega) (by omega) (by rw [hbk]; exact hg)
  have HO := Lib.hid (show one (from_ s k) = .ok 1 ((from_ s k).take ((from_ s k).length - (wordL (from_ s k)).length)) 0 (wordL (from_ s k)) from by
    have h := hg; rw [HF.out] at h ⊢; rw [one_cons, if_pos hb, if_neg (by rw [h]; decide)])
  have HX : s.extract k to_ = str ((from_ s k).take ((from_ s k).length - (wordL (from_ s k)).length)) := by
    rw [extract_str s k _ (by omega), hto, from_len, Nat.sub_right_comm]
  have hks : k ≤ s.size := by omega
  have hki : (k : Int) ≤ (s.size : Int) := by omega
  have hkt : k ≤ to_ := by omega
  have hkti : (k : Int) ≤ (to_ : Int) := by omega
  have hts : to_ ≤ s.size := by omega
  have htsi : (to_ : Int) ≤ (s.size : Int) := by omega
  have AD := fun V (hV : Below w.heap.size w V) => add_b w V B g s n k ((to_ : Nat)) _ l (1) (0) ((from_ s k).take ((from_ s k).length - (wordL (from_ s k)).length)) _ (HX) ⟨by omega, by omega⟩ hl h hV
  have HT := Lib.hid hto
  clear h hg HX hto hbk
  by_cases hd : dig s[k] < 10
  all_goals
    go_enter Tryd.func30, Tryd.ntmps30
    go_wp2
    go_quiet (fail)
    go_wp2_with fail
    go_quiet (fail)
    go_wp2_with (first
        | (go_at_call 37; (with_reducible refine (digit_yes _ _ (by omega) (by omega) _).mono ?_); rintro e w1 ⟨rfl, rfl⟩)
        | (go_at_call 37; (with_reducible refine (digit_no _ _ (by omega) (by omega) _).mono ?_); rintro e w1 ⟨rfl, rfl⟩)
        | (go_at_call 38; (with_reducible refine (letter_eq _ _).mono ?_); rintro e w1 ⟨rfl, rfl⟩)
        | (go_at_call 39; (with_reducible refine (WO _ (by repeat' (first | with_reducible exact Below.refl _ _ | with_reducible assumption | with_reducible refine Q.alloc ?_ _ | with_reducible refine Q.drew ?_ | with_reducible refine Q.drewN ?_ _ | with_reducible refine Q.call ?_ (by assumption)))).mono ?_); rintro e w1 ⟨rfl, rfl⟩)
        | (go_at_call 40; (with_reducible refine (BG _ (by repeat' (first | with_reducible exact Below.refl _ _ | with_reducible assumption | with_reducible refine Q.alloc ?_ _ | with_reducible refine Q.drew ?_ | with_reducible refine Q.drewN ?_ _ | with_reducible refine Q.call ?_ (by assumption)))).mono ?_); rintro e w1 ⟨rfl, rfl⟩))
    go_region_with (go_at_call 41; (with_reducible refine (AD _ (by repeat' (first | with_reducible exact Below.refl _ _ | with_reducible assumption | with_reducible refine Q.alloc ?_ _ | with_reducible refine Q.drew ?_ | with_reducible refine Q.drewN ?_ _ | with_reducible refine Q.call ?_ (by assumption)))).mono ?_); rintro e w9 ⟨rfl, sv9, HL, HC⟩)
    all_goals
      go_wp2_with fail
      rw [HT.out] at HL
      go_returns
      unfold NextPost
      rw [HO.out]
      exact ⟨rfl, _, HL, HC⟩

set_option maxRecDepth 100000 in
set_option maxHeartbeats 3200000 in
theorem next_dots_ok (w : World) (B g : Nat) (s : ByteArray) (n : Int) (k : Nat) (sv : Value) (l : List Tok) (h : IsLn w B g s n k sv l) (hk : k < s.size) (hs : s.size ≤ 1000) (hl : l.length ≤ 1000) (r : By) (hb : s[k].toNat = 46) (hr : from_ s (k + 1) = 46 :: r) :
    Calls Tryd.prog 30 #[.pointer (some ⟨g, 0, none⟩)] w (NextPost w B g s n k l) := by
  obtain ⟨a, cap, rfl, hcap⟩ := own_slice h.own
  have c0 := h.blk.cell 0
  have c2 := h.blk.cell 2
  have hlt := h.blk.lt
  have HF := Lib.hid (from_lt hk)
  have hnl : isLet s[k] = false := by unfold isLet; simp; omega
  have hd : ¬ dig s[k] < 10 := by unfold dig; rw [if_neg (by omega), if_neg (by omega)]; omega
  have hlen := congrArg List.length hr
  rw [from_len, List.length_cons] at hlen
  have hb46 : s[k] = 46 := UInt8.toNat_inj.1 hb
  have HPP : Lib.hasPrefix (s[k] :: from_ s (k + 1)) dd.data.toList = true := by rw [hr, hb46]; rfl
  have hks : k ≤ s.size := by omega
  have hki : (k : Int) ≤ (s.size : Int) := by omega
  have HP := fun V => hasPrefix_same (s.extract k s.size) dd true (by rw [extract_from s k _ rfl, HF.out]; exact HPP) V
  have HO := Lib.hid (show one (from_ s k) = .ok 3 [] 0 r from by
    rw [HF.out, one_cons, if_neg (by rw [hnl]; decide), if_pos hb, hr]; rfl)
  have AD := fun V (hV : Below w.heap.size w V) => add_b w V B g s n k ((k : Int) + 2) _ l (3) (0) ([]) (ByteArray.mk #[]) (rfl) ⟨by omega, by omega⟩ hl h hV
  clear h hr hb46 HPP hb
  go_enter Tryd.func30, Tryd.ntmps30
  go_wp2
  go_quiet (fail)
  go_wp2_with fail
  go_quiet (fail)
  go_wp2_with (first
      | (go_at_call 37; (with_reducible refine (digit_no _ _ (by omega) (by omega) _).mono ?_); rintro e w1 ⟨rfl, rfl⟩)
      | (go_at_call 38; (with_reducible refine (letter_eq _ _).mono ?_); rintro e w1 ⟨rfl, rfl⟩))
  go_quiet ((go_at_call 42; exact quiet_add_same (HP _)))
  go_wp2_with (go_at_call 41; (with_reducible refine (AD _ (by repeat' (first | with_reducible exact Below.refl _ _ | with_reducible assumption | with_reducible refine Q.alloc ?_ _ | with_reducible refine Q.drew ?_ | with_reducible refine Q.drewN ?_ _ | with_reducible refine Q.call ?_ (by assumption)))).mono ?_); rintro e w9 ⟨rfl, sv9, HL, HC⟩)
  go_returns
  unfold NextPost
  rw [HO.out]
  rw [show ((k : Int) + 2) = ((s.size - r.length : Nat) : Int) by omega] at HL
  exact ⟨rfl, _, HL, HC⟩

set_option maxRecDepth 100000 in
set_option maxHeartbeats 3200000 in
theorem next_dot_bad (w : World) (B g : Nat) (s : ByteArray) (n : Int) (k : Nat) (sv : Value) (l : List Tok) (h : IsLn w B g s n k sv l) (hk : k < s.size) (hs : s.size ≤ 1000) (hl : l.length ≤ 1000) (hb : s[k].toNat = 46) (hr : ∀ r, from_ s (k + 1) ≠ 46 :: r) :
    Calls Tryd.prog 30 #[.pointer (some ⟨g, 0, none⟩)] w (NextPost w B g s n k l) := by
  obtain ⟨a, cap, rfl, hcap⟩ := own_slice h.own
  have c0 := h.blk.cell 0
  have c2 := h.blk.cell 2
  have hlt := h.blk.lt
  have HF := Lib.hid (from_lt hk)
  have hnl : isLet s[k] = false := by unfold isLet; simp; omega
  have hd : ¬ dig s[k] < 10 := by unfold dig; rw [if_neg (by omega), if_neg (by omega)]; omega
  have hb46 : s[k] = 46 := UInt8.toNat_inj.1 hb
  have HPP : Lib.hasPrefix (s[k] :: from_ s (k + 1)) dd.data.toList = false := by
    rw [hb46]
    cases hf : from_ s (k + 1) with
    | nil => rfl
    | cons c r => have := hr r; rw [hf] at this; simp [Lib.hasPrefix, List.isPrefixOf]; exact fun e => this (by rw [e])
  have hks : k ≤ s.size := by omega
  have hki : (k : Int) ≤ (s.size : Int) := by omega
  have HP := fun V => hasPrefix_same (s.extract k s.size) dd false (by rw [extract_from s k _ rfl, HF.out]; exact HPP) V
  have HO := Lib.hid (show one (from_ s k) = .bad 11 from by
    rw [HF.out, one_cons, if_neg (by rw [hnl]; decide), if_pos hb]
    cases hf : from_ s (k + 1) with
    | nil => rfl
    | cons c r => have := hr r; rw [hf] at this; show (if c.toNat = 46 then _ else _) = _; rw [if_neg (fun e => this (by rw [show c = 46 from UInt8.toNat_inj.1 e]))])
  have h46 : ((s[k].toNat : Int) == 46) = true := by simp; omega
  clear h hr hb46 HPP hb
  go_enter Tryd.func30, Tryd.ntmps30
  go_wp2
  go_quiet (fail)
  go_wp2_with fail
  go_quiet (fail)
  go_wp2_with (first
      | (go_at_call 37; (with_reducible refine (digit_no _ _ (by omega) (by omega) _).mono ?_); rintro e w1 ⟨rfl, rfl⟩)
      | (go_at_call 38; (with_reducible refine (letter_eq _ _).mono ?_); rintro e w1 ⟨rfl, rfl⟩))
  go_quiet ((go_at_call 42; exact quiet_add_same (HP _)))
  go_wp2_with fail
  go_returns
  unfold NextPost
  rw [HO.out]
  exact ⟨rfl, (by repeat' (first | with_reducible exact Below.refl _ _ | with_reducible assumption | with_reducible refine Q.alloc ?_ _ | with_reducible refine Q.drew ?_ | with_reducible refine Q.drewN ?_ _ | with_reducible refine Q.call ?_ (by assumption)))⟩

set_option maxRecDepth 100000 in
set_option maxHeartbeats 3200000 in
theorem next_mark_bad (w : World) (B g : Nat) (s : ByteArray) (n : Int) (k : Nat) (sv : Value) (l : List Tok) (h : IsLn w B g s n k sv l) (hk : k < s.size) (hs : s.size ≤ 1000) (hl : l.length ≤ 1000) (hl0 : isLet s[k] = false) (hd : ¬ dig s[k] < 10) (hb : ¬ (s[k].toNat = 46 ∨ s[k].toNat = 36)) :
    Calls Tryd.prog 30 #[.pointer (some ⟨g, 0, none⟩)] w (NextPost w B g s n k l) := by
  obtain ⟨a, cap, rfl, hcap⟩ := own_slice h.own
  have c0 := h.blk.cell 0
  have c2 := h.blk.cell 2
  have hlt := h.blk.lt
  have HF := Lib.hid (from_lt hk)
  have HPP : Lib.hasPrefix (s[k] :: from_ s (k + 1)) dd.data.toList = false := by
    have h46 : (46 == s[k]) = false := by
      rw [beq_eq_false_iff_ne]; intro e; rw [← e] at hb; revert hb; decide
    simp [Lib.hasPrefix, List.isPrefixOf, h46]
  have hks : k ≤ s.size := by omega
  have hki : (k : Int) ≤ (s.size : Int) := by omega
  have HP := fun V => hasPrefix_same (s.extract k s.size) dd false (by rw [extract_from s k _ rfl, HF.out]; exact HPP) V
  have HO := Lib.hid (show one (from_ s k) = .bad 22 from by
    rw [HF.out, one_cons, if_neg (by rw [hl0]; decide), if_neg (by omega), if_neg (by omega), if_neg hd])
  have h46 : ((s[k].toNat : Int) == 46) = false := by simp; omega
  have h36 : ((s[k].toNat : Int) == 36) = false := by simp; omega
  clear h HPP
  go_enter Tryd.func30, Tryd.ntmps30
  go_wp2
  go_quiet (fail)
  go_wp2_with fail
  go_quiet (fail)
  go_wp2_with (first
      | (go_at_call 37; (with_reducible refine (digit_no _ _ (by omega) (by omega) _).mono ?_); rintro e w1 ⟨rfl, rfl⟩)
      | (go_at_call 38; (with_reducible refine (letter_eq _ _).mono ?_); rintro e w1 ⟨rfl, rfl⟩))
  go_quiet ((go_at_call 42; exact quiet_add_same (HP _)))
  go_wp2_with fail
  go_returns
  unfold NextPost
  rw [HO.out]
  exact ⟨rfl, (by repeat' (first | with_reducible exact Below.refl _ _ | with_reducible assumption | with_reducible refine Q.alloc ?_ _ | with_reducible refine Q.drew ?_ | with_reducible refine Q.drewN ?_ _ | with_reducible refine Q.call ?_ (by assumption)))⟩

set_option maxRecDepth 100000 in
set_option maxHeartbeats 3200000 in
theorem next_hex_a (w : World) (B g : Nat) (s : ByteArray) (n : Int) (k : Nat) (sv : Value) (l : List Tok) (h : IsLn w B g s n k sv l) (hk : k < s.size) (hs : s.size ≤ 1000) (hl : l.length ≤ 1000) (m : Nat) (r : By) (hN : numL 16 0 (from_ s (k + 1)) = (m, r)) (hb : s[k].toNat = 36) (hr : r.length = (from_ s (k + 1)).length) :
    Calls Tryd.prog 30 #[.pointer (some ⟨g, 0, none⟩)] w (NextPost w B g s n k l) := by
  obtain ⟨a, cap, rfl, hcap⟩ := own_slice h.own
  have c0 := h.blk.cell 0
  have c2 := h.blk.cell 2
  have hlt := h.blk.lt
  have HF := Lib.hid (from_lt hk)
  have hnl : isLet s[k] = false := by unfold isLet; simp; omega
  have hd : ¬ dig s[k] < 10 := by unfold dig; rw [if_neg (by omega), if_neg (by omega)]; omega
  have HPP : Lib.hasPrefix (s[k] :: from_ s (k + 1)) dd.data.toList = false := by
    have h46 : (46 == s[k]) = false := by
      rw [beq_eq_false_iff_ne]; intro e; rw [← e] at hb; revert hb; decide
    simp [Lib.hasPrefix, List.isPrefixOf, h46]
  have hks : k ≤ s.size := by omega
  have hki : (k : Int) ≤ (s.size : Int) := by omega
  have HP := fun V => hasPrefix_same (s.extract k s.size) dd false (by rw [extract_from s k _ rfl, HF.out]; exact HPP) V
  have hrl := num_len2 hN
  have hbk := num_back2 (by omega) hN
  have hfl := from_len s (k + 1)
  have HO := Lib.hid (show one (from_ s k) = .bad 11 from by
    rw [HF.out, one_cons, if_neg (by rw [hnl]; decide), if_neg (by omega), if_pos hb]
    unfold numTok
    simp only [hN]
    rw [if_pos (Or.inl hr)])
  have h46 : ((s[k].toNat : Int) == 46) = false := by simp; omega
  have h36 : ((s[k].toNat : Int) == 36) = true := by simp; omega
  have NU := fun V (hV : Below w.heap.size w V) => num_at16 V g s (k + 1) ((k : Int) + 1) m r (by omega) ((hV.cell (p := ⟨g, 0, none⟩) hlt).trans c0) (by omega) (by omega) hN
  have hto : (((s.size - r.length : Nat) : Int) == ((k : Int) + 1)) = true := by
    rw [beq_iff_eq]; omega
  clear h HPP hN hbk hfl hr hb
  go_enter Tryd.func30, Tryd.ntmps30
  go_wp2
  go_quiet (fail)
  go_wp2_with fail
  go_quiet (fail)
  go_wp2_with (first
      | (go_at_call 37; (with_reducible refine (digit_no _ _ (by omega) (by omega) _).mono ?_); rintro e w1 ⟨rfl, rfl⟩)
      | (go_at_call 38; (with_reducible refine (letter_eq _ _).mono ?_); rintro e w1 ⟨rfl, rfl⟩))
  go_quiet ((go_at_call 42; exact quiet_add_same (HP _)))
  go_wp2_with fail
  go_quiet (fail)
  go_wp2_with (first
      | (go_at_call 43; (with_reducible refine (NU _ (by repeat' (first | with_reducible exact Below.refl _ _ | with_reducible assumption | with_reducible refine Q.alloc ?_ _ | with_reducible refine Q.drew ?_ | with_reducible refine Q.drewN ?_ _ | with_reducible refine Q.call ?_ (by assumption)))).mono ?_); rintro e w1 ⟨rfl, rfl⟩))
  go_returns
  unfold NextPost
  rw [HO.out]
  exact ⟨rfl, (by repeat' (first | with_reducible exact Below.refl _ _ | with_reducible assumption | with_reducible refine Q.alloc ?_ _ | with_reducible refine Q.drew ?_ | with_reducible refine Q.drewN ?_ _ | with_reducible refine Q.call ?_ (by assumption)))⟩

set_option maxRecDepth 100000 in
set_option maxHeartbeats 3200000 in
theorem next_hex_b (w : World) (B g : Nat) (s : ByteArray) (n : Int) (k : Nat) (sv : Value) (l : List Tok) (h : IsLn w B g s n k sv l) (hk : k < s.size) (hs : s.size ≤ 1000) (hl : l.length ≤ 1000) (m : Nat) (r : By) (hN : numL 16 0 (from_ s (k + 1)) = (m, r)) (hb : s[k].toNat = 36) (hr : r.length ≠ (from_ s (k + 1)).length) (hg : glued r = true) :
    Calls Tryd.prog 30 #[.pointer (some ⟨g, 0, none⟩)] w (NextPost w B g s n k l) := by
  obtain ⟨a, cap, rfl, hcap⟩ := own_slice h.own
  have c0 := h.blk.cell 0
  have c2 := h.blk.cell 2
  have hlt := h.blk.lt
  have HF := Lib.hid (from_lt hk)
  have hnl : isLet s[k] = false := by unfold isLet; simp; omega
  have hd : ¬ dig s[k] < 10 := by unfold dig; rw [if_neg (by omega), if_neg (by omega)]; omega
  have HPP : Lib.hasPrefix (s[k] :: from_ s (k + 1)) dd.data.toList = false := by
    have h46 : (46 == s[k]) = false := by
      rw [beq_eq_false_iff_ne]; intro e; rw [← e] at hb; revert hb; decide
    simp [Lib.hasPrefix, List.isPrefixOf, h46]
  have hks : k ≤ s.size := by omega
  have hki : (k : Int) ≤ (s.size : Int) := by omega
  have HP := fun V => hasPrefix_same (s.extract k s.size) dd false (by rw [extract_from s k _ rfl, HF.out]; exact HPP) V
  have hrl := num_len2 hN
  have hbk := num_back2 (by omega) hN
  have hfl := from_len s (k + 1)
  have HO := Lib.hid (show one (from_ s k) = .bad 11 from by
    rw [HF.out, one_cons, if_neg (by rw [hnl]; decide), if_neg (by omega), if_pos hb]
    unfold numTok
    simp only [hN]
    rw [if_pos (Or.inr hg)])
  have h46 : ((s[k].toNat : Int) == 46) = false := by simp; omega
  have h36 : ((s[k].toNat : Int) == 36) = true := by simp; omega
  have NU := fun V (hV : Below w.heap.size w V) => num_at16 V g s (k + 1) ((k : Int) + 1) m r (by omega) ((hV.cell (p := ⟨g, 0, none⟩) hlt).trans c0) (by omega) (by omega) hN
  have hto : (((s.size - r.length : Nat) : Int) == ((k : Int) + 1)) = false := by
    rw [beq_eq_false_iff_ne]; omega
  have BG := fun V (hV : Below w.heap.size w V) => begins_at V g s (s.size - r.length) true ((hV.cell (p := ⟨g, 0, none⟩) hlt).trans c0) (by omega) (by omega) (by rw [hbk]; exact hg)
  clear h HPP hN hbk hfl hr hb hg
  go_enter Tryd.func30, Tryd.ntmps30
  go_wp2
  go_quiet (fail)
  go_wp2_with fail
  go_quiet (fail)
  go_wp2_with (first
      | (go_at_call 37; (with_reducible refine (digit_no _ _ (by omega) (by omega) _).mono ?_); rintro e w1 ⟨rfl, rfl⟩)
      | (go_at_call 38; (with_reducible refine (letter_eq _ _).mono ?_); rintro e w1 ⟨rfl, rfl⟩))
  go_quiet ((go_at_call 42; exact quiet_add_same (HP _)))
  go_wp2_with fail
  go_quiet (fail)
  go_wp2_with (first
      | (go_at_call 43; (with_reducible refine (NU _ (by repeat' (first | with_reducible exact Below.refl _ _ | with_reducible assumption | with_reducible refine Q.alloc ?_ _ | with_reducible refine Q.drew ?_ | with_reducible refine Q.drewN ?_ _ | with_reducible refine Q.call ?_ (by assumption)))).mono ?_); rintro e w1 ⟨rfl, rfl⟩)
      | (go_at_call 40; (with_reducible refine (BG _ (by repeat' (first | with_reducible exact Below.refl _ _ | with_reducible assumption | with_reducible refine Q.alloc ?_ _ | with_reducible refine Q.drew ?_ | with_reducible refine Q.drewN ?_ _ | with_reducible refine Q.call ?_ (by assumption)))).mono ?_); rintro e w1 ⟨rfl, rfl⟩))
  go_returns
  unfold NextPost
  rw [HO.out]
  exact ⟨rfl, (by repeat' (first | with_reducible exact Below.refl _ _ | with_reducible assumption | with_reducible refine Q.alloc ?_ _ | with_reducible refine Q.drew ?_ | with_reducible refine Q.drewN ?_ _ | with_reducible refine Q.call ?_ (by assumption)))⟩

set_option maxRecDepth 100000 in
set_option maxHeartbeats 3200000 in
theorem next_hex_c (w : World) (B g : Nat) (s : ByteArray) (n : Int) (k : Nat) (sv : Value) (l : List Tok) (h : IsLn w B g s n k sv l) (hk : k < s.size) (hs : s.size ≤ 1000) (hl : l.length ≤ 1000) (m : Nat) (r : By) (hN : numL 16 0 (from_ s (k + 1)) = (m, r)) (hb : s[k].toNat = 36) (hr : r.length ≠ (from_ s (k + 1)).length) (hg : glued r = false) (hm : 65535 < m) :
    Calls Tryd.prog 30 #[.pointer (some ⟨g, 0, none⟩)] w (NextPost w B g s n k l) := by
  obtain ⟨a, cap, rfl, hcap⟩ := own_slice h.own
  have c0 := h.blk.cell 0
  have c2 := h.blk.cell 2
  have hlt := h.blk.lt
  have HF := Lib.hid (from_lt hk)
  have hnl : isLet s[k] = false := by unfold isLet; simp; omega
  have hd : ¬ dig s[k] < 10 := by unfold dig; rw [if_neg (by omega), if_neg (by omega)]; omega
  have HPP : Lib.hasPrefix (s[k] :: from_ s (k + 1)) dd.data.toList = false := by
    have h46 : (46 == s[k]) = false := by
      rw [beq_eq_false_iff_ne]; intro e; rw [← e] at hb; revert hb; decide
    simp [Lib.hasPrefix, List.isPrefixOf, h46]
  have hks : k ≤ s.size := by omega
  have hki : (k : Int) ≤ (s.size : Int) := by omega
  have HP := fun V => hasPrefix_same (s.extract k s.size) dd false (by rw [extract_from s k _ rfl, HF.out]; exact HPP) V
  have hrl := num_len2 hN
  have hbk := num_back2 (by omega) hN
  have hfl := from_len s (k + 1)
  have HO := Lib.hid (show one (from_ s k) = .bad 10 from by
    rw [HF.out, one_cons, if_neg (by rw [hnl]; decide), if_neg (by omega), if_pos hb]
    unfold numTok
    simp only [hN]
    rw [if_neg (by rw [hg]; simpa using hr), if_pos hm])
  have h46 : ((s[k].toNat : Int) == 46) = false := by simp; omega
  have h36 : ((s[k].toNat : Int) == 36) = true := by simp; omega
  have NU := fun V (hV : Below w.heap.size w V) => num_at16 V g s (k + 1) ((k : Int) + 1) m r (by omega) ((hV.cell (p := ⟨g, 0, none⟩) hlt).trans c0) (by omega) (by omega) hN
  have hto : (((s.size - r.length : Nat) : Int) == ((k : Int) + 1)) = false := by
    rw [beq_eq_false_iff_ne]; omega
  have BG := fun V (hV : Below w.heap.size w V) => begins_at V g s (s.size - r.length) false ((hV.cell (p := ⟨g, 0, none⟩) hlt).trans c0) (by omega) (by omega) (by rw [hbk]; exact hg)
  have hmi : 65535 < (m : Int) := by omega
  clear h HPP hN hbk hfl hr hb hg hm
  go_enter Tryd.func30, Tryd.ntmps30
  go_wp2
  go_quiet (fail)
  go_wp2_with fail
  go_quiet (fail)
  go_wp2_with (first
      | (go_at_call 37; (with_reducible refine (digit_no _ _ (by omega) (by omega) _).mono ?_); rintro e w1 ⟨rfl, rfl⟩)
      | (go_at_call 38; (with_reducible refine (letter_eq _ _).mono ?_); rintro e w1 ⟨rfl, rfl⟩))
  go_quiet ((go_at_call 42; exact quiet_add_same (HP _)))
  go_wp2_with fail
  go_quiet (fail)
  go_wp2_with (first
      | (go_at_call 43; (with_reducible refine (NU _ (by repeat' (first | with_reducible exact Below.refl _ _ | with_reducible assumption | with_reducible refine Q.alloc ?_ _ | with_reducible refine Q.drew ?_ | with_reducible refine Q.drewN ?_ _ | with_reducible refine Q.call ?_ (by assumption)))).mono ?_); rintro e w1 ⟨rfl, rfl⟩)
      | (go_at_call 40; (with_reducible refine (BG _ (by repeat' (first | with_reducible exact Below.refl _ _ | with_reducible assumption | with_reducible refine Q.alloc ?_ _ | with_reducible refine Q.drew ?_ | with_reducible refine Q.drewN ?_ _ | with_reducible refine Q.call ?_ (by assumption)))).mono ?_); rintro e w1 ⟨rfl, rfl⟩))
  go_returns
  unfold NextPost
  rw [HO.out]
  exact ⟨rfl, (by repeat' (first | with_reducible exact Below.refl _ _ | with_reducible assumption | with_reducible refine Q.alloc ?_ _ | with_reducible refine Q.drew ?_ | with_reducible refine Q.drewN ?_ _ | with_reducible refine Q.call ?_ (by assumption)))⟩

set_option maxRecDepth 100000 in
set_option maxHeartbeats 3200000 in
theorem next_hex_d (w : World) (B g : Nat) (s : ByteArray) (n : Int) (k : Nat) (sv : Value) (l : List Tok) (h : IsLn w B g s n k sv l) (hk : k < s.size) (hs : s.size ≤ 1000) (hl : l.length ≤ 1000) (m : Nat) (r : By) (hN : numL 16 0 (from_ s (k + 1)) = (m, r)) (hb : s[k].toNat = 36) (hr : r.length ≠ (from_ s (k + 1)).length) (hg : glued r = false) (hm : ¬ 65535 < m) :
    Calls Tryd.prog 30 #[.pointer (some ⟨g, 0, none⟩)] w (NextPost w B g s n k l) := by
  obtain ⟨a, cap, rfl, hcap⟩ := own_slice h.own
  have c0 := h.blk.cell 0
  have c2 := h.blk.cell 2
  have hlt := h.blk.lt
  have HF := Lib.hid (from_lt hk)
  have hnl : isLet s[k] = false := by unfold isLet; simp; omega
  have hd : ¬ dig s[k] < 10 := by unfold dig; rw [if_neg (by omega), if_neg (by omega)]; omega
  have HPP : Lib.hasPrefix (s[k] :: from_ s (k + 1)) dd.data.toList = false := by
    have h46 : (46 == s[k]) = false := by
      rw [beq_eq_false_iff_ne]; intro e; rw [← e] at hb; revert hb; decide
    simp [Lib.hasPrefix, List.isPrefixOf, h46]
  have hks : k ≤ s.size := by omega
  have hki : (k : Int) ≤ (s.size : Int) := by omega
  have HP := fun V => hasPrefix_same (s.extract k s.size) dd false (by rw [extract_from s k _ rfl, HF.out]; exact HPP) V
  have hrl := num_len2 hN
  have hbk := num_back2 (by omega) hN
  have hfl := from_len s (k + 1)
  have HO := Lib.hid (show one (from_ s k) = .ok 2 [] m r from by
    rw [HF.out, one_cons, if_neg (by rw [hnl]; decide), if_neg (by omega), if_pos hb]
    unfold numTok
    simp only [hN]
    rw [if_neg (by rw [hg]; simpa using hr), if_neg hm])
  have h46 : ((s[k].toNat : Int) == 46) = false := by simp; omega
  have h36 : ((s[k].toNat : Int) == 36) = true := by simp; omega
  have NU := fun V (hV : Below w.heap.size w V) => num_at16 V g s (k + 1) ((k : Int) + 1) m r (by omega) ((hV.cell (p := ⟨g, 0, none⟩) hlt).trans c0) (by omega) (by omega) hN
  have hto : (((s.size - r.length : Nat) : Int) == ((k : Int) + 1)) = false := by
    rw [beq_eq_false_iff_ne]; omega
  have BG := fun V (hV : Below w.heap.size w V) => begins_at V g s (s.size - r.length) false ((hV.cell (p := ⟨g, 0, none⟩) hlt).trans c0) (by omega) (by omega) (by rw [hbk]; exact hg)
  have hmi : ¬ 65535 < (m : Int) := by omega
  have AD := fun V (hV : Below w.heap.size w V) => add_b w V B g s n k (((s.size - r.length : Nat) : Int)) _ l (2) (m) ([]) (ByteArray.mk #[]) (rfl) ⟨by omega, by omega⟩ hl h hV
  clear h HPP hN hbk hfl hr hb hg hm
  go_enter Tryd.func30, Tryd.ntmps30
  go_wp2
  go_quiet (fail)
  go_wp2_with fail
  go_quiet (fail)
  go_wp2_with (first
      | (go_at_call 37; (with_reducible refine (digit_no _ _ (by omega) (by omega) _).mono ?_); rintro e w1 ⟨rfl, rfl⟩)
      | (go_at_call 38; (with_reducible refine (letter_eq _ _).mono ?_); rintro e w1 ⟨rfl, rfl⟩))
  go_quiet ((go_at_call 42; exact quiet_add_same (HP _)))
  go_wp2_with fail
  go_quiet (fail)
  go_wp2_with (first
      | (go_at_call 43; (with_reducible refine (NU _ (by repeat' (first | with_reducible exact Below.refl _ _ | with_reducible assumption | with_reducible refine Q.alloc ?_ _ | with_reducible refine Q.drew ?_ | with_reducible refine Q.drewN ?_ _ | with_reducible refine Q.call ?_ (by assumption)))).mono ?_); rintro e w1 ⟨rfl, rfl⟩)
      | (go_at_call 40; (with_reducible refine (BG _ (by repeat' (first | with_reducible exact Below.refl _ _ | with_reducible assumption | with_reducible refine Q.alloc ?_ _ | with_reducible refine Q.drew ?_ | with_reducible refine Q.drewN ?_ _ | with_reducible refine Q.call ?_ (by assumption)))).mono ?_); rintro e w1 ⟨rfl, rfl⟩)
      | (go_at_call 41; (with_reducible refine (AD _ (by repeat' (first | with_reducible exact Below.refl _ _ | with_reducible assumption | with_reducible refine Q.alloc ?_ _ | with_reducible refine Q.drew ?_ | with_reducible refine Q.drewN ?_ _ | with_reducible refine Q.call ?_ (by assumption)))).mono ?_); rintro e w9 ⟨rfl, sv9, HL, HC⟩))
  go_returns
  unfold NextPost
  rw [HO.out]
  exact ⟨rfl, _, HL, HC⟩

set_option maxRecDepth 100000 in
set_option maxHeartbeats 3200000 in
theorem next_dec_b (w : World) (B g : Nat) (s : ByteArray) (n : Int) (k : Nat) (sv : Value) (l : List Tok) (h : IsLn w B g s n k sv l) (hk : k < s.size) (hs : s.size ≤ 1000) (hl : l.length ≤ 1000) (m : Nat) (r : By) (hN : numL 10 0 (from_ s k) = (m, r)) (hd : dig s[k] < 10) (hnl : isLet s[k] = false) (hb : ¬ (s[k].toNat = 46 ∨ s[k].toNat = 36)) (hr : r.length ≠ (from_ s k).length) (hg : glued r = true) :
    Calls Tryd.prog 30 #[.pointer (some ⟨g, 0, none⟩)] w (NextPost w B g s n k l) := by
  obtain ⟨a, cap, rfl, hcap⟩ := own_slice h.own
  have c0 := h.blk.cell 0
  have c2 := h.blk.cell 2
  have hlt := h.blk.lt
  have HF := Lib.hid (from_lt hk)
  have HPP : Lib.hasPrefix (s[k] :: from_ s (k + 1)) dd.data.toList = false := by
    have h46 : (46 == s[k]) = false := by
      rw [beq_eq_false_iff_ne]; intro e; rw [← e] at hb; revert hb; decide
    simp [Lib.hasPrefix, List.isPrefixOf, h46]
  have hks : k ≤ s.size := by omega
  have hki : (k : Int) ≤ (s.size : Int) := by omega
  have HP := fun V => hasPrefix_same (s.extract k s.size) dd false (by rw [extract_from s k _ rfl, HF.out]; exact HPP) V
  have hrl := num_len2 hN
  have hbk := num_back2 (by omega) hN
  have hfl := from_len s k
  have HO := Lib.hid (show one (from_ s k) = .bad 11 from by
    rw [HF.out, one_cons, if_neg (by rw [hnl]; decide), if_neg (by omega), if_neg (by omega), if_pos hd, ← HF.out]
    unfold numTok
    simp only [hN]
    rw [if_pos (Or.inr hg)])
  have h46 : ((s[k].toNat : Int) == 46) = false := by simp; omega
  have h36 : ((s[k].toNat : Int) == 36) = false := by simp; omega
  have NU := fun V (hV : Below w.heap.size w V) => num_at10 V g s k (k : Int) m r (by omega) ((hV.cell (p := ⟨g, 0, none⟩) hlt).trans c0) (by omega) (by omega) hN
  have hto : (((s.size - r.length : Nat) : Int) == (k : Int)) = false := by
    rw [beq_eq_false_iff_ne]; omega
  have BG := fun V (hV : Below w.heap.size w V) => begins_at V g s (s.size - r.length) true ((hV.cell (p := ⟨g, 0, none⟩) hlt).trans c0) (by omega) (by omega) (by rw [hbk]; exact hg)
  clear h HPP hN hbk hfl hr hg
  go_enter Tryd.func30, Tryd.ntmps30
  go_wp2
  go_quiet (fail)
  go_wp2_with fail
  go_quiet (fail)
  go_wp2_with (first
      | (go_at_call 37; (with_reducible refine (digit_yes _ _ (by omega) (by omega) _).mono ?_); rintro e w1 ⟨rfl, rfl⟩)
      | (go_at_call 38; (with_reducible refine (letter_eq _ _).mono ?_); rintro e w1 ⟨rfl, rfl⟩))
  go_quiet ((go_at_call 42; exact quiet_add_same (HP _)))
  go_wp2_with (first
      | (go_at_call 43; (with_reducible refine (NU _ (by repeat' (first | with_reducible exact Below.refl _ _ | with_reducible assumption | with_reducible refine Q.alloc ?_ _ | with_reducible refine Q.drew ?_ | with_reducible refine Q.drewN ?_ _ | with_reducible refine Q.call ?_ (by assumption)))).mono ?_); rintro e w1 ⟨rfl, rfl⟩)
      | (go_at_call 40; (with_reducible refine (BG _ (by repeat' (first | with_reducible exact Below.refl _ _ | with_reducible assumption | with_reducible refine Q.alloc ?_ _ | with_reducible refine Q.drew ?_ | with_reducible refine Q.drewN ?_ _ | with_reducible refine Q.call ?_ (by assumption)))).mono ?_); rintro e w1 ⟨rfl, rfl⟩))
  go_returns
  unfold NextPost
  rw [HO.out]
  exact ⟨rfl, (by repeat' (first | with_reducible exact Below.refl _ _ | with_reducible assumption | with_reducible refine Q.alloc ?_ _ | with_reducible refine Q.drew ?_ | with_reducible refine Q.drewN ?_ _ | with_reducible refine Q.call ?_ (by assumption)))⟩

set_option maxRecDepth 100000 in
set_option maxHeartbeats 3200000 in
theorem next_dec_c (w : World) (B g : Nat) (s : ByteArray) (n : Int) (k : Nat) (sv : Value) (l : List Tok) (h : IsLn w B g s n k sv l) (hk : k < s.size) (hs : s.size ≤ 1000) (hl : l.length ≤ 1000) (m : Nat) (r : By) (hN : numL 10 0 (from_ s k) = (m, r)) (hd : dig s[k] < 10) (hnl : isLet s[k] = false) (hb : ¬ (s[k].toNat = 46 ∨ s[k].toNat = 36)) (hr : r.length ≠ (from_ s k).length) (hg : glued r = false) (hm : 65535 < m) :
    Calls Tryd.prog 30 #[.pointer (some ⟨g, 0, none⟩)] w (NextPost w B g s n k l) := by
  obtain ⟨a, cap, rfl, hcap⟩ := own_slice h.own
  have c0 := h.blk.cell 0
  have c2 := h.blk.cell 2
  have hlt := h.blk.lt
  have HF := Lib.hid (from_lt hk)
  have HPP : Lib.hasPrefix (s[k] :: from_ s (k + 1)) dd.data.toList = false := by
    have h46 : (46 == s[k]) = false := by
      rw [beq_eq_false_iff_ne]; intro e; rw [← e] at hb; revert hb; decide
    simp [Lib.hasPrefix, List.isPrefixOf, h46]
  have hks : k ≤ s.size := by omega
  have hki : (k : Int) ≤ (s.size : Int) := by omega
  have HP := fun V => hasPrefix_same (s.extract k s.size) dd false (by rw [extract_from s k _ rfl, HF.out]; exact HPP) V
  have hrl := num_len2 hN
  have hbk := num_back2 (by omega) hN
  have hfl := from_len s k
  have HO := Lib.hid (show one (from_ s k) = .bad 10 from by
    rw [HF.out, one_cons, if_neg (by rw [hnl]; decide), if_neg (by omega), if_neg (by omega), if_pos hd, ← HF.out]
    unfold numTok
    simp only [hN]
    rw [if_neg (by rw [hg]; simpa using hr), if_pos hm])
  have h46 : ((s[k].toNat : Int) == 46) = false := by simp; omega
  have h36 : ((s[k].toNat : Int) == 36) = false := by simp; omega
  have NU := fun V (hV : Below w.heap.size w V) => num_at10 V g s k (k : Int) m r (by omega) ((hV.cell (p := ⟨g, 0, none⟩) hlt).trans c0) (by omega) (by omega) hN
  have hto : (((s.size - r.length : Nat) : Int) == (k : Int)) = false := by
    rw [beq_eq_false_iff_ne]; omega
  have BG := fun V (hV : Below w.heap.size w V) => begins_at V g s (s.size - r.length) false ((hV.cell (p := ⟨g, 0, none⟩) hlt).trans c0) (by omega) (by omega) (by rw [hbk]; exact hg)
  have hmi : 65535 < (m : Int) := by omega
  clear h HPP hN hbk hfl hr hg hm
  go_enter Tryd.func30, Tryd.ntmps30
  go_wp2
  go_quiet (fail)
  go_wp2_with fail
  go_quiet (fail)
  go_wp2_with (first
      | (go_at_call 37; (with_reducible refine (digit_yes _ _ (by omega) (by omega) _).mono ?_); rintro e w1 ⟨rfl, rfl⟩)
      | (go_at_call 38; (with_reducible refine (letter_eq _ _).mono ?_); rintro e w1 ⟨rfl, rfl⟩))
  go_quiet ((go_at_call 42; exact quiet_add_same (HP _)))
  go_wp2_with (first
      | (go_at_call 43; (with_reducible refine (NU _ (by repeat' (first | with_reducible exact Below.refl _ _ | with_reducible assumption | with_reducible refine Q.alloc ?_ _ | with_reducible refine Q.drew ?_ | with_reducible refine Q.drewN ?_ _ | with_reducible refine Q.call ?_ (by assumption)))).mono ?_); rintro e w1 ⟨rfl, rfl⟩)
      | (go_at_call 40; (with_reducible refine (BG _ (by repeat' (first | with_reducible exact Below.refl _ _ | with_reducible assumption | with_reducible refine Q.alloc ?_ _ | with_reducible refine Q.drew ?_ | with_reducible refine Q.drewN ?_ _ | with_reducible refine Q.call ?_ (by assumption)))).mono ?_); rintro e w1 ⟨rfl, rfl⟩))
  go_returns
  unfold NextPost
  rw [HO.out]
  exact ⟨rfl, (by repeat' (first | with_reducible exact Below.refl _ _ | with_reducible assumption | with_reducible refine Q.alloc ?_ _ | with_reducible refine Q.drew ?_ | with_reducible refine Q.drewN ?_ _ | with_reducible refine Q.call ?_ (by assumption)))⟩

set_option maxRecDepth 100000 in
set_option maxHeartbeats 3200000 in
theorem next_dec_d (w : World) (B g : Nat) (s : ByteArray) (n : Int) (k : Nat) (sv : Value) (l : List Tok) (h : IsLn w B g s n k sv l) (hk : k < s.size) (hs : s.size ≤ 1000) (hl : l.length ≤ 1000) (m : Nat) (r : By) (hN : numL 10 0 (from_ s k) = (m, r)) (hd : dig s[k] < 10) (hnl : isLet s[k] = false) (hb : ¬ (s[k].toNat = 46 ∨ s[k].toNat = 36)) (hr : r.length ≠ (from_ s k).length) (hg : glued r = false) (hm : ¬ 65535 < m) :
    Calls Tryd.prog 30 #[.pointer (some ⟨g, 0, none⟩)] w (NextPost w B g s n k l) := by
  obtain ⟨a, cap, rfl, hcap⟩ := own_slice h.own
  have c0 := h.blk.cell 0
  have c2 := h.blk.cell 2
  have hlt := h.blk.lt
  have HF := Lib.hid (from_lt hk)
  have HPP : Lib.hasPrefix (s[k] :: from_ s (k + 1)) dd.data.toList = false := by
    have h46 : (46 == s[k]) = false := by
      rw [beq_eq_false_iff_ne]; intro e; rw [← e] at hb; revert hb; decide
    simp [Lib.hasPrefix, List.isPrefixOf, h46]
  have hks : k ≤ s.size := by omega
  have hki : (k : Int) ≤ (s.size : Int) := by omega
  have HP := fun V => hasPrefix_same (s.extract k s.size) dd false (by rw [extract_from s k _ rfl, HF.out]; exact HPP) V
  have hrl := num_len2 hN
  have hbk := num_back2 (by omega) hN
  have hfl := from_len s k
  have HO := Lib.hid (show one (from_ s k) = .ok 2 [] m r from by
    rw [HF.out, one_cons, if_neg (by rw [hnl]; decide), if_neg (by omega), if_neg (by omega), if_pos hd, ← HF.out]
    unfold numTok
    simp only [hN]
    rw [if_neg (by rw [hg]; simpa using hr), if_neg hm])
  have h46 : ((s[k].toNat : Int) == 46) = false := by simp; omega
  have h36 : ((s[k].toNat : Int) == 36) = false := by simp; omega
  have NU := fun V (hV : Below w.heap.size w V) => num_at10 V g s k (k : Int) m r (by omega) ((hV.cell (p := ⟨g, 0, none⟩) hlt).trans c0) (by omega) (by omega) hN
  have hto : (((s.size - r.length : Nat) : Int) == (k : Int)) = false := by
    rw [beq_eq_false_iff_ne]; omega
  have BG := fun V (hV : Below w.heap.size w V) => begins_at V g s (s.size - r.length) false ((hV.cell (p := ⟨g, 0, none⟩) hlt).trans c0) (by omega) (by omega) (by rw [hbk]; exact hg)
  have hmi : ¬ 65535 < (m : Int) := by omega
  have AD := fun V (hV : Below w.heap.size w V) => add_b w V B g s n k (((s.size - r.length : Nat) : Int)) _ l (2) (m) ([]) (ByteArray.mk #[]) (rfl) ⟨by omega, by omega⟩ hl h hV
  clear h HPP hN hbk hfl hr hg hm
  go_enter Tryd.func30, Tryd.ntmps30
  go_wp2
  go_quiet (fail)
  go_wp2_with fail
  go_quiet (fail)
  go_wp2_with (first
      | (go_at_call 37; (with_reducible refine (digit_yes _ _ (by omega) (by omega) _).mono ?_); rintro e w1 ⟨rfl, rfl⟩)
      | (go_at_call 38; (with_reducible refine (letter_eq _ _).mono ?_); rintro e w1 ⟨rfl, rfl⟩))
  go_quiet ((go_at_call 42; exact quiet_add_same (HP _)))
  go_wp2_with (first
      | (go_at_call 43; (with_reducible refine (NU _ (by repeat' (first | with_reducible exact Below.refl _ _ | with_reducible assumption | with_reducible refine Q.alloc ?_ _ | with_reducible refine Q.drew ?_ | with_reducible refine Q.drewN ?_ _ | with_reducible refine Q.call ?_ (by assumption)))).mono ?_); rintro e w1 ⟨rfl, rfl⟩)
      | (go_at_call 40; (with_reducible refine (BG _ (by repeat' (first | with_reducible exact Below.refl _ _ | with_reducible assumption | with_reducible refine Q.alloc ?_ _ | with_reducible refine Q.drew ?_ | with_reducible refine Q.drewN ?_ _ | with_reducible refine Q.call ?_ (by assumption)))).mono ?_); rintro e w1 ⟨rfl, rfl⟩)
      | (go_at_call 41; (with_reducible refine (AD _ (by repeat' (first | with_reducible exact Below.refl _ _ | with_reducible assumption | with_reducible refine Q.alloc ?_ _ | with_reducible refine Q.drew ?_ | with_reducible refine Q.drewN ?_ _ | with_reducible refine Q.call ?_ (by assumption)))).mono ?_); rintro e w9 ⟨rfl, sv9, HL, HC⟩))
  go_returns
  unfold NextPost
  rw [HO.out]
  exact ⟨rfl, _, HL, HC⟩

end Go.Proofs.YtlmcdbegnjikdaaDoor

/- The lexer, plain: lengths, steps. No function of the program. -/
import Derived.Test.YtlmcdbegnjikdaaDoorLx0
namespace Go.Proofs.YtlmcdbegnjikdaaDoor
set_option linter.unusedVariables false
set_option linter.unusedSimpArgs false

theorem numL_len (base : Nat) : ∀ (l : By) (n : Nat), (numL base n l).2.length ≤ l.length
  | [], _ => by simp [numL]
  | b :: l, n => by
    unfold numL; split
    · have := numL_len base l (min 65536 (n * base + dig b)); simp; omega
    · simp
theorem wordL_len : ∀ l : By, (wordL l).length ≤ l.length
  | [] => by simp [wordL]
  | b :: l => by
    unfold wordL; split
    · have := wordL_len l; simp; omega
    · simp
theorem numL_ne {base : Nat} {l : By} {n : Nat} (h : (numL base n l).2.length ≠ l.length) : (numL base n l).2.length < l.length := by
  have := numL_len base l n; omega
theorem numTok_len {base : Nat} {l : By} {k t v r} (h : numTok base l = .ok k t v r) : r.length < l.length := by
  unfold numTok at h
  simp only at h
  have := numL_len base l 0
  split at h
  · cases h
  · rename_i h1
    split at h
    · cases h
    · injection h with _ _ _ h4; subst h4
      have := not_or.1 h1; omega
theorem one_cons (b : UInt8) (l : By) : one (b :: l) =
    if isLet b then
      if glued (wordL (b :: l)) then .bad 11 else .ok 1 ((b :: l).take ((b :: l).length - (wordL (b :: l)).length)) 0 (wordL (b :: l))
    else if b.toNat = 46 then dots l
    else if b.toNat = 36 then numTok 16 l
    else if dig b < 10 then numTok 10 (b :: l)
    else .bad 22 := rfl
theorem one_len {b : UInt8} {l : By} {k t v r} (h : one (b :: l) = .ok k t v r) : r.length < (b :: l).length := by
  rw [one_cons] at h
  split at h
  · rename_i hb
    split at h
    · cases h
    · injection h with _ _ _ h4; subst h4
      have := wordL_len l
      simp [wordL, hb]; omega
  · split at h
    · unfold dots at h
      split at h
      · cases h
      · split at h
        · injection h with _ _ _ h4; subst h4; simp; omega
        · cases h
    · split at h
      · have := numTok_len h; simp; omega
      · split at h
        · exact numTok_len h
        · cases h
theorem scl_fuel (n : Int) : ∀ (f : Nat) (l : By) (a last : Nat) (out : List Tok), l.length ≤ f → scl n f l a last out = scl n l.length l a last out := by
  intro f
  induction f using Nat.strongRecOn with
  | _ f ih =>
    intro l a last out h
    cases l with
    | nil => cases f <;> rfl
    | cons b l =>
      cases f with
      | zero => simp at h
      | succ f =>
        simp only [List.length_cons] at h ⊢
        simp only [scl]
        split
        · rfl
        · split
          · exact ih f (by omega) l _ _ _ (by omega)
          · rename_i h1 h2
            cases ho : one (b :: l) with
            | bad e => rfl
            | ok k t v r =>
              have hr := one_len ho
              simp only [List.length_cons] at hr
              simp only
              rw [ih f (by omega) r _ _ _ (by omega)]
              by_cases hfl : f = l.length
              · subst hfl; rw [ih l.length (by omega) r _ _ _ (by omega)]
              · rw [ih l.length (by omega) r _ _ _ (by omega)]
/-- A line's tokens from a byte on. -/
def sc (n : Int) (l : By) (a last : Nat) (out : List Tok) : RL := scl n l.length l a last out
theorem sc_nil (n : Int) (a last : Nat) (out : List Tok) : sc n [] a last out = .ok (fin n last out) := rfl
theorem sc_hash {n : Int} {b : UInt8} {l : By} {a last : Nat} {out : List Tok} (h : b.toNat = 35) : sc n (b :: l) a last out = .ok (fin n last out) := by
  simp [sc, scl, h]
theorem sc_blank {n : Int} {b : UInt8} {l : By} {a last : Nat} {out : List Tok} (h : b.toNat = 32 ∨ b.toNat = 9) : sc n (b :: l) a last out = sc n l (a + 1) last out := by
  have h35 : ¬ b.toNat = 35 := by omega
  simp [sc, scl, h, h35]
theorem sc_bad {n : Int} {b : UInt8} {l : By} {a last : Nat} {out : List Tok} {e : Int} (h35 : b.toNat ≠ 35) (h : ¬ (b.toNat = 32 ∨ b.toNat = 9)) (ho : one (b :: l) = .bad e) : sc n (b :: l) a last out = .bad (a + 1) e := by
  simp [sc, scl, h, h35, ho]
theorem sc_ok {n : Int} {b : UInt8} {l : By} {a last : Nat} {out : List Tok} {k t v r} (h35 : b.toNat ≠ 35) (h : ¬ (b.toNat = 32 ∨ b.toNat = 9)) (ho : one (b :: l) = .ok k t v r) :
    sc n (b :: l) a last out = sc n r (a + ((b :: l).length - r.length)) (a + ((b :: l).length - r.length)) (out ++ [⟨k, t, v, n, a + 1⟩]) := by
  have hr := one_len ho
  simp only [List.length_cons] at hr
  rw [sc, List.length_cons, scl, if_neg h35, if_neg h, ho]
  exact scl_fuel n _ _ _ _ _ (by omega)
/-- What one leaves is the end of what it began with. -/
theorem numL_suffix (base : Nat) : ∀ (l : By) (n : Nat), (numL base n l).2 = l.drop (l.length - (numL base n l).2.length)
  | [], _ => by simp [numL]
  | b :: l, n => by
    unfold numL; split
    · have h := numL_suffix base l (min 65536 (n * base + dig b))
      have hl := numL_len base l (min 65536 (n * base + dig b))
      rw [List.length_cons, show l.length + 1 - (numL base (min 65536 (n * base + dig b)) l).2.length = (l.length - (numL base (min 65536 (n * base + dig b)) l).2.length) + 1 by omega, List.drop_succ_cons]
      exact h
    · simp
theorem wordL_suffix : ∀ l : By, wordL l = l.drop (l.length - (wordL l).length)
  | [] => by simp [wordL]
  | b :: l => by
    unfold wordL; split
    · have h := wordL_suffix l
      have hl := wordL_len l
      rw [List.length_cons, show l.length + 1 - (wordL l).length = (l.length - (wordL l).length) + 1 by omega, List.drop_succ_cons]
      exact h
    · simp
theorem drop_more {l : By} {b : UInt8} {r : By} (h : r = l.drop (l.length - r.length)) (hl : r.length ≤ l.length) : r = (b :: l).drop ((b :: l).length - r.length) := by
  rw [List.length_cons, show l.length + 1 - r.length = (l.length - r.length) + 1 by omega, List.drop_succ_cons]
  exact h
theorem numTok_suffix {base : Nat} {l : By} {k t v r} (h : numTok base l = .ok k t v r) : r = l.drop (l.length - r.length) := by
  unfold numTok at h
  simp only at h
  split at h
  · cases h
  · split at h
    · cases h
    · injection h with _ _ _ h4; subst h4; exact numL_suffix base l 0
theorem one_suffix {b : UInt8} {l : By} {k t v r} (h : one (b :: l) = .ok k t v r) : r = (b :: l).drop ((b :: l).length - r.length) := by
  rw [one_cons] at h
  split at h
  · split at h
    · cases h
    · injection h with _ _ _ h4; subst h4; exact wordL_suffix _
  · split at h
    · unfold dots at h
      split at h
      · cases h
      · split at h
        · injection h with _ _ _ h4; subst h4; simp; rw [Nat.add_assoc, Nat.add_sub_cancel_left]; rfl
        · cases h
    · split at h
      · have := numTok_len h
        exact drop_more (numTok_suffix h) (by omega)
      · split at h
        · exact numTok_suffix h
        · cases h
end Go.Proofs.YtlmcdbegnjikdaaDoor

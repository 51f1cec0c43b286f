/- The lexer, plain: the library's pieces are the lines; how many tokens there are. -/
import Derived.Test.YtlmcdbegnjikdaaDoorLx2
import Derived.Lib.SplitLaws
namespace Go.Proofs.YtlmcdbegnjikdaaDoor
set_option linter.unusedVariables false
set_option linter.unusedSimpArgs false

theorem indexByte_miss : ∀ (l : By) (c : UInt8), c ∉ l → Lib.indexByte l c = -1
  | [], _, _ => rfl
  | b :: l, c, h => by
    have h1 : (b == c) = false := by rw [beq_eq_false_iff_ne]; intro e; exact h (by rw [e]; simp)
    have h2 := indexByte_miss l c (fun e => h (by simp [e]))
    simp [Lib.indexByte, h1, h2]
theorem indexByte_hit : ∀ (x y : By) (c : UInt8), c ∉ x → Lib.indexByte (x ++ c :: y) c = x.length
  | [], y, c, _ => by simp [Lib.indexByte]
  | b :: x, y, c, h => by
    have h1 : (b == c) = false := by rw [beq_eq_false_iff_ne]; intro e; exact h (by rw [e]; simp)
    have h2 := indexByte_hit x y c (fun e => h (by simp [e]))
    have h3 : ((x.length : Int) == -1) = false := by rw [beq_eq_false_iff_ne]; omega
    simp [Lib.indexByte, h1, h2, h3]
theorem cut_at : ∀ l : By, (10 : UInt8) ∉ l ∨ ∃ x y, l = x ++ 10 :: y ∧ (10 : UInt8) ∉ x
  | [] => .inl (by simp)
  | b :: l => by
    by_cases hb : b = 10
    · subst hb; exact .inr ⟨[], l, rfl, by simp⟩
    · rcases cut_at l with h | ⟨x, y, rfl, hx⟩
      · exact .inl (by simp [h]; exact fun e => hb e.symm)
      · exact .inr ⟨b :: x, y, rfl, by simp [hx]; exact fun e => hb e.symm⟩
theorem lines_plain {l : By} (h : (10 : UInt8) ∉ l) : lines l = [l] := by
  have := lines_pre h [] [] [] rfl
  simpa using this
theorem lines_cut {x y : By} (h : (10 : UInt8) ∉ x) : lines (x ++ 10 :: y) = x :: lines y := by
  have := lines_pre h (10 :: y) [] (lines y) (lines_nl y)
  simpa using this
theorem splitK_lines : ∀ (m : Nat) (l : By), l.length ≤ m → Lib.splitK [10] 0 (Lib.count l [10]) l = lines l := by
  intro m
  induction m with
  | zero =>
    intro l h
    have : l = [] := List.eq_nil_of_length_eq_zero (by omega)
    subst this; rfl
  | succ m ih =>
    intro l h
    rcases cut_at l with hn | ⟨x, y, rfl, hx⟩
    · rw [Lib.count_one, List.count_eq_zero.2 hn, lines_plain hn]
      rfl
    · have hc : Lib.count (x ++ 10 :: y) [10] = Lib.count y [10] + 1 := by
        rw [Lib.count_one, Lib.count_one, List.count_append, List.count_eq_zero.2 hx, List.count_cons_self]; omega
      have hi : Lib.index (x ++ 10 :: y) [10] = x.length := by rw [Lib.index_one, indexByte_hit x y 10 hx]
      have hne : ((x.length : Int) == -1) = false := by rw [beq_eq_false_iff_ne]; omega
      rw [hc, lines_cut hx, Lib.splitK, hi, hne]
      simp only [Bool.false_eq_true, if_false, Int.toNat_natCast, Nat.add_zero, List.length_cons, List.length_nil]
      have e1 : (x ++ 10 :: y).take x.length = x := by simp
      have e2 : (x ++ 10 :: y).drop (x.length + 1) = y := by rw [← List.drop_drop]; simp
      rw [e1, e2, ih y (by simp at h; omega)]
theorem split_lines (s : ByteArray) : (Lib.splitB ⟨#[10]⟩ 0 (Lib.countB s ⟨#[10]⟩) s).map (·.data.toList) = lines s.data.toList := by
  rw [Lib.splitB_data]
  exact splitK_lines _ _ (Nat.le_refl _)
theorem lines_count (l : By) : (lines l).length ≤ l.length + 1 := by
  induction l with
  | nil => simp [lines]
  | cons b l ih =>
    unfold lines; split
    · simp; omega
    · split
      · simp
      · rename_i x xs hx
        rw [hx] at ih
        simp at ih ⊢; omega
theorem fin_len (n : Int) (last : Nat) (out : List Tok) : (fin n last out).length ≤ out.length + 1 := by unfold fin; split <;> simp
theorem sc_len (n : Int) : ∀ (m : Nat) (l : By) (a last : Nat) (out res : List Tok), l.length ≤ m → sc n l a last out = .ok res → res.length ≤ out.length + l.length + 1 := by
  intro m
  induction m with
  | zero =>
    intro l a last out res hl h
    have : l = [] := List.eq_nil_of_length_eq_zero (by omega)
    subst this
    injection h with h; subst h
    have := fin_len n last out
    simp; omega
  | succ m ih =>
    intro l a last out res hl h
    cases l with
    | nil => injection h with h; subst h; have := fin_len n last out; simp; omega
    | cons b l =>
      simp only [List.length_cons] at hl ⊢
      by_cases h35 : b.toNat = 35
      · rw [sc_hash h35] at h; injection h with h; subst h; have := fin_len n last out; omega
      · by_cases hb : b.toNat = 32 ∨ b.toNat = 9
        · rw [sc_blank hb] at h
          have := ih l _ _ _ _ (by omega) h; omega
        · cases ho : one (b :: l) with
          | bad e => rw [sc_bad h35 hb ho] at h; cases h
          | ok k t v r =>
            rw [sc_ok h35 hb ho] at h
            have hr := one_len ho
            simp only [List.length_cons] at hr
            have := ih r _ _ _ _ (by omega) h
            simp only [List.length_append, List.length_cons, List.length_nil] at this
            omega
theorem lineT_len {n : Int} {l : By} {res : List Tok} (h : lineT n l = .ok res) : res.length ≤ 1001 := by
  unfold lineT at h
  split at h
  · cases h
  · have := sc_len n _ l 0 0 [] res (Nat.le_refl _) h
    simp at this; omega
end Go.Proofs.YtlmcdbegnjikdaaDoor

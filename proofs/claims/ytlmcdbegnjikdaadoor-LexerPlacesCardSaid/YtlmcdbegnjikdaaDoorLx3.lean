/- The lexer, plain: where tokens stand. No function of the program. -/
import Derived.Test.YtlmcdbegnjikdaaDoorLx1
namespace Go.Proofs.YtlmcdbegnjikdaaDoor
set_option linter.unusedVariables false
set_option linter.unusedSimpArgs false

/-- What stands at a token's place of its line. -/
def TokAt (n : Int) (l : By) (t : Tok) : Prop :=
  t.line = n ∧ ∃ c : Nat, t.col = c + 1 ∧ c ≤ l.length ∧ (t.kind = 1 → ∃ r, l.drop c = t.text ++ r) ∧ (t.kind = 3 → ∃ r, l.drop c = 46 :: 46 :: r)
/-- Tokens of a line, rising, all of them at most at a column. -/
def Rises (m : Int) (out : List Tok) : Prop := out.Pairwise (fun a b => a.col < b.col) ∧ ∀ t ∈ out, t.col ≤ m
theorem Rises.add {m c : Int} {out : List Tok} {t : Tok} (h : Rises m out) (hc : m < t.col) (hm : t.col ≤ c) : Rises c (out ++ [t]) := by
  refine ⟨List.pairwise_append.2 ⟨h.1, by simp, fun a ha b hb => ?_⟩, fun a ha => ?_⟩
  · have := h.2 a ha; simp at hb; subst hb; omega
  · rcases List.mem_append.1 ha with ha | ha
    · have := h.2 a ha; omega
    · simp at ha; subst ha; omega
theorem numTok_kind {base : Nat} {l : By} {k t v r} (h : numTok base l = .ok k t v r) : k = 2 := by
  unfold numTok at h
  simp only at h
  split at h
  · cases h
  · split at h
    · cases h
    · injection h with h1; exact h1.symm
theorem one_word {b : UInt8} {l : By} {k t v r} (h : one (b :: l) = .ok k t v r) : (k = 1 → ∃ r', b :: l = t ++ r') ∧ (k = 3 → ∃ r', b :: l = 46 :: 46 :: r') := by
  rw [one_cons] at h
  split at h
  · split at h
    · cases h
    · injection h with h1 h2 _ _; subst h1; subst h2
      exact ⟨fun _ => ⟨_, (List.take_append_drop _ _).symm⟩, (fun h => by cases h)⟩
  · split at h
    · rename_i hb
      unfold dots at h
      split at h
      · cases h
      · split at h
        · rename_i c r' hc
          injection h with h1 h2 _ _; subst h1; subst h2
          refine ⟨(fun h => by cases h), fun _ => ⟨r', ?_⟩⟩
          have e1 : b = 46 := UInt8.toNat_inj.1 hb
          have e2 : c = 46 := UInt8.toNat_inj.1 hc
          rw [e1, e2]
        · cases h
    · have hk : k = 2 := by
        split at h
        · exact numTok_kind h
        · split at h
          · exact numTok_kind h
          · cases h
      subst hk
      exact ⟨(fun h => by cases h), (fun h => by cases h)⟩
theorem fin_at {n : Int} {l : By} {a last : Nat} {out : List Tok} (hl : last ≤ l.length) (ho : ∀ t ∈ out, TokAt n l t) (hr : Rises last out) :
    (∀ t ∈ fin n last out, TokAt n l t) ∧ (fin n last out).Pairwise (fun a b => a.col < b.col) := by
  unfold fin
  split
  · exact ⟨(fun t h => by cases h), .nil⟩
  · have := Rises.add (t := ⟨4, [], 0, n, last + 1⟩) (c := last + 1) hr (by simp; omega) (by simp)
    refine ⟨fun t h => ?_, this.1⟩
    rcases List.mem_append.1 h with h | h
    · exact ho t h
    · simp at h; subst h
      exact ⟨rfl, last, rfl, hl, (fun h => by cases h), (fun h => by cases h)⟩
theorem sc_at (n : Int) (l : By) : ∀ (m : Nat) (x : By) (a last : Nat) (out : List Tok) (res : List Tok), x.length ≤ m → x = l.drop a → a ≤ l.length → last ≤ a → (∀ t ∈ out, TokAt n l t) → Rises last out → sc n x a last out = .ok res →
    (∀ t ∈ res, TokAt n l t) ∧ res.Pairwise (fun a b => a.col < b.col) := by
  intro m
  induction m with
  | zero =>
    intro x a last out res hx hd ha hl ho hr he
    have : x = [] := List.eq_nil_of_length_eq_zero (by omega)
    subst this
    rw [sc_nil] at he
    injection he with he; subst he
    exact fin_at (a := a) (by omega) ho hr
  | succ m ih =>
    intro x a last out res hx hd ha hl ho hr he
    cases x with
    | nil =>
      rw [sc_nil] at he
      injection he with he; subst he
      exact fin_at (a := a) (by omega) ho hr
    | cons b x =>
      simp only [List.length_cons] at hx
      have hlen : (b :: x).length = l.length - a := by rw [hd, List.length_drop]
      simp only [List.length_cons] at hlen
      have hd1 : x = l.drop (a + 1) := by rw [← List.drop_drop, ← hd]; rfl
      by_cases h35 : b.toNat = 35
      · rw [sc_hash h35] at he
        injection he with he; subst he
        exact fin_at (a := a) (by omega) ho hr
      · by_cases hb : b.toNat = 32 ∨ b.toNat = 9
        · rw [sc_blank hb] at he
          exact ih x _ _ _ _ (by omega) hd1 (by omega) (by omega) ho hr he
        · cases h1 : one (b :: x) with
          | bad e => rw [sc_bad h35 hb h1] at he; cases he
          | ok k t v r =>
            rw [sc_ok h35 hb h1] at he
            have hlr := one_len h1
            have hsf := one_suffix h1
            have hw := one_word h1
            simp only [List.length_cons] at hlr hsf he
            refine ih r _ _ _ _ (by omega) (by rw [← List.drop_drop, ← hd]; exact hsf) (by omega) (by omega) (fun u hu => ?_) (Rises.add hr (by simp; omega) (by simp; omega)) he
            rcases List.mem_append.1 hu with hu | hu
            · exact ho u hu
            · simp at hu; subst hu
              refine ⟨rfl, a, rfl, by omega, fun hk => ?_, fun hk => ?_⟩
              · rw [← hd]; exact hw.1 hk
              · rw [← hd]; exact hw.2 hk
theorem lineT_at {n : Int} {l : By} {res : List Tok} (h : lineT n l = .ok res) : (∀ t ∈ res, TokAt n l t) ∧ res.Pairwise (fun a b => a.col < b.col) := by
  unfold lineT at h
  split at h
  · cases h
  · exact sc_at n l _ l 0 0 [] res (Nat.le_refl _) rfl (Nat.zero_le _) (Nat.le_refl _) ((fun t h => by cases h)) ⟨.nil, (fun t h => by cases h)⟩ h
/-- One place is ahead of another one. -/
def Ahead (a b : Tok) : Prop := a.line < b.line ∨ a.line = b.line ∧ a.col < b.col
theorem scan_at (all : List By) : ∀ (ls : List By) (k : Nat) (out res : List Tok), ls = all.drop k → k ≤ all.length → (∀ t ∈ out, ∃ j l, j < k ∧ all[j]? = some l ∧ TokAt (j + 1) l t) → out.Pairwise Ahead → scan (k + 1) ls out = .ok res →
    (∀ t ∈ res, ∃ (j : Nat) (l : By), all[j]? = some l ∧ TokAt (j + 1) l t) ∧ res.Pairwise Ahead
  | [], k, out, res, hd, hk, ho, hp, he => by
    injection he with he; subst he
    exact ⟨fun t ht => by obtain ⟨j, l, _, h2, h3⟩ := ho t ht; exact ⟨j, l, h2, h3⟩, hp⟩
  | l :: ls, k, out, res, hd, hk, ho, hp, he => by
    have hl : all[k]? = some l := by
      have := congrArg List.head? hd
      rw [List.head?_drop] at this; exact this.symm
    have hk1 : k < all.length := (List.getElem?_eq_some_iff.1 hl).1
    have hd1 : ls = all.drop (k + 1) := by rw [← List.drop_drop, ← hd]; rfl
    unfold scan at he
    cases hL : lineT (k + 1) l with
    | bad c e => rw [hL] at he; cases he
    | ok x =>
      rw [hL] at he
      obtain ⟨h1, h2⟩ := lineT_at hL
      refine scan_at all ls (k + 1) (out ++ x) res hd1 (by omega) (fun t ht => ?_) (List.pairwise_append.2 ⟨hp, ?_, fun a ha b hb => ?_⟩) he
      · rcases List.mem_append.1 ht with ht | ht
        · obtain ⟨j, l', h1, h2, h3⟩ := ho t ht
          exact ⟨j, l', by omega, h2, h3⟩
        · exact ⟨k, l, by omega, hl, h1 t ht⟩
      · refine List.Pairwise.imp_of_mem (fun {a b} ha hb hab => ?_) h2
        exact .inr ⟨by rw [(h1 a ha).1, (h1 b hb).1], hab⟩
      · obtain ⟨j, l', hj, _, h3⟩ := ho a ha
        refine .inl ?_
        rw [h3.1, (h1 b hb).1]
        omega
/-- Where lines begin. -/
def begs : Nat → By → List Nat
  | _, [] => []
  | i, b :: s => if b = 10 then (i + 1) :: begs (i + 1) s else begs (i + 1) s
theorem lines_ne' (s : By) : lines s ≠ [] := by
  cases s with
  | nil => simp [lines]
  | cons b s =>
    unfold lines; split
    · simp
    · split <;> simp
theorem lines_begs : ∀ (s : By) (i j : Nat) (l : By), (lines s)[j]? = some l → ∃ o, (i :: begs i s)[j]? = some o ∧ i ≤ o ∧ o - i ≤ s.length ∧ ∃ r, s.drop (o - i) = l ++ r
  | [], i, j, l, h => by
    cases j with
    | zero => simp [lines] at h; subst h; exact ⟨i, rfl, Nat.le_refl _, by simp, [], by simp⟩
    | succ j => simp [lines] at h
  | b :: s, i, j, l, h => by
    by_cases hb : b = 10
    · rw [lines, if_pos hb] at h
      cases j with
      | zero => simp at h; subst h; exact ⟨i, rfl, Nat.le_refl _, by simp, b :: s, by simp⟩
      | succ j =>
        rw [List.getElem?_cons_succ] at h
        obtain ⟨o, h1, h2, h3, r, h4⟩ := lines_begs s (i + 1) j l h
        refine ⟨o, ?_, by omega, by simp; omega, r, ?_⟩
        · rw [begs, if_pos hb, List.getElem?_cons_succ]; exact h1
        · rw [show o - i = (o - (i + 1)) + 1 by omega, List.drop_succ_cons]; exact h4
    · rw [lines, if_neg hb] at h
      cases hs : lines s with
      | nil => exact absurd hs (lines_ne' s)
      | cons x xs =>
        rw [hs] at h
        cases j with
        | zero =>
          simp at h; subst h
          obtain ⟨o, h1, h2, h3, r, h4⟩ := lines_begs s (i + 1) 0 x (by rw [hs]; rfl)
          simp at h1; subst h1
          exact ⟨i, rfl, Nat.le_refl _, by simp, r, by simpa using h4⟩
        | succ j =>
          obtain ⟨o, h1, h2, h3, r, h4⟩ := lines_begs s (i + 1) (j + 1) l (by rw [hs]; exact h)
          refine ⟨o, ?_, by omega, by simp; omega, r, ?_⟩
          · rw [begs, if_neg hb]; exact h1
          · rw [show o - i = (o - (i + 1)) + 1 by omega, List.drop_succ_cons]; exact h4
/-- What the statement asks of a token. -/
structure Fine (s : By) (bs : List Nat) (t : Tok) : Prop where
  line : 1 ≤ t.line
  most : t.line ≤ bs.length
  col : 1 ≤ t.col
  at_ : ∃ o c : Nat, bs[(t.line - 1).toNat]? = some o ∧ t.col = c + 1 ∧ o + c ≤ s.length ∧ (t.kind = 1 → o + c + t.text.length ≤ s.length ∧ (s.drop (o + c)).take t.text.length = t.text) ∧
    (t.kind = 3 → o + c + 2 ≤ s.length ∧ (s.drop (o + c)).take 2 = [46, 46])
theorem text_fine {s : By} {res : List Tok} (h : text s = .ok res) : (∀ t ∈ res, Fine s (0 :: begs 0 s) t) ∧ res.Pairwise Ahead := by
  obtain ⟨h1, h2⟩ := scan_at (lines s) (lines s) 0 [] res rfl (Nat.zero_le _) (fun t h => by cases h) .nil h
  refine ⟨fun t ht => ?_, h2⟩
  obtain ⟨j, l, hj, hl, c, hc, hcl, hw, hd⟩ := h1 t ht
  obtain ⟨o, ho, _, hos, r, hr⟩ := lines_begs s 0 j l hj
  rw [Nat.sub_zero] at hos hr
  have hjl := (List.getElem?_eq_some_iff.1 ho).1
  have hlen : (s.drop o).length = l.length + r.length := by rw [hr, List.length_append]
  rw [List.length_drop] at hlen
  have hdc : s.drop (o + c) = l.drop c ++ r := by rw [← List.drop_drop, hr, List.drop_append_of_le_length hcl]
  refine ⟨by omega, by omega, by omega, o, c, ?_, hc, by omega, fun hk => ?_, fun hk => ?_⟩
  · rw [show (t.line - 1).toNat = j by omega]; exact ho
  · obtain ⟨x, hx⟩ := hw hk
    have hxl : l.length - c = t.text.length + x.length := by rw [← List.length_drop, hx, List.length_append]
    refine ⟨by omega, ?_⟩
    rw [hdc, hx, List.append_assoc, List.take_left]
  · obtain ⟨x, hx⟩ := hd hk
    have hxl : l.length - c = x.length + 2 := by rw [← List.length_drop, hx]; rfl
    refine ⟨by omega, ?_⟩
    rw [hdc, hx]; rfl
end Go.Proofs.YtlmcdbegnjikdaaDoor

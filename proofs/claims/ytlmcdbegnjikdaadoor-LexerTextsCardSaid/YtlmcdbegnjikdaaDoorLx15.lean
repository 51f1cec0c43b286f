/- The lexer, plain: what the statement on blanks builds, byte by byte. -/
import Derived.Test.YtlmcdbegnjikdaaDoorLx2
namespace Go.Proofs.YtlmcdbegnjikdaaDoor
set_option linter.unusedVariables false
set_option linter.unusedSimpArgs false

theorem lines_snoc_nl : ∀ x : By, lines (x ++ [10]) = lines x ++ [[]]
  | [] => rfl
  | b :: x => by
    have h := lines_snoc_nl x
    by_cases hb : b = 10
    · subst hb; rw [List.cons_append, lines_nl, lines_nl, h]; rfl
    · rw [List.cons_append, lines, if_neg hb, h, lines, if_neg hb]
      cases hx : lines x with
      | nil => exact absurd hx (lines_ne x)
      | cons t ts => rfl
theorem lines_snoc {c : UInt8} (hc : c ≠ 10) : ∀ x : By, ∃ ini la, lines x = ini ++ [la] ∧ lines (x ++ [c]) = ini ++ [la ++ [c]]
  | [] => ⟨[], [], rfl, by simp [lines, hc]⟩
  | b :: x => by
    obtain ⟨ini, la, h1, h2⟩ := lines_snoc hc x
    by_cases hb : b = 10
    · subst hb
      exact ⟨[] :: ini, la, by rw [lines_nl, h1]; rfl, by rw [List.cons_append, lines_nl, h2]; rfl⟩
    · cases ini with
      | nil =>
        refine ⟨[], b :: la, ?_, ?_⟩
        · rw [lines, if_neg hb, h1]; rfl
        · rw [List.cons_append, lines, if_neg hb, h2]; rfl
      | cons t ts =>
        refine ⟨(b :: t) :: ts, la, ?_, ?_⟩
        · rw [lines, if_neg hb, h1]; rfl
        · rw [List.cons_append, lines, if_neg hb, h2]; rfl
/-- No line is longer than 900, and the last one is so long. -/
def Short (x : By) (n : Nat) : Prop := ∃ ini la, lines x = ini ++ [la] ∧ la.length = n ∧ n ≤ 900 ∧ ∀ t ∈ ini, t.length ≤ 900
theorem Short.nil : Short [] 0 := ⟨[], [], rfl, rfl, by omega, by simp⟩
theorem Short.nl {x : By} {n : Nat} (h : Short x n) : Short (x ++ [10]) 0 := by
  obtain ⟨ini, la, h1, h2, h3, h4⟩ := h
  refine ⟨ini ++ [la], [], by rw [lines_snoc_nl, h1], rfl, by omega, fun t ht => ?_⟩
  rcases List.mem_append.1 ht with ht | ht
  · exact h4 t ht
  · simp at ht; subst ht; omega
theorem Short.snoc {x : By} {n : Nat} {c : UInt8} (h : Short x n) (hc : c ≠ 10) (hn : n + 1 ≤ 900) : Short (x ++ [c]) (n + 1) := by
  obtain ⟨ini, la, h1, h2, h3, h4⟩ := h
  obtain ⟨ini', la', e1, e2⟩ := lines_snoc hc x
  have e3 := List.append_inj' (h1.symm.trans e1) rfl
  obtain ⟨rfl, e4⟩ := e3
  simp at e4
  subst e4
  exact ⟨ini, la ++ [c], e2, by simp [h2], hn, h4⟩
theorem Short.all {x : By} {n : Nat} (h : Short x n) : ∀ t ∈ lines x, t.length ≤ 900 := by
  obtain ⟨ini, la, h1, h2, h3, h4⟩ := h
  intro t ht
  rw [h1] at ht
  rcases List.mem_append.1 ht with ht | ht
  · exact h4 t ht
  · simp at ht; subst ht; omega
theorem more_snoc (k : Nat) (rem : By) (c : UInt8) : ∀ x : By, more k rem (x ++ [c]) = more k rem x ++ (if c = 10 then List.replicate k 32 ++ ([9, 35] ++ rem ++ [10, 10] ++ (List.replicate k 32)) else [c])
  | [] => by
    simp only [List.nil_append, more]
    split <;> simp [more]
  | b :: x => by
    rw [List.cons_append, more, more_snoc k rem c x, more]
    split <;> simp [List.append_assoc]
theorem more_len (k : Nat) (rem : By) (hk : k ≤ 20) (hr : rem.length ≤ 50) : ∀ x : By, (more k rem x).length ≤ 94 * x.length
  | [] => by simp [more]
  | b :: x => by
    have := more_len k rem hk hr x
    unfold more
    split
    · simp; omega
    · simp; omega
end Go.Proofs.YtlmcdbegnjikdaaDoor

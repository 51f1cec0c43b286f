/- The lexer, plain: where lines begin, byte by byte; a token at its place. -/
import Derived.Test.YtlmcdbegnjikdaaDoorLx3
namespace Go.Proofs.YtlmcdbegnjikdaaDoor
set_option linter.unusedVariables false
set_option linter.unusedSimpArgs false

theorem begs_snoc (c : UInt8) : ∀ (x : By) (i : Nat), begs i (x ++ [c]) = begs i x ++ (if c = 10 then [i + x.length + 1] else [])
  | [], i => by
    simp only [List.nil_append, begs]
    split <;> simp
  | b :: x, i => by
    rw [List.cons_append, begs, begs, begs_snoc c x (i + 1)]
    have e : i + 1 + x.length + 1 = i + (b :: x).length + 1 := by simp; omega
    rw [e]
    split <;> simp
theorem begs_le : ∀ (x : By) (i : Nat), (begs i x).length ≤ x.length
  | [], i => by simp [begs]
  | b :: x, i => by
    have := begs_le x (i + 1)
    unfold begs
    split <;> simp <;> omega
end Go.Proofs.YtlmcdbegnjikdaaDoor

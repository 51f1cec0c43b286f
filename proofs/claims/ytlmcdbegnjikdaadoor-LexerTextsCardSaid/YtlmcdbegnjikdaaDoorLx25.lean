/- The lexer: letters; the function value that Text hands over. (printed by gen/lx25.py) -/
import Derived.Test.YtlmcdbegnjikdaaDoorLx24
import Derived.Test.YtlmcdbegnjikdaaDoorLx20
namespace Go.Proofs.YtlmcdbegnjikdaaDoor
set_option linter.unusedVariables false
set_option linter.unusedSimpArgs false
open Go.RowKit
attribute [local go_sem ↓] Go.wp_at_zero Go.wp_at_succ

/-- A rune is no letter. -/
def notR (r : Nat) : Bool := decide (r < 97 ∨ 122 < r)
theorem notR_byte (b : UInt8) : notR b.toNat = !isLet b := by
  unfold notR isLet
  by_cases h : 97 ≤ b.toNat ∧ b.toNat ≤ 122
  · rw [decide_eq_true h, decide_eq_false (by omega)]; rfl
  · rw [decide_eq_false h, decide_eq_true (by omega)]; rfl
theorem letters_go (s : ByteArray) : ∀ (f pos : Nat), s.size ≤ pos + f → decide (0 ≤ Lib.idxFuncFrom notR true s f pos) = (from_ s pos).any fun b => !isLet b
  | 0, pos, h => by rw [from_ge (by omega)]; rfl
  | f + 1, pos, h => by
    by_cases hp : pos < s.size
    · rw [from_lt hp, List.any_cons, ← notR_byte]
      unfold Lib.idxFuncFrom
      rw [if_pos hp]
      by_cases ha : (s[pos]'hp).toNat < 128
      · rw [decode_ascii s pos hp ha]
        simp only
        by_cases hl : notR (s[pos]'hp).toNat = true
        · rw [if_pos hl, hl]; simp
        · have hl' : notR (s[pos]'hp).toNat = false := by simpa using hl
          rw [if_neg hl, hl', Bool.false_or]
          exact letters_go s f (pos + 1) (by omega)
      · have hd := (decode_high s pos hp (by omega)).1
        have h1 : notR (Utf8.decode s pos).1 = true := by unfold notR; rw [decide_eq_true]; omega
        have h2 : notR (s[pos]'hp).toNat = true := by unfold notR; rw [decide_eq_true]; omega
        rw [if_pos h1, h2]; simp
    · rw [from_ge (by omega), Lib.idxFuncFrom_end _ _ _ _ _ hp]; rfl
theorem letters_any (s : ByteArray) : decide (0 ≤ Lib.idxFunc notR true s) = s.data.toList.any fun b => !isLet b := letters_go s s.size 0 (by omega)
theorem pred_eq (w : World) (r : Nat) (hr : r ≤ 1114111) : Calls Tryd.prog 20 #[.int .i32 r] w fun e w' => e = .returned (.bool (notR r)) ∧ w = w' := by
  have HN : notR r = decide (r < 97 ∨ 122 < r) := rfl
  by_cases h1 : r < 97
  · have h1' : (r : Int) < 97 := by omega
    rw [HN, decide_eq_true (.inl h1)]
    go_enter Tryd.func20, Tryd.ntmps20
    go_wp2
    go_returns
    exact ⟨rfl, rfl⟩
  · have h1' : ¬ (r : Int) < 97 := by omega
    by_cases h2 : 122 < r
    · have h2' : (122 : Int) < (r : Int) := by omega
      rw [HN, decide_eq_true (.inr h2)]
      go_enter Tryd.func20, Tryd.ntmps20
      go_wp2
      go_returns
      exact ⟨rfl, rfl⟩
    · have h2' : ¬ (122 : Int) < (r : Int) := by omega
      rw [HN, decide_eq_false (by omega)]
      go_enter Tryd.func20, Tryd.ntmps20
      go_wp2
      go_returns
      exact ⟨rfl, rfl⟩
theorem pred_at (w : World) : PredAtRunes Tryd.prog 20 #[] notR w := fun W x hx _ =>
  (pred_eq W x hx).mono fun e w' h => ⟨h.1, 0, by rw [← h.2]; rfl⟩
theorem contains_eq (w : World) (s : ByteArray) : Calls Tryd.prog 19 #[.string s, .func (.func 20) #[] #[]] w fun e w' => e = .returned (.bool (s.data.toList.any fun b => !isLet b)) ∧ Below w.heap.size w w' := by
  have h := Any.strings_ContainsFunc_runes Tryd.laysGw17 20 #[] (enters_of Tryd.func20 (by kernel_rfl) rfl) notR s w (pred_at w)
  rw [letters_any] at h
  exact h
end Go.Proofs.YtlmcdbegnjikdaaDoor

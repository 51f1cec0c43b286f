/- The lexer: letters, places, words. -/
import Derived.Test.YtlmcdbegnjikdaaDoorEl
import Derived.Test.YtlmcdbegnjikdaaDoorLx1
import Derived.Test.YtlmcdbegnjikdaaDoorQuiet
namespace Go.Proofs.YtlmcdbegnjikdaaDoor
set_option linter.unusedVariables false
set_option linter.unusedSimpArgs false
open Go.RowKit
attribute [local go_sem ↓] Go.wp_at_zero Go.wp_at_succ

/-- A string's bytes from a byte on. -/
def from_ (s : ByteArray) (k : Nat) : By := s.data.toList.drop k
theorem from_lt {s : ByteArray} {k : Nat} (h : k < s.size) : from_ s k = s[k] :: from_ s (k + 1) := by
  have h' : k < s.data.toList.length := by simpa using h
  unfold from_
  rw [List.drop_eq_getElem_cons h']
  rfl
theorem from_ge {s : ByteArray} {k : Nat} (h : s.size ≤ k) : from_ s k = [] := by
  unfold from_
  exact List.drop_eq_nil_of_le (by simpa using h)
theorem from_len (s : ByteArray) (k : Nat) : (from_ s k).length = s.size - k := by
  unfold from_
  simp
theorem bool_eq {a b : Bool} (h : a = b) : Ending.returned (.bool a) = .returned (.bool b) := by rw [h]

theorem letter_eq (b : UInt8) (w : World) : Calls Tryd.prog 38 #[.int .u8 b.toNat] w fun e w' => e = .returned (.bool (isLet b)) ∧ w = w' := by
  have hb := b.toNat_lt
  by_cases h1 : 97 ≤ (b.toNat : Int) <;> by_cases h2 : (b.toNat : Int) ≤ 122 <;>
  (go_enter Tryd.func38, Tryd.ntmps38
   go_wp2
   go_ret
   exact ⟨bool_eq (by unfold isLet; simp; omega), rfl⟩)
theorem refletter_eq (b : UInt8) (w : World) : Calls Tryd.prog 22 #[.int .u8 b.toNat] w fun e w' => e = .returned (.bool (isLet b)) ∧ w = w' := by
  have hb := b.toNat_lt
  by_cases h1 : 97 ≤ (b.toNat : Int) <;> by_cases h2 : (b.toNat : Int) ≤ 122 <;>
  (go_enter Tryd.func22, Tryd.ntmps22
   go_wp2
   go_ret
   exact ⟨bool_eq (by unfold isLet; simp; omega), rfl⟩)
theorem ret_int {k : IntKind} {a b : Int} (h : a = b) : Ending.returned (.int k a) = .returned (.int k b) := by rw [h]
theorem refDigit_eq (b : UInt8) (w : World) : Calls Tryd.prog 45 #[.int .u8 b.toNat] w fun e w' => e = .returned (.int .i64 (dig b)) ∧ w = w' := by
  have hb := b.toNat_lt
  by_cases h1 : 48 ≤ (b.toNat : Int) <;> by_cases h2 : (b.toNat : Int) ≤ 57 <;> by_cases h3 : 97 ≤ (b.toNat : Int) <;> by_cases h4 : (b.toNat : Int) ≤ 102 <;> (try omega) <;>
  (go_enter Tryd.func45, Tryd.ntmps45
   go_wp2
   go_ret
   exact ⟨ret_int (by unfold dig; (try rw [if_pos (by omega)]); (try rw [if_neg (by omega), if_pos (by omega)]); (try rw [if_neg (by omega), if_neg (by omega)]); omega), rfl⟩)
theorem place_eq (w : World) (g : Nat) (cs : Array Value) (n k : Int) (h1 : cs[1]? = some (.int .i64 n)) (hk : 0 ≤ k ∧ k ≤ 1000000) (hb : Blk w g 51 cs) :
    Calls Tryd.prog 29 #[.pointer (some ⟨g, 0, none⟩), .int .i64 k] w fun e w' => e = .returned (.agg #[.int .i64 n, .int .i64 (k + 1)]) ∧ Below w.heap.size w w' := by
  have c1 := hb.cell 1
  rw [h1] at c1
  have hg := hb.lt
  obtain ⟨k1, k2⟩ := hk
  clear hb h1
  go_enter Tryd.func29, Tryd.ntmps29
  go_wp2
  go_returns
  exact ⟨rfl, Q.alloc (Below.refl _ _) _⟩
end Go.Proofs.YtlmcdbegnjikdaaDoor

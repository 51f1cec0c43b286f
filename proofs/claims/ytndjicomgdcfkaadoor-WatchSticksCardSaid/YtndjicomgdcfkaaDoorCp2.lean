/- Verdicts: numbers' texts. (printed by gen/cp2.py) -/
import Derived.Test.YtndjicomgdcfkaaDoorCp1
import Derived.Test.YtndjicomgdcfkaaDoorShi
import Derived.Lib.AppendIntMem
namespace Go.Proofs.YtndjicomgdcfkaaDoor
set_option linter.unusedVariables false
set_option linter.unusedSimpArgs false
open Go.RowKit
attribute [local go_sem ↓] Go.wp_at_zero Go.wp_at_succ
attribute [local go_sem high] cat_ok

/-- The library's table is laid. -/
def TB (w : World) : Prop := Lib.TabIs Tryd.prog w "internal/strconv.uint64pow10" .u64 Lib.pow10Tab
theorem TB.on {w V : World} (h : TB w) (hb : Below w.heap.size w V) : TB V := Lib.tabBelow_of_tabIs h V hb
theorem itoa_eq (w : World) (n : Int) (h0 : -9223372036854775808 ≤ n) (h1 : n ≤ 9223372036854775807) (hT : TB w) :
    Calls Tryd.prog 41 #[.int .i64 n] w fun e w' => e = .returned (.string (str (Lib.itoa n))) ∧ Below w.heap.size w w' :=
  Calls.mono (Any.strconv_Itoa Tryd.laysM171 n h0 h1 w hT) (by
    rintro e w' ⟨rfl, k, os, rfl⟩
    exact ⟨rfl, rfl, rfl, rfl, by show w.heap.size ≤ (w.heap ++ os).size; rw [Array.size_append]; omega, fun _ hj => by show (w.heap ++ os)[_]? = _; rw [Array.getElem?_append_left hj]⟩)
/-- A place's text. -/
def numT (n : Int) : By := if n = -1 then [45] else Lib.itoa n
abbrev dgs : ByteArray := ⟨#[48, 49, 50, 51, 52, 53, 54, 55, 56, 57]⟩
theorem dgs_one (d : Nat) (h : d < 10) : dgs.extract d (d + 1) = str [UInt8.ofNat (48 + d)] := by
  have key : ∀ d : Fin 10, dgs.extract d.val (d.val + 1) = str [UInt8.ofNat (48 + d.val)] := by decide +kernel
  exact key ⟨d, h⟩
theorem dec_len (n : Nat) (h : n ≤ 9223372036854775807) : (Lib.decDigits n).length ≤ 20 := by
  rw [Lib.decDigits_length]
  exact Lib.nDigits_le20 n (by omega)
/-- A number's text behind a blank. -/
def plT (n : Int) : By := if n < 0 then [32, 45] else 32 :: Lib.decDigits n.toNat
end Go.Proofs.YtndjicomgdcfkaaDoor

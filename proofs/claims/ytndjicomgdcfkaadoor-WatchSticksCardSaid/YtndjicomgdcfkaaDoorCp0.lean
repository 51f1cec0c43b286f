/- Strings as lists of bytes; numbers' texts. No function of the program. -/
import Derived.Test.YtndjicomgdcfkaaDoorEl
import Derived.Test.YtndjicomgdcfkaaDoorQuiet
import Derived.Lib.ItoaNum
import Derived.Lib.Join
import Derived.Lib.ItoaLen
namespace Go.Proofs.YtndjicomgdcfkaaDoor
set_option linter.unusedVariables false
set_option linter.unusedSimpArgs false
open Go.RowKit

abbrev By := List UInt8
def str (l : By) : ByteArray := ⟨l.toArray⟩
theorem str_app (a b : By) : str a ++ str b = str (a ++ b) := by
  unfold str
  apply ByteArray.ext
  simp
theorem str_size (l : By) : (str l).size = l.length := by simp [str, ByteArray.size]
theorem str_data (l : By) : (str l).data.toList = l := rfl
theorem str_of (s : ByteArray) : str s.data.toList = s := by cases s; simp [str]
theorem cat_ok {P : Program} (w : World) (a b : ByteArray) (ha : a.size ≤ 1000000) (hb : b.size ≤ 1000000) : (Op.stringOp .add a b).run P w = .ok (.string (a ++ b)) w := by
  rw [run_string_add_if, if_neg (by omega)]
theorem bool_eq {a b : Bool} (h : a = b) : Ending.returned (.bool a) = .returned (.bool b) := by rw [h]
/-- How a verdict lies. -/
def VD (lw : Bool) (c0 c1 y0 y1 ap ou lo wh : Int) : Value := .agg #[.bool lw, .int .i64 c0, .int .i64 c1, .int .i64 y0, .int .i64 y1, .int .i64 ap, .int .i64 ou, .int .i64 lo, .int .i64 wh]
def qt (c0 : Int) : Bool := decide (c0 = 0 ∨ c0 = 1)
def sm (c0 c1 y0 y1 ap ou : Int) : Bool := decide (c0 = c1 ∧ y0 = y1 ∧ ap = -1 ∧ ou = -1)
def hol (lw : Bool) (c0 c1 y0 y1 ap ou lo wh : Int) : Bool := !lw || !qt c0 || (if lo = -1 then sm c0 c1 y0 y1 ap ou else decide (ap = -1 ∨ wh ≤ ap))
def okc (c y : Int) : Bool := decide (0 ≤ c ∧ c ≤ 3 ∧ 0 ≤ y)
def okn (n : Int) : Bool := decide (-1 ≤ n)
def fit (c0 c1 y0 y1 ap ou lo wh : Int) : Bool := okc c0 y0 && okc c1 y1 && okn ap && okn ou && okn lo && okn wh
end Go.Proofs.YtndjicomgdcfkaaDoor

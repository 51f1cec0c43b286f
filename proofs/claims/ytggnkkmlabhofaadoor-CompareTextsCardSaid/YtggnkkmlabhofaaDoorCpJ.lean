/- strings.Join, the library's contract, at this program. (printed by gen/cpj.py) -/
import Derived.Test.YtggnkkmlabhofaaDoorProg
import Derived.Shelf.Strings.OnBuilder
namespace Go.Proofs.YtggnkkmlabhofaaDoor
set_option linter.unusedVariables false
set_option linter.unusedSimpArgs false
open Go.Shelf

def jren : Go.Shelf.Ren := ⟨fun | 156 => 49 | 165 => 69 | 166 => 70 | 169 => 71 | 240 => 79 | 241 => 80 | 276 => 91 | 277 => 92 | n => n, fun | 72 => 117 | 70 => 115 | 37 => 63 | 5 => 5 | 9 => 9 | 4 => 4 | 0 => 0 | 3 => 3 | 75 => 120 | 80 => 123 | 164 => 145 | 20 => 20 | 127 => 134 | 31 => 83 | 76 => 121 | n => n, fun n => n⟩

theorem jlays156 : Go.Proofs.Lays.n156 Tryd.prog jren := {
  mixed := by kernel_rfl
  f156 := Tryd.func49.trans (congrArg some (by kernel_rfl))
  f165 := Tryd.func69.trans (congrArg some (by kernel_rfl))
  f166 := Tryd.func70.trans (congrArg some (by kernel_rfl))
  f169 := Tryd.func71.trans (congrArg some (by kernel_rfl))
  f240 := Tryd.func79.trans (congrArg some (by kernel_rfl))
  f241 := Tryd.func80.trans (congrArg some (by kernel_rfl))
  f276 := Tryd.func91.trans (congrArg some (by kernel_rfl))
  f277 := Tryd.func92.trans (congrArg some (by kernel_rfl))
  t0 := Tryd.underlying0
  a0 := Tryd.isAgg0
  z0 := Tryd.sizeOf0
  v0 := Tryd.zeroValue0
  t3 := Tryd.underlying3
  a3 := Tryd.isAgg3
  z3 := Tryd.sizeOf3
  v3 := Tryd.zeroValue3
  t4 := Tryd.underlying4
  a4 := Tryd.isAgg4
  z4 := Tryd.sizeOf4
  v4 := Tryd.zeroValue4
  t9 := Tryd.underlying9
  a9 := Tryd.isAgg9
  z9 := Tryd.sizeOf9
  v9 := Tryd.zeroValue9
  t20 := Tryd.underlying20
  a20 := Tryd.isAgg20
  z20 := Tryd.sizeOf20
  v20 := Tryd.zeroValue20
  t31 := Tryd.underlying83
  a31 := Tryd.isAgg83
  z31 := Tryd.sizeOf83
  v31 := Tryd.zeroValue83
  t37 := Tryd.underlying63
  a37 := Tryd.isAgg63
  z37 := Tryd.sizeOf63
  v37 := Tryd.zeroValue63
  t70 := Tryd.underlying115
  a70 := Tryd.isAgg115
  z70 := Tryd.sizeOf115
  v70 := Tryd.zeroValue115
  t72 := Tryd.underlying117
  a72 := Tryd.isAgg117
  z72 := Tryd.sizeOf117
  v72 := Tryd.zeroValue117
  t75 := Tryd.underlying120
  a75 := Tryd.isAgg120
  z75 := Tryd.sizeOf120
  v75 := Tryd.zeroValue120
  t76 := Tryd.underlying121
  a76 := Tryd.isAgg121
  z76 := Tryd.sizeOf121
  v76 := Tryd.zeroValue121
  t127 := Tryd.underlying134
  a127 := Tryd.isAgg134
  z127 := Tryd.sizeOf134
  v127 := Tryd.zeroValue134
  t164 := Tryd.underlying145
  a164 := Tryd.isAgg145
  z164 := Tryd.sizeOf145
  v164 := Tryd.zeroValue145 }

theorem jextra : Go.Proofs.Builder.Extra Tryd.prog jren := {
  sizeBuilder := by kernel_rfl
  liesBuilder := by kernel_rfl
  t5 := Tryd.underlying5
  a5 := Tryd.isAgg5
  z5 := Tryd.sizeOf5
  v5 := Tryd.zeroValue5
  infoByte := by kernel_rfl
  cellsByte := by kernel_rfl
  sizeByte := by kernel_rfl
  neB5 := by decide }
end Go.Proofs.YtggnkkmlabhofaaDoor

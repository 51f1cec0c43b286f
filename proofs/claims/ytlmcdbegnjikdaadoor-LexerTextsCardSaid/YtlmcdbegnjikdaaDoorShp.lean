/-
  DERIVED: THE SHELF's CONTRACTS AT THIS DUMP, IN PLAIN WORDS (tools/lay-plain.mjs out of 'YtlmcdbegnjikdaaDoorShpSoft.lean', which tools/lay-shelf.mjs wrote): THE SAME DECLARATIONS UNDER THE SAME NAMES: 'import', 'namespace', 'open', 'def', 'theorem' AND NOTHING ELSE: no command of the shelf's: FOR A HAND-IN. Each laying: the table of numbers ('.._ren') and one theorem, a field a fact of the dump's own or the kernel's comparison; each contract: ONE APPLICATION.
-/
import Derived.Test.YtlmcdbegnjikdaaDoorProg
import Derived.Ground.NamesProg
import Derived.Shelf.Strings.Split
namespace Go.Proofs
open Go.Shelf
def Tryd.lays146_ren : Go.Shelf.Ren := ⟨fun | 146 => 15 | 221 => 27 | 268 => 34 | 138 => 35 | 143 => 36 | 195 => 49 | 197 => 50 | 218 => 51 | 219 => 52 | 260 => 55 | 217 => 56 | 225 => 57 | 224 => 58 | 267 => 59 | 266 => 60 | 314 => 61 | n => n, fun | 9 => 9 | 31 => 47 | 3 => 3 | 4 => 4 | 0 => 0 | 105 => 96 | 21 => 21 | 5 => 5 | 46 => 99 | 119 => 100 | 139 => 103 | 138 => 102 | 146 => 105 | 51 => 104 | n => n, fun | 1 => 0 | 3 => 1 | 4 => 2 | n => n⟩
theorem Tryd.lays146 : Go.Proofs.Lays.n146 Tryd.prog Tryd.lays146_ren := {
  mixed := by kernel_rfl
  f138 := Tryd.func35.trans (congrArg some (by kernel_rfl))
  f143 := Tryd.func36.trans (congrArg some (by kernel_rfl))
  f146 := Tryd.func15.trans (congrArg some (by kernel_rfl))
  f195 := Tryd.func49.trans (congrArg some (by kernel_rfl))
  f197 := Tryd.func50.trans (congrArg some (by kernel_rfl))
  f217 := Tryd.func56.trans (congrArg some (by kernel_rfl))
  f218 := Tryd.func51.trans (congrArg some (by kernel_rfl))
  f219 := Tryd.func52.trans (congrArg some (by kernel_rfl))
  f221 := Tryd.func27.trans (congrArg some (by kernel_rfl))
  f224 := Tryd.func58.trans (congrArg some (by kernel_rfl))
  f225 := Tryd.func57.trans (congrArg some (by kernel_rfl))
  f260 := Tryd.func55.trans (congrArg some (by kernel_rfl))
  f266 := Tryd.func60.trans (congrArg some (by kernel_rfl))
  f267 := Tryd.func59.trans (congrArg some (by kernel_rfl))
  f268 := Tryd.func34.trans (congrArg some (by kernel_rfl))
  f314 := Tryd.func61.trans (congrArg some (by kernel_rfl))
  t0 := Tryd.underlying0
  a0 := Tryd.isAgg0
  z0 := Tryd.sizeOf0
  v0 := Tryd.zeroValue0
  t3 := Tryd.underlying3
  a3 := Tryd.isAgg3
  z3 := Tryd.sizeOf3
  v3 := Tryd.zeroValue3
  t4 := Tryd.underlying4
  a4 := Tryd.isAgg4
  z4 := Tryd.sizeOf4
  v4 := Tryd.zeroValue4
  t5 := Tryd.underlying5
  a5 := Tryd.isAgg5
  z5 := Tryd.sizeOf5
  v5 := Tryd.zeroValue5
  t9 := Tryd.underlying9
  a9 := Tryd.isAgg9
  z9 := Tryd.sizeOf9
  v9 := Tryd.zeroValue9
  t21 := Tryd.underlying21
  a21 := Tryd.isAgg21
  z21 := Tryd.sizeOf21
  v21 := Tryd.zeroValue21
  t31 := Tryd.underlying47
  a31 := Tryd.isAgg47
  z31 := Tryd.sizeOf47
  v31 := Tryd.zeroValue47
  t46 := Tryd.underlying99
  a46 := Tryd.isAgg99
  z46 := Tryd.sizeOf99
  v46 := Tryd.zeroValue99
  t51 := Tryd.underlying104
  a51 := Tryd.isAgg104
  z51 := Tryd.sizeOf104
  v51 := Tryd.zeroValue104
  t105 := Tryd.underlying96
  a105 := Tryd.isAgg96
  z105 := Tryd.sizeOf96
  v105 := Tryd.zeroValue96
  t119 := Tryd.underlying100
  a119 := Tryd.isAgg100
  z119 := Tryd.sizeOf100
  t138 := Tryd.underlying102
  a138 := Tryd.isAgg102
  z138 := Tryd.sizeOf102
  v138 := Tryd.zeroValue102
  t139 := Tryd.underlying103
  a139 := Tryd.isAgg103
  z139 := Tryd.sizeOf103
  v139 := Tryd.zeroValue103
  t146 := Tryd.underlying105
  a146 := Tryd.isAgg105
  z146 := Tryd.sizeOf105
  v146 := Tryd.zeroValue105
  g1 := by kernel_rfl
  g3 := by kernel_rfl
  g4 := by kernel_rfl }
end Go.Proofs

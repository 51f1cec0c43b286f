/-
  DERIVED: THE SHELF's CONTRACTS AT THIS DUMP, IN PLAIN WORDS (tools/lay-plain.mjs out of 'YtndjicomgdcfkaaDoorShzSoft.lean', which tools/lay-shelf.mjs wrote): THE SAME DECLARATIONS UNDER THE SAME NAMES: 'import', 'namespace', 'open', 'def', 'theorem' AND NOTHING ELSE: no command of the shelf's: FOR A HAND-IN. Each laying: the table of numbers ('.._ren') and one theorem, a field a fact of the dump's own or the kernel's comparison; each contract: ONE APPLICATION.
-/
import Derived.Test.YtndjicomgdcfkaaDoorProg
import Derived.Ground.Names7Prog
import Derived.Shelf.Spec.TrailingZeros
namespace Go.Proofs
open Go.Shelf
def Tryd.lays727_ren : Go.Shelf.Ren := ⟨fun | 27 => 64 | 28 => 68 | 29 => 69 | n => n, fun | 25 => 120 | 3 => 3 | 27 => 118 | 22 => 104 | 4 => 4 | 53 => 127 | 0 => 0 | 5 => 5 | 54 => 128 | n => n, fun | 0 => 2 | 1 => 3 | n => n⟩
theorem Tryd.lays727 : Go.Proofs.Lays7.n27 Tryd.prog Tryd.lays727_ren := {
  mixed := by kernel_rfl
  f27 := Tryd.func64.trans (congrArg some (by kernel_rfl))
  f28 := Tryd.func68.trans (congrArg some (by kernel_rfl))
  f29 := Tryd.func69.trans (congrArg some (by kernel_rfl))
  t0 := Tryd.underlying0
  a0 := Tryd.isAgg0
  z0 := Tryd.sizeOf0
  v0 := Tryd.zeroValue0
  i0 := by kernel_rfl
  t3 := Tryd.underlying3
  a3 := Tryd.isAgg3
  z3 := Tryd.sizeOf3
  v3 := Tryd.zeroValue3
  i3 := by kernel_rfl
  t4 := Tryd.underlying4
  a4 := Tryd.isAgg4
  z4 := Tryd.sizeOf4
  v4 := Tryd.zeroValue4
  i4 := by kernel_rfl
  t5 := Tryd.underlying5
  a5 := Tryd.isAgg5
  z5 := Tryd.sizeOf5
  v5 := Tryd.zeroValue5
  i5 := by kernel_rfl
  t22 := Tryd.underlying104
  a22 := Tryd.isAgg104
  z22 := Tryd.sizeOf104
  v22 := Tryd.zeroValue104
  i22 := by kernel_rfl
  t25 := Tryd.underlying120
  a25 := Tryd.isAgg120
  z25 := Tryd.sizeOf120
  v25 := Tryd.zeroValue120
  i25 := by kernel_rfl
  t27 := Tryd.underlying118
  a27 := Tryd.isAgg118
  z27 := Tryd.sizeOf118
  v27 := Tryd.zeroValue118
  i27 := by kernel_rfl
  t53 := Tryd.underlying127
  a53 := Tryd.isAgg127
  z53 := Tryd.sizeOf127
  v53 := Tryd.zeroValue127
  i53 := by kernel_rfl
  t54 := Tryd.underlying128
  a54 := Tryd.isAgg128
  z54 := Tryd.sizeOf128
  g0 := by kernel_rfl
  g1 := by kernel_rfl }
end Go.Proofs

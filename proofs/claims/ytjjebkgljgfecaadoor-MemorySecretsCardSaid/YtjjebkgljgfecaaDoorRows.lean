/-
  NARROWER THAN 'FOR EVERY INPUT', by the rows' own cells (each row's printed sentence says how): MemoryKeeps: laid · MemoryPlays: laid · MemoryLoads: laid · MemorySecrets: laid · MemoryNil: laid.
  DERIVED. THE GIVEN ROWS OF THIS SEAT. 5 by the template 'for every input the law returns true; each argument reads behind the call as it read before'; 0 by the template 'total and deterministic' (their statements: YtjjebkgljgfecaaDoorTotals.lean).
  GIVEN WITH THE SEED: the statements are not yours to turn. If you find one false, say at which input.
  Laid BY PROGRAM, IN A SANDBOX (cutbox-rows.mjs): the forced cells as the released guide's own fill.sh prints them over the translation 93557445f9106372… (all of the seat's roots in one cut). By AI agents, Wed Nov 11 2026. No macro, syntax, notation, axiom, sorry.
-/
import Derived.Test.YtjjebkgljgfecaaDoorChecked
import GoSem.Claim
import GoSem.ClaimJoined
import GoSem.ClaimMapViews
import Derived.JoinedTies
import Derived.KernelRfl
namespace Go.Proofs.YtjjebkgljgfecaaDoor
/- THE CELL 'sum', in the pinned program and in every row, IS THE sha256 OF THE DUMP (.gsa) THAT YtjjebkgljgfecaaDoorProg.lean LOADS. Nothing in Lean hashes anything: it is a label: what it is worth is what the hold of that sum in a sandbox is worth. -/
noncomputable def Tryd.pinned : Pinned := { name := "ytjjebkgljgfecaadoor", sum := "93557445f9106372b1f79df468ebd63ab3bb16c4e89a974ae363ec264c736659", checked := Tryd.checked }
namespace Rows
def none {H : Type} : Left H := { results := [], args := [] }

/- WHAT THE LISTED PACKAGE-LEVEL VARIABLES READ AS WHEN THE CALL BEGINS. Each datum BY PROGRAM (the guide's laid-datum.mjs) off the statement by which the dump's own 'gosem.cut.vars' lays the variable. In a bare row this is a premise. The card (YtjjebkgljgfecaaDoorCards.lean) ties it to the program's text. -/
def laid_cochineal_memory_kinds {H : Type} : DataW H := .agg [.lit (.int .i64 0), .lit (.int .i64 32768), .lit (.int .i64 32784), .lit (.int .i64 49152), .lit (.int .i64 65536)]

/-- 'cochineallaw08.MemoryKeeps': WHATEVER THE INPUT: true; the input reads as it did. -/
def memoryKeepsSpec : ChangeSpec := { name := "memoryKeeps", fn := fun _ => fun
  | [d1, d2, d3] => { results := [.lit (.bool true)], args := [d1, d2, d3] }
  | _ => none }
def memoryKeepsRow : OpenClaim := { program := "ytjjebkgljgfecaadoor", sum := "93557445f9106372b1f79df468ebd63ab3bb16c4e89a974ae363ec264c736659", func := "cochineal/cochineallaw08.MemoryKeeps", spec := "memoryKeeps", named := ["cochineal/memory.kinds"], apart := false, laid := [("cochineal/memory.kinds", laid_cochineal_memory_kinds)] }
def MemoryKeepsSaid : Prop := memoryKeepsRow.holds Tryd.pinned (OpenSpec.ofChange memoryKeepsSpec)

/-- ITS FALSE NEIGHBOUR: 'it returns false'. Refute it at one input. -/
def memoryKeepsWrong : ChangeSpec := { name := "memoryKeeps", fn := fun _ => fun
  | [d1, d2, d3] => { results := [.lit (.bool false)], args := [d1, d2, d3] }
  | _ => none }
def MemoryKeepsWrongFalsely : Prop := memoryKeepsRow.holds Tryd.pinned (OpenSpec.ofChange memoryKeepsWrong)

/-- 'cochineallaw08.MemoryPlays': WHATEVER THE INPUT: true; the input reads as it did. -/
def memoryPlaysSpec : ChangeSpec := { name := "memoryPlays", fn := fun _ => fun
  | [d] => { results := [.lit (.bool true)], args := [d] }
  | _ => none }
def memoryPlaysRow : OpenClaim := { program := "ytjjebkgljgfecaadoor", sum := "93557445f9106372b1f79df468ebd63ab3bb16c4e89a974ae363ec264c736659", func := "cochineal/cochineallaw08.MemoryPlays", spec := "memoryPlays", named := ["cochineal/memory.kinds"], apart := false, laid := [("cochineal/memory.kinds", laid_cochineal_memory_kinds)] }
def MemoryPlaysSaid : Prop := memoryPlaysRow.holds Tryd.pinned (OpenSpec.ofChange memoryPlaysSpec)

/-- ITS FALSE NEIGHBOUR: 'it returns false'. Refute it at one input. -/
def memoryPlaysWrong : ChangeSpec := { name := "memoryPlays", fn := fun _ => fun
  | [d] => { results := [.lit (.bool false)], args := [d] }
  | _ => none }
def MemoryPlaysWrongFalsely : Prop := memoryPlaysRow.holds Tryd.pinned (OpenSpec.ofChange memoryPlaysWrong)

/-- 'cochineallaw08.MemoryLoads': WHATEVER THE INPUT: true; the input reads as it did. -/
def memoryLoadsSpec : ChangeSpec := { name := "memoryLoads", fn := fun _ => fun
  | [d1, d2, d3] => { results := [.lit (.bool true)], args := [d1, d2, d3] }
  | _ => none }
def memoryLoadsRow : OpenClaim := { program := "ytjjebkgljgfecaadoor", sum := "93557445f9106372b1f79df468ebd63ab3bb16c4e89a974ae363ec264c736659", func := "cochineal/cochineallaw08.MemoryLoads", spec := "memoryLoads", named := ["cochineal/memory.kinds"], apart := false, laid := [("cochineal/memory.kinds", laid_cochineal_memory_kinds)] }
def MemoryLoadsSaid : Prop := memoryLoadsRow.holds Tryd.pinned (OpenSpec.ofChange memoryLoadsSpec)

/-- ITS FALSE NEIGHBOUR: 'it returns false'. Refute it at one input. -/
def memoryLoadsWrong : ChangeSpec := { name := "memoryLoads", fn := fun _ => fun
  | [d1, d2, d3] => { results := [.lit (.bool false)], args := [d1, d2, d3] }
  | _ => none }
def MemoryLoadsWrongFalsely : Prop := memoryLoadsRow.holds Tryd.pinned (OpenSpec.ofChange memoryLoadsWrong)

/-- 'cochineallaw08.MemorySecrets': WHATEVER THE INPUT: true; the input reads as it did. -/
def memorySecretsSpec : ChangeSpec := { name := "memorySecrets", fn := fun _ => fun
  | [d1, d2, d3] => { results := [.lit (.bool true)], args := [d1, d2, d3] }
  | _ => none }
def memorySecretsRow : OpenClaim := { program := "ytjjebkgljgfecaadoor", sum := "93557445f9106372b1f79df468ebd63ab3bb16c4e89a974ae363ec264c736659", func := "cochineal/cochineallaw08.MemorySecrets", spec := "memorySecrets", unfollowed := true, recurses := true, named := ["cochineal/memory.kinds"], apart := false, laid := [("cochineal/memory.kinds", laid_cochineal_memory_kinds)] }
def MemorySecretsSaid : Prop := memorySecretsRow.holds Tryd.pinned (OpenSpec.ofChange memorySecretsSpec)

/-- ITS FALSE NEIGHBOUR: 'it returns false'. Refute it at one input. -/
def memorySecretsWrong : ChangeSpec := { name := "memorySecrets", fn := fun _ => fun
  | [d1, d2, d3] => { results := [.lit (.bool false)], args := [d1, d2, d3] }
  | _ => none }
def MemorySecretsWrongFalsely : Prop := memorySecretsRow.holds Tryd.pinned (OpenSpec.ofChange memorySecretsWrong)

/-- 'cochineallaw08.MemoryNil': WHATEVER THE INPUT: true; the input reads as it did. -/
def memoryNilSpec : ChangeSpec := { name := "memoryNil", fn := fun _ => fun
  | [d1, d2] => { results := [.lit (.bool true)], args := [d1, d2] }
  | _ => none }
def memoryNilRow : OpenClaim := { program := "ytjjebkgljgfecaadoor", sum := "93557445f9106372b1f79df468ebd63ab3bb16c4e89a974ae363ec264c736659", func := "cochineal/cochineallaw08.MemoryNil", spec := "memoryNil", unfollowed := true, recurses := true, named := ["cochineal/memory.kinds"], apart := false, laid := [("cochineal/memory.kinds", laid_cochineal_memory_kinds)] }
def MemoryNilSaid : Prop := memoryNilRow.holds Tryd.pinned (OpenSpec.ofChange memoryNilSpec)

/-- ITS FALSE NEIGHBOUR: 'it returns false'. Refute it at one input. -/
def memoryNilWrong : ChangeSpec := { name := "memoryNil", fn := fun _ => fun
  | [d1, d2] => { results := [.lit (.bool false)], args := [d1, d2] }
  | _ => none }
def MemoryNilWrongFalsely : Prop := memoryNilRow.holds Tryd.pinned (OpenSpec.ofChange memoryNilWrong)

/- THE SECOND FORM. 'bulk': how many values and letters a reading holds, each counted each time it is reached (what is shared counts as often as it is met; a slice's spare places count too). A statement '..UptoSaid' is the law's where the arguments, and the package variables that the reading takes, are together of bulk at most 1048576: NARROWER than '..Said'. Prove '..Said' where nothing that the law and all that it calls make is longer than what came in: it says more and counts as full. Else prove '..UptoSaid'. A law counts once. -/
mutual
def uptoBulk {H : Type} : DataW H → Nat
  | .lit (.string bytes) => bytes.length + 1
  | .lit _ => 1
  | .nil => 1
  | .ptr d => uptoBulk d + 1
  | .slice elems spare => uptoBulkAll elems + uptoBulkAll spare + 1
  | .agg parts => uptoBulkAll parts + 1
  | .iface _ d => uptoBulk d + 1
  | .map entries => uptoBulkEntries entries + 1
  | .held _ => 1
def uptoBulkAll {H : Type} : List (DataW H) → Nat
  | [] => 0
  | d :: r => uptoBulk d + uptoBulkAll r
def uptoBulkEntries {H : Type} : List (Lit × DataW H) → Nat
  | [] => 0
  | x :: r => uptoBulkEntry x + uptoBulkEntries r
def uptoBulkEntry {H : Type} : Lit × DataW H → Nat
  | (.string bytes, d) => bytes.length + uptoBulk d + 1
  | (_, d) => uptoBulk d + 1
 end
def uptoSmall : (H : Type) → List (DataW H) → Bool := fun _ ds => decide (uptoBulkAll ds ≤ 1048576)
def OpenSpec.upto (s : _root_.Go.ChangeSpec) : _root_.Go.OpenSpec := { _root_.Go.OpenSpec.ofChange s with cond := some uptoSmall }

/-- 'cochineallaw08.MemoryKeeps', WHERE WHAT IT READS IS OF BULK AT MOST 1048576: true; the input reads as it did. -/
def memoryKeepsUptoRow : OpenClaim := { program := "ytjjebkgljgfecaadoor", sum := "93557445f9106372b1f79df468ebd63ab3bb16c4e89a974ae363ec264c736659", func := "cochineal/cochineallaw08.MemoryKeeps", spec := "memoryKeeps", named := ["cochineal/memory.kinds"], apart := false, laid := [("cochineal/memory.kinds", laid_cochineal_memory_kinds)], narrowed := true }
def MemoryKeepsUptoSaid : Prop := memoryKeepsUptoRow.holds Tryd.pinned (OpenSpec.upto memoryKeepsSpec)

/-- 'cochineallaw08.MemoryPlays', WHERE WHAT IT READS IS OF BULK AT MOST 1048576: true; the input reads as it did. -/
def memoryPlaysUptoRow : OpenClaim := { program := "ytjjebkgljgfecaadoor", sum := "93557445f9106372b1f79df468ebd63ab3bb16c4e89a974ae363ec264c736659", func := "cochineal/cochineallaw08.MemoryPlays", spec := "memoryPlays", named := ["cochineal/memory.kinds"], apart := false, laid := [("cochineal/memory.kinds", laid_cochineal_memory_kinds)], narrowed := true }
def MemoryPlaysUptoSaid : Prop := memoryPlaysUptoRow.holds Tryd.pinned (OpenSpec.upto memoryPlaysSpec)

/-- 'cochineallaw08.MemoryLoads', WHERE WHAT IT READS IS OF BULK AT MOST 1048576: true; the input reads as it did. -/
def memoryLoadsUptoRow : OpenClaim := { program := "ytjjebkgljgfecaadoor", sum := "93557445f9106372b1f79df468ebd63ab3bb16c4e89a974ae363ec264c736659", func := "cochineal/cochineallaw08.MemoryLoads", spec := "memoryLoads", named := ["cochineal/memory.kinds"], apart := false, laid := [("cochineal/memory.kinds", laid_cochineal_memory_kinds)], narrowed := true }
def MemoryLoadsUptoSaid : Prop := memoryLoadsUptoRow.holds Tryd.pinned (OpenSpec.upto memoryLoadsSpec)

/-- 'cochineallaw08.MemorySecrets', WHERE WHAT IT READS IS OF BULK AT MOST 1048576: true; the input reads as it did. -/
def memorySecretsUptoRow : OpenClaim := { program := "ytjjebkgljgfecaadoor", sum := "93557445f9106372b1f79df468ebd63ab3bb16c4e89a974ae363ec264c736659", func := "cochineal/cochineallaw08.MemorySecrets", spec := "memorySecrets", unfollowed := true, recurses := true, named := ["cochineal/memory.kinds"], apart := false, laid := [("cochineal/memory.kinds", laid_cochineal_memory_kinds)], narrowed := true }
def MemorySecretsUptoSaid : Prop := memorySecretsUptoRow.holds Tryd.pinned (OpenSpec.upto memorySecretsSpec)

/-- 'cochineallaw08.MemoryNil', WHERE WHAT IT READS IS OF BULK AT MOST 1048576: true; the input reads as it did. -/
def memoryNilUptoRow : OpenClaim := { program := "ytjjebkgljgfecaadoor", sum := "93557445f9106372b1f79df468ebd63ab3bb16c4e89a974ae363ec264c736659", func := "cochineal/cochineallaw08.MemoryNil", spec := "memoryNil", unfollowed := true, recurses := true, named := ["cochineal/memory.kinds"], apart := false, laid := [("cochineal/memory.kinds", laid_cochineal_memory_kinds)], narrowed := true }
def MemoryNilUptoSaid : Prop := memoryNilUptoRow.holds Tryd.pinned (OpenSpec.upto memoryNilSpec)

end Rows
end Go.Proofs.YtjjebkgljgfecaaDoor

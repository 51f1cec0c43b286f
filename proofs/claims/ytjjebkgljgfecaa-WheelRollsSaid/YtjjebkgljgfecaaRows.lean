/-
  No cell of these rows narrows 'for every input' (looked for: loops, veiled, ifaces, maps, wideKeys, modest, calm, conditions, laid).
  DERIVED. THE GIVEN ROWS OF THIS SEAT. 4 by the template 'for every input the law returns true; each argument reads behind the call as it read before'; 0 by the template 'total and deterministic' (their statements: YtjjebkgljgfecaaTotals.lean).
  GIVEN WITH THE SEED: the statements are not yours to turn. If you find one false, say at which input.
  Laid BY PROGRAM, IN A SANDBOX (cutbox-rows.mjs): the forced cells as the released guide's own fill.sh prints them over the translation 0594849ff2443608… (all of the seat's roots in one cut). By AI agents, Wed Nov 11 2026. No macro, syntax, notation, axiom, sorry.
-/
import Derived.Test.YtjjebkgljgfecaaChecked
import GoSem.Claim
import GoSem.ClaimJoined
import GoSem.ClaimMapViews
import Derived.JoinedTies
import Derived.KernelRfl
namespace Go.Proofs.Ytjjebkgljgfecaa
/- THE CELL 'sum', in the pinned program and in every row, IS THE sha256 OF THE DUMP (.gsa) THAT YtjjebkgljgfecaaProg.lean LOADS. Nothing in Lean hashes anything: it is a label: what it is worth is what the hold of that sum in a sandbox is worth. -/
noncomputable def Try.pinned : Pinned := { name := "ytjjebkgljgfecaa", sum := "0594849ff2443608edfdbdce1a49cacac7eb693ff49daa40fdbc509e61094837", checked := Try.checked }
namespace Rows
def none {H : Type} : Left H := { results := [], args := [] }

/-- 'cochineallaw12.WheelWhole': WHATEVER THE INPUT: true; the input reads as it did. -/
def wheelWholeSpec : ChangeSpec := { name := "wheelWhole", fn := fun _ => fun
  | [d1, d2, d3] => { results := [.lit (.bool true)], args := [d1, d2, d3] }
  | _ => none }
def wheelWholeRow : OpenClaim := { program := "ytjjebkgljgfecaa", sum := "0594849ff2443608edfdbdce1a49cacac7eb693ff49daa40fdbc509e61094837", func := "cochineal/cochineallaw12.WheelWhole", spec := "wheelWhole", inPlace := ["math.archTrunc", "math.Float64bits", "math.Float64frombits"], unfollowed := true, recurses := true, apart := false }
def WheelWholeSaid : Prop := wheelWholeRow.holds Try.pinned (OpenSpec.ofChange wheelWholeSpec)

/-- ITS FALSE NEIGHBOUR: 'it returns false'. Refute it at one input. -/
def wheelWholeWrong : ChangeSpec := { name := "wheelWhole", fn := fun _ => fun
  | [d1, d2, d3] => { results := [.lit (.bool false)], args := [d1, d2, d3] }
  | _ => none }
def WheelWholeWrongFalsely : Prop := wheelWholeRow.holds Try.pinned (OpenSpec.ofChange wheelWholeWrong)

/-- 'cochineallaw12.WheelTurns': WHATEVER THE INPUT: true; the input reads as it did. -/
def wheelTurnsSpec : ChangeSpec := { name := "wheelTurns", fn := fun _ => fun
  | [d1, d2] => { results := [.lit (.bool true)], args := [d1, d2] }
  | _ => none }
def wheelTurnsRow : OpenClaim := { program := "ytjjebkgljgfecaa", sum := "0594849ff2443608edfdbdce1a49cacac7eb693ff49daa40fdbc509e61094837", func := "cochineal/cochineallaw12.WheelTurns", spec := "wheelTurns", inPlace := ["math.archTrunc", "math.Float64bits", "math.Float64frombits"], unfollowed := true, recurses := true, apart := false }
def WheelTurnsSaid : Prop := wheelTurnsRow.holds Try.pinned (OpenSpec.ofChange wheelTurnsSpec)

/-- ITS FALSE NEIGHBOUR: 'it returns false'. Refute it at one input. -/
def wheelTurnsWrong : ChangeSpec := { name := "wheelTurns", fn := fun _ => fun
  | [d1, d2] => { results := [.lit (.bool false)], args := [d1, d2] }
  | _ => none }
def WheelTurnsWrongFalsely : Prop := wheelTurnsRow.holds Try.pinned (OpenSpec.ofChange wheelTurnsWrong)

/-- 'cochineallaw12.WheelRolls': WHATEVER THE INPUT: true; the input reads as it did. -/
def wheelRollsSpec : ChangeSpec := { name := "wheelRolls", fn := fun _ => fun
  | [d1, d2] => { results := [.lit (.bool true)], args := [d1, d2] }
  | _ => none }
def wheelRollsRow : OpenClaim := { program := "ytjjebkgljgfecaa", sum := "0594849ff2443608edfdbdce1a49cacac7eb693ff49daa40fdbc509e61094837", func := "cochineal/cochineallaw12.WheelRolls", spec := "wheelRolls", inPlace := ["math.archTrunc", "math.Float64bits", "math.Float64frombits"], unfollowed := true, recurses := true, apart := false }
def WheelRollsSaid : Prop := wheelRollsRow.holds Try.pinned (OpenSpec.ofChange wheelRollsSpec)

/-- ITS FALSE NEIGHBOUR: 'it returns false'. Refute it at one input. -/
def wheelRollsWrong : ChangeSpec := { name := "wheelRolls", fn := fun _ => fun
  | [d1, d2] => { results := [.lit (.bool false)], args := [d1, d2] }
  | _ => none }
def WheelRollsWrongFalsely : Prop := wheelRollsRow.holds Try.pinned (OpenSpec.ofChange wheelRollsWrong)

/-- 'cochineallaw12.WheelNil': WHATEVER THE INPUT: true; the input reads as it did. -/
def wheelNilSpec : ChangeSpec := { name := "wheelNil", fn := fun _ => fun
  | [d1, d2] => { results := [.lit (.bool true)], args := [d1, d2] }
  | _ => none }
def wheelNilRow : OpenClaim := { program := "ytjjebkgljgfecaa", sum := "0594849ff2443608edfdbdce1a49cacac7eb693ff49daa40fdbc509e61094837", func := "cochineal/cochineallaw12.WheelNil", spec := "wheelNil", inPlace := ["math.archTrunc", "math.Float64bits", "math.Float64frombits"], unfollowed := true, recurses := true, apart := false }
def WheelNilSaid : Prop := wheelNilRow.holds Try.pinned (OpenSpec.ofChange wheelNilSpec)

/-- ITS FALSE NEIGHBOUR: 'it returns false'. Refute it at one input. -/
def wheelNilWrong : ChangeSpec := { name := "wheelNil", fn := fun _ => fun
  | [d1, d2] => { results := [.lit (.bool false)], args := [d1, d2] }
  | _ => none }
def WheelNilWrongFalsely : Prop := wheelNilRow.holds Try.pinned (OpenSpec.ofChange wheelNilWrong)

/- THE SECOND FORM. 'bulk': how many values and letters a reading holds, each counted each time it is reached (what is shared counts as often as it is met; a slice's spare places count too). A statement '..UptoSaid' is the law's where the arguments, and the package variables that the reading takes, are together of bulk at most 1048576: NARROWER than '..Said'. Prove '..Said' where nothing that the law and all that it calls make is longer than what came in: it says more and counts as full. Else prove '..UptoSaid'. A law counts once. -/
mutual
def uptoBulk {H : Type} : DataW H → Nat
  | .lit (.string bytes) => bytes.length + 1
  | .lit _ => 1
  | .nil => 1
  | .ptr d => uptoBulk d + 1
  | .slice elems spare => uptoBulkAll elems + uptoBulkAll spare + 1
  | .agg parts => uptoBulkAll parts + 1
  | .iface _ d => uptoBulk d + 1
  | .map entries => uptoBulkEntries entries + 1
  | .held _ => 1
def uptoBulkAll {H : Type} : List (DataW H) → Nat
  | [] => 0
  | d :: r => uptoBulk d + uptoBulkAll r
def uptoBulkEntries {H : Type} : List (Lit × DataW H) → Nat
  | [] => 0
  | x :: r => uptoBulkEntry x + uptoBulkEntries r
def uptoBulkEntry {H : Type} : Lit × DataW H → Nat
  | (.string bytes, d) => bytes.length + uptoBulk d + 1
  | (_, d) => uptoBulk d + 1
 end
def uptoSmall : (H : Type) → List (DataW H) → Bool := fun _ ds => decide (uptoBulkAll ds ≤ 1048576)
def OpenSpec.upto (s : _root_.Go.ChangeSpec) : _root_.Go.OpenSpec := { _root_.Go.OpenSpec.ofChange s with cond := some uptoSmall }

/-- 'cochineallaw12.WheelWhole', WHERE WHAT IT READS IS OF BULK AT MOST 1048576: true; the input reads as it did. -/
def wheelWholeUptoRow : OpenClaim := { program := "ytjjebkgljgfecaa", sum := "0594849ff2443608edfdbdce1a49cacac7eb693ff49daa40fdbc509e61094837", func := "cochineal/cochineallaw12.WheelWhole", spec := "wheelWhole", inPlace := ["math.archTrunc", "math.Float64bits", "math.Float64frombits"], unfollowed := true, recurses := true, apart := false, narrowed := true }
def WheelWholeUptoSaid : Prop := wheelWholeUptoRow.holds Try.pinned (OpenSpec.upto wheelWholeSpec)

/-- 'cochineallaw12.WheelTurns', WHERE WHAT IT READS IS OF BULK AT MOST 1048576: true; the input reads as it did. -/
def wheelTurnsUptoRow : OpenClaim := { program := "ytjjebkgljgfecaa", sum := "0594849ff2443608edfdbdce1a49cacac7eb693ff49daa40fdbc509e61094837", func := "cochineal/cochineallaw12.WheelTurns", spec := "wheelTurns", inPlace := ["math.archTrunc", "math.Float64bits", "math.Float64frombits"], unfollowed := true, recurses := true, apart := false, narrowed := true }
def WheelTurnsUptoSaid : Prop := wheelTurnsUptoRow.holds Try.pinned (OpenSpec.upto wheelTurnsSpec)

/-- 'cochineallaw12.WheelRolls', WHERE WHAT IT READS IS OF BULK AT MOST 1048576: true; the input reads as it did. -/
def wheelRollsUptoRow : OpenClaim := { program := "ytjjebkgljgfecaa", sum := "0594849ff2443608edfdbdce1a49cacac7eb693ff49daa40fdbc509e61094837", func := "cochineal/cochineallaw12.WheelRolls", spec := "wheelRolls", inPlace := ["math.archTrunc", "math.Float64bits", "math.Float64frombits"], unfollowed := true, recurses := true, apart := false, narrowed := true }
def WheelRollsUptoSaid : Prop := wheelRollsUptoRow.holds Try.pinned (OpenSpec.upto wheelRollsSpec)

/-- 'cochineallaw12.WheelNil', WHERE WHAT IT READS IS OF BULK AT MOST 1048576: true; the input reads as it did. -/
def wheelNilUptoRow : OpenClaim := { program := "ytjjebkgljgfecaa", sum := "0594849ff2443608edfdbdce1a49cacac7eb693ff49daa40fdbc509e61094837", func := "cochineal/cochineallaw12.WheelNil", spec := "wheelNil", inPlace := ["math.archTrunc", "math.Float64bits", "math.Float64frombits"], unfollowed := true, recurses := true, apart := false, narrowed := true }
def WheelNilUptoSaid : Prop := wheelNilUptoRow.holds Try.pinned (OpenSpec.upto wheelNilSpec)

end Rows
end Go.Proofs.Ytjjebkgljgfecaa

/-
  No cell of these rows narrows 'for every input' (looked for: loops, veiled, ifaces, maps, wideKeys, modest, calm, conditions, laid).
  DERIVED. THE GIVEN ROWS OF THIS SEAT. 4 by the template 'for every input the law returns true; each argument reads behind the call as it read before'; 0 by the template 'total and deterministic' (their statements: YteciicojnodibaaTotals.lean).
  GIVEN WITH THE SEED: the statements are not yours to turn. If you find one false, say at which input.
  Laid BY PROGRAM, IN A SANDBOX (cutbox-rows.mjs): the forced cells as the released guide's own fill.sh prints them over the translation 95fd3231db5ac007… (all of the seat's roots in one cut). By AI agents, Wed Nov 11 2026. No macro, syntax, notation, axiom, sorry.
-/
import Derived.Test.YteciicojnodibaaChecked
import GoSem.Claim
import GoSem.ClaimJoined
import GoSem.ClaimMapViews
import Derived.JoinedTies
import Derived.KernelRfl
namespace Go.Proofs.Yteciicojnodibaa
/- THE CELL 'sum', in the pinned program and in every row, IS THE sha256 OF THE DUMP (.gsa) THAT YteciicojnodibaaProg.lean LOADS. Nothing in Lean hashes anything: it is a label: what it is worth is what the hold of that sum in a sandbox is worth. -/
noncomputable def Try.pinned : Pinned := { name := "yteciicojnodibaa", sum := "95fd3231db5ac007995a7f014489337063d6866d11bcb47be0e389cafa16df78", checked := Try.checked }
namespace Rows
def none {H : Type} : Left H := { results := [], args := [] }

/-- 'cochineallaw11.PortsFull': WHATEVER THE INPUT: true; the input reads as it did. -/
def portsFullSpec : ChangeSpec := { name := "portsFull", fn := fun _ => fun
  | [d1, d2, d3] => { results := [.lit (.bool true)], args := [d1, d2, d3] }
  | _ => none }
def portsFullRow : OpenClaim := { program := "yteciicojnodibaa", sum := "95fd3231db5ac007995a7f014489337063d6866d11bcb47be0e389cafa16df78", func := "cochineal/cochineallaw11.PortsFull", spec := "portsFull", apart := false }
def PortsFullSaid : Prop := portsFullRow.holds Try.pinned (OpenSpec.ofChange portsFullSpec)

/-- ITS FALSE NEIGHBOUR: 'it returns false'. Refute it at one input. -/
def portsFullWrong : ChangeSpec := { name := "portsFull", fn := fun _ => fun
  | [d1, d2, d3] => { results := [.lit (.bool false)], args := [d1, d2, d3] }
  | _ => none }
def PortsFullWrongFalsely : Prop := portsFullRow.holds Try.pinned (OpenSpec.ofChange portsFullWrong)

/-- 'cochineallaw11.PortsPlay': WHATEVER THE INPUT: true; the input reads as it did. -/
def portsPlaySpec : ChangeSpec := { name := "portsPlay", fn := fun _ => fun
  | [d1, d2, d3] => { results := [.lit (.bool true)], args := [d1, d2, d3] }
  | _ => none }
def portsPlayRow : OpenClaim := { program := "yteciicojnodibaa", sum := "95fd3231db5ac007995a7f014489337063d6866d11bcb47be0e389cafa16df78", func := "cochineal/cochineallaw11.PortsPlay", spec := "portsPlay", apart := false }
def PortsPlaySaid : Prop := portsPlayRow.holds Try.pinned (OpenSpec.ofChange portsPlaySpec)

/-- ITS FALSE NEIGHBOUR: 'it returns false'. Refute it at one input. -/
def portsPlayWrong : ChangeSpec := { name := "portsPlay", fn := fun _ => fun
  | [d1, d2, d3] => { results := [.lit (.bool false)], args := [d1, d2, d3] }
  | _ => none }
def PortsPlayWrongFalsely : Prop := portsPlayRow.holds Try.pinned (OpenSpec.ofChange portsPlayWrong)

/-- 'cochineallaw11.PortsLow': WHATEVER THE INPUT: true; the input reads as it did. -/
def portsLowSpec : ChangeSpec := { name := "portsLow", fn := fun _ => fun
  | [d1, d2, d3] => { results := [.lit (.bool true)], args := [d1, d2, d3] }
  | _ => none }
def portsLowRow : OpenClaim := { program := "yteciicojnodibaa", sum := "95fd3231db5ac007995a7f014489337063d6866d11bcb47be0e389cafa16df78", func := "cochineal/cochineallaw11.PortsLow", spec := "portsLow", unfollowed := true, recurses := true, apart := false }
def PortsLowSaid : Prop := portsLowRow.holds Try.pinned (OpenSpec.ofChange portsLowSpec)

/-- ITS FALSE NEIGHBOUR: 'it returns false'. Refute it at one input. -/
def portsLowWrong : ChangeSpec := { name := "portsLow", fn := fun _ => fun
  | [d1, d2, d3] => { results := [.lit (.bool false)], args := [d1, d2, d3] }
  | _ => none }
def PortsLowWrongFalsely : Prop := portsLowRow.holds Try.pinned (OpenSpec.ofChange portsLowWrong)

/-- 'cochineallaw11.PortsOwn': WHATEVER THE INPUT: true; the input reads as it did. -/
def portsOwnSpec : ChangeSpec := { name := "portsOwn", fn := fun _ => fun
  | [d1, d2] => { results := [.lit (.bool true)], args := [d1, d2] }
  | _ => none }
def portsOwnRow : OpenClaim := { program := "yteciicojnodibaa", sum := "95fd3231db5ac007995a7f014489337063d6866d11bcb47be0e389cafa16df78", func := "cochineal/cochineallaw11.PortsOwn", spec := "portsOwn", unfollowed := true, recurses := true, apart := false }
def PortsOwnSaid : Prop := portsOwnRow.holds Try.pinned (OpenSpec.ofChange portsOwnSpec)

/-- ITS FALSE NEIGHBOUR: 'it returns false'. Refute it at one input. -/
def portsOwnWrong : ChangeSpec := { name := "portsOwn", fn := fun _ => fun
  | [d1, d2] => { results := [.lit (.bool false)], args := [d1, d2] }
  | _ => none }
def PortsOwnWrongFalsely : Prop := portsOwnRow.holds Try.pinned (OpenSpec.ofChange portsOwnWrong)

/- THE SECOND FORM. 'bulk': how many values and letters a reading holds, each counted each time it is reached (what is shared counts as often as it is met; a slice's spare places count too). A statement '..UptoSaid' is the law's where the arguments, and the package variables that the reading takes, are together of bulk at most 1048576: NARROWER than '..Said'. Prove '..Said' where nothing that the law and all that it calls make is longer than what came in: it says more and counts as full. Else prove '..UptoSaid'. A law counts once. -/
mutual
def uptoBulk {H : Type} : DataW H → Nat
  | .lit (.string bytes) => bytes.length + 1
  | .lit _ => 1
  | .nil => 1
  | .ptr d => uptoBulk d + 1
  | .slice elems spare => uptoBulkAll elems + uptoBulkAll spare + 1
  | .agg parts => uptoBulkAll parts + 1
  | .iface _ d => uptoBulk d + 1
  | .map entries => uptoBulkEntries entries + 1
  | .held _ => 1
def uptoBulkAll {H : Type} : List (DataW H) → Nat
  | [] => 0
  | d :: r => uptoBulk d + uptoBulkAll r
def uptoBulkEntries {H : Type} : List (Lit × DataW H) → Nat
  | [] => 0
  | x :: r => uptoBulkEntry x + uptoBulkEntries r
def uptoBulkEntry {H : Type} : Lit × DataW H → Nat
  | (.string bytes, d) => bytes.length + uptoBulk d + 1
  | (_, d) => uptoBulk d + 1
 end
def uptoSmall : (H : Type) → List (DataW H) → Bool := fun _ ds => decide (uptoBulkAll ds ≤ 1048576)
def OpenSpec.upto (s : _root_.Go.ChangeSpec) : _root_.Go.OpenSpec := { _root_.Go.OpenSpec.ofChange s with cond := some uptoSmall }

/-- 'cochineallaw11.PortsFull', WHERE WHAT IT READS IS OF BULK AT MOST 1048576: true; the input reads as it did. -/
def portsFullUptoRow : OpenClaim := { program := "yteciicojnodibaa", sum := "95fd3231db5ac007995a7f014489337063d6866d11bcb47be0e389cafa16df78", func := "cochineal/cochineallaw11.PortsFull", spec := "portsFull", apart := false, narrowed := true }
def PortsFullUptoSaid : Prop := portsFullUptoRow.holds Try.pinned (OpenSpec.upto portsFullSpec)

/-- 'cochineallaw11.PortsPlay', WHERE WHAT IT READS IS OF BULK AT MOST 1048576: true; the input reads as it did. -/
def portsPlayUptoRow : OpenClaim := { program := "yteciicojnodibaa", sum := "95fd3231db5ac007995a7f014489337063d6866d11bcb47be0e389cafa16df78", func := "cochineal/cochineallaw11.PortsPlay", spec := "portsPlay", apart := false, narrowed := true }
def PortsPlayUptoSaid : Prop := portsPlayUptoRow.holds Try.pinned (OpenSpec.upto portsPlaySpec)

/-- 'cochineallaw11.PortsLow', WHERE WHAT IT READS IS OF BULK AT MOST 1048576: true; the input reads as it did. -/
def portsLowUptoRow : OpenClaim := { program := "yteciicojnodibaa", sum := "95fd3231db5ac007995a7f014489337063d6866d11bcb47be0e389cafa16df78", func := "cochineal/cochineallaw11.PortsLow", spec := "portsLow", unfollowed := true, recurses := true, apart := false, narrowed := true }
def PortsLowUptoSaid : Prop := portsLowUptoRow.holds Try.pinned (OpenSpec.upto portsLowSpec)

/-- 'cochineallaw11.PortsOwn', WHERE WHAT IT READS IS OF BULK AT MOST 1048576: true; the input reads as it did. -/
def portsOwnUptoRow : OpenClaim := { program := "yteciicojnodibaa", sum := "95fd3231db5ac007995a7f014489337063d6866d11bcb47be0e389cafa16df78", func := "cochineal/cochineallaw11.PortsOwn", spec := "portsOwn", unfollowed := true, recurses := true, apart := false, narrowed := true }
def PortsOwnUptoSaid : Prop := portsOwnUptoRow.holds Try.pinned (OpenSpec.upto portsOwnSpec)

end Rows
end Go.Proofs.Yteciicojnodibaa

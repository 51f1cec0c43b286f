/-
  No cell of these rows narrows 'for every input' (looked for: loops, veiled, ifaces, maps, wideKeys, modest, calm, conditions, laid).
  DERIVED. THE GIVEN ROWS OF THIS SEAT. 10 by the template 'for every input the law returns true; each argument reads behind the call as it read before'; 0 by the template 'total and deterministic' (their statements: YtijlmdpcbclmaaaTotals.lean).
  GIVEN WITH THE SEED: the statements are not yours to turn. If you find one false, say at which input.
  Laid BY PROGRAM, IN A SANDBOX (cutbox-rows.mjs): the forced cells as the released guide's own fill.sh prints them over the translation 577f120cff72250a… (all of the seat's roots in one cut). By AI agents, Wed Nov 11 2026. No macro, syntax, notation, axiom, sorry.
-/
import Derived.Test.YtijlmdpcbclmaaaChecked
import GoSem.Claim
import GoSem.ClaimJoined
import GoSem.ClaimMapViews
import Derived.JoinedTies
import Derived.KernelRfl
namespace Go.Proofs.Ytijlmdpcbclmaaa
/- THE CELL 'sum', in the pinned program and in every row, IS THE sha256 OF THE DUMP (.gsa) THAT YtijlmdpcbclmaaaProg.lean LOADS. Nothing in Lean hashes anything: it is a label: what it is worth is what the hold of that sum in a sandbox is worth. -/
noncomputable def Try.pinned : Pinned := { name := "ytijlmdpcbclmaaa", sum := "577f120cff72250a76b58ed5c1235195bd68e88dbf4e44418b0fad8dc0e1323a", checked := Try.checked }
namespace Rows
def none {H : Type} : Left H := { results := [], args := [] }

/-- 'cochineallaw17.RecorderApart': WHATEVER THE INPUT: true; the input reads as it did. -/
def recorderApartSpec : ChangeSpec := { name := "recorderApart", fn := fun _ => fun
  | [d1, d2] => { results := [.lit (.bool true)], args := [d1, d2] }
  | _ => none }
def recorderApartRow : OpenClaim := { program := "ytijlmdpcbclmaaa", sum := "577f120cff72250a76b58ed5c1235195bd68e88dbf4e44418b0fad8dc0e1323a", func := "cochineal/cochineallaw17.RecorderApart", spec := "recorderApart", apart := false }
def RecorderApartSaid : Prop := recorderApartRow.holds Try.pinned (OpenSpec.ofChange recorderApartSpec)

/-- ITS FALSE NEIGHBOUR: 'it returns false'. Refute it at one input. -/
def recorderApartWrong : ChangeSpec := { name := "recorderApart", fn := fun _ => fun
  | [d1, d2] => { results := [.lit (.bool false)], args := [d1, d2] }
  | _ => none }
def RecorderApartWrongFalsely : Prop := recorderApartRow.holds Try.pinned (OpenSpec.ofChange recorderApartWrong)

/-- 'cochineallaw17.RecorderBlind': WHATEVER THE INPUT: true; the input reads as it did. -/
def recorderBlindSpec : ChangeSpec := { name := "recorderBlind", fn := fun _ => fun
  | [d1, d2, d3] => { results := [.lit (.bool true)], args := [d1, d2, d3] }
  | _ => none }
def recorderBlindRow : OpenClaim := { program := "ytijlmdpcbclmaaa", sum := "577f120cff72250a76b58ed5c1235195bd68e88dbf4e44418b0fad8dc0e1323a", func := "cochineal/cochineallaw17.RecorderBlind", spec := "recorderBlind", apart := false }
def RecorderBlindSaid : Prop := recorderBlindRow.holds Try.pinned (OpenSpec.ofChange recorderBlindSpec)

/-- ITS FALSE NEIGHBOUR: 'it returns false'. Refute it at one input. -/
def recorderBlindWrong : ChangeSpec := { name := "recorderBlind", fn := fun _ => fun
  | [d1, d2, d3] => { results := [.lit (.bool false)], args := [d1, d2, d3] }
  | _ => none }
def RecorderBlindWrongFalsely : Prop := recorderBlindRow.holds Try.pinned (OpenSpec.ofChange recorderBlindWrong)

/-- 'cochineallaw10.TimerAfter': WHATEVER THE INPUT: true; the input reads as it did. -/
def timerAfterSpec : ChangeSpec := { name := "timerAfter", fn := fun _ => fun
  | [d1, d2] => { results := [.lit (.bool true)], args := [d1, d2] }
  | _ => none }
def timerAfterRow : OpenClaim := { program := "ytijlmdpcbclmaaa", sum := "577f120cff72250a76b58ed5c1235195bd68e88dbf4e44418b0fad8dc0e1323a", func := "cochineal/cochineallaw10.TimerAfter", spec := "timerAfter", apart := false }
def TimerAfterSaid : Prop := timerAfterRow.holds Try.pinned (OpenSpec.ofChange timerAfterSpec)

/-- ITS FALSE NEIGHBOUR: 'it returns false'. Refute it at one input. -/
def timerAfterWrong : ChangeSpec := { name := "timerAfter", fn := fun _ => fun
  | [d1, d2] => { results := [.lit (.bool false)], args := [d1, d2] }
  | _ => none }
def TimerAfterWrongFalsely : Prop := timerAfterRow.holds Try.pinned (OpenSpec.ofChange timerAfterWrong)

/-- 'cochineallaw10.TimerTicks': WHATEVER THE INPUT: true; the input reads as it did. -/
def timerTicksSpec : ChangeSpec := { name := "timerTicks", fn := fun _ => fun
  | [d1, d2, d3] => { results := [.lit (.bool true)], args := [d1, d2, d3] }
  | _ => none }
def timerTicksRow : OpenClaim := { program := "ytijlmdpcbclmaaa", sum := "577f120cff72250a76b58ed5c1235195bd68e88dbf4e44418b0fad8dc0e1323a", func := "cochineal/cochineallaw10.TimerTicks", spec := "timerTicks", apart := false }
def TimerTicksSaid : Prop := timerTicksRow.holds Try.pinned (OpenSpec.ofChange timerTicksSpec)

/-- ITS FALSE NEIGHBOUR: 'it returns false'. Refute it at one input. -/
def timerTicksWrong : ChangeSpec := { name := "timerTicks", fn := fun _ => fun
  | [d1, d2, d3] => { results := [.lit (.bool false)], args := [d1, d2, d3] }
  | _ => none }
def TimerTicksWrongFalsely : Prop := timerTicksRow.holds Try.pinned (OpenSpec.ofChange timerTicksWrong)

/-- 'cochineallaw10.TimerRings': WHATEVER THE INPUT: true; the input reads as it did. -/
def timerRingsSpec : ChangeSpec := { name := "timerRings", fn := fun _ => fun
  | [d1, d2, d3] => { results := [.lit (.bool true)], args := [d1, d2, d3] }
  | _ => none }
def timerRingsRow : OpenClaim := { program := "ytijlmdpcbclmaaa", sum := "577f120cff72250a76b58ed5c1235195bd68e88dbf4e44418b0fad8dc0e1323a", func := "cochineal/cochineallaw10.TimerRings", spec := "timerRings", apart := false }
def TimerRingsSaid : Prop := timerRingsRow.holds Try.pinned (OpenSpec.ofChange timerRingsSpec)

/-- ITS FALSE NEIGHBOUR: 'it returns false'. Refute it at one input. -/
def timerRingsWrong : ChangeSpec := { name := "timerRings", fn := fun _ => fun
  | [d1, d2, d3] => { results := [.lit (.bool false)], args := [d1, d2, d3] }
  | _ => none }
def TimerRingsWrongFalsely : Prop := timerRingsRow.holds Try.pinned (OpenSpec.ofChange timerRingsWrong)

/-- 'cochineallaw17.RecorderKeeps': WHATEVER THE INPUT: true; the input reads as it did. -/
def recorderKeepsSpec : ChangeSpec := { name := "recorderKeeps", fn := fun _ => fun
  | [d1, d2, d3] => { results := [.lit (.bool true)], args := [d1, d2, d3] }
  | _ => none }
def recorderKeepsRow : OpenClaim := { program := "ytijlmdpcbclmaaa", sum := "577f120cff72250a76b58ed5c1235195bd68e88dbf4e44418b0fad8dc0e1323a", func := "cochineal/cochineallaw17.RecorderKeeps", spec := "recorderKeeps", unfollowed := true, recurses := true, apart := false }
def RecorderKeepsSaid : Prop := recorderKeepsRow.holds Try.pinned (OpenSpec.ofChange recorderKeepsSpec)

/-- ITS FALSE NEIGHBOUR: 'it returns false'. Refute it at one input. -/
def recorderKeepsWrong : ChangeSpec := { name := "recorderKeeps", fn := fun _ => fun
  | [d1, d2, d3] => { results := [.lit (.bool false)], args := [d1, d2, d3] }
  | _ => none }
def RecorderKeepsWrongFalsely : Prop := recorderKeepsRow.holds Try.pinned (OpenSpec.ofChange recorderKeepsWrong)

/-- 'cochineallaw17.RecorderNil': WHATEVER THE INPUT: true; the input reads as it did. -/
def recorderNilSpec : ChangeSpec := { name := "recorderNil", fn := fun _ => fun
  | [d1, d2] => { results := [.lit (.bool true)], args := [d1, d2] }
  | _ => none }
def recorderNilRow : OpenClaim := { program := "ytijlmdpcbclmaaa", sum := "577f120cff72250a76b58ed5c1235195bd68e88dbf4e44418b0fad8dc0e1323a", func := "cochineal/cochineallaw17.RecorderNil", spec := "recorderNil", unfollowed := true, recurses := true, apart := false }
def RecorderNilSaid : Prop := recorderNilRow.holds Try.pinned (OpenSpec.ofChange recorderNilSpec)

/-- ITS FALSE NEIGHBOUR: 'it returns false'. Refute it at one input. -/
def recorderNilWrong : ChangeSpec := { name := "recorderNil", fn := fun _ => fun
  | [d1, d2] => { results := [.lit (.bool false)], args := [d1, d2] }
  | _ => none }
def RecorderNilWrongFalsely : Prop := recorderNilRow.holds Try.pinned (OpenSpec.ofChange recorderNilWrong)

/-- 'cochineallaw10.TimerCalls': WHATEVER THE INPUT: true; the input reads as it did. -/
def timerCallsSpec : ChangeSpec := { name := "timerCalls", fn := fun _ => fun
  | [d1, d2, d3] => { results := [.lit (.bool true)], args := [d1, d2, d3] }
  | _ => none }
def timerCallsRow : OpenClaim := { program := "ytijlmdpcbclmaaa", sum := "577f120cff72250a76b58ed5c1235195bd68e88dbf4e44418b0fad8dc0e1323a", func := "cochineal/cochineallaw10.TimerCalls", spec := "timerCalls", apart := false }
def TimerCallsSaid : Prop := timerCallsRow.holds Try.pinned (OpenSpec.ofChange timerCallsSpec)

/-- ITS FALSE NEIGHBOUR: 'it returns false'. Refute it at one input. -/
def timerCallsWrong : ChangeSpec := { name := "timerCalls", fn := fun _ => fun
  | [d1, d2, d3] => { results := [.lit (.bool false)], args := [d1, d2, d3] }
  | _ => none }
def TimerCallsWrongFalsely : Prop := timerCallsRow.holds Try.pinned (OpenSpec.ofChange timerCallsWrong)

/-- 'cochineallaw10.TimerNil': WHATEVER THE INPUT: true; the input reads as it did. -/
def timerNilSpec : ChangeSpec := { name := "timerNil", fn := fun _ => fun
  | [d1, d2] => { results := [.lit (.bool true)], args := [d1, d2] }
  | _ => none }
def timerNilRow : OpenClaim := { program := "ytijlmdpcbclmaaa", sum := "577f120cff72250a76b58ed5c1235195bd68e88dbf4e44418b0fad8dc0e1323a", func := "cochineal/cochineallaw10.TimerNil", spec := "timerNil", apart := false }
def TimerNilSaid : Prop := timerNilRow.holds Try.pinned (OpenSpec.ofChange timerNilSpec)

/-- ITS FALSE NEIGHBOUR: 'it returns false'. Refute it at one input. -/
def timerNilWrong : ChangeSpec := { name := "timerNil", fn := fun _ => fun
  | [d1, d2] => { results := [.lit (.bool false)], args := [d1, d2] }
  | _ => none }
def TimerNilWrongFalsely : Prop := timerNilRow.holds Try.pinned (OpenSpec.ofChange timerNilWrong)

/-- 'cochineallaw10.TimerBytes': WHATEVER THE INPUT: true; the input reads as it did. -/
def timerBytesSpec : ChangeSpec := { name := "timerBytes", fn := fun _ => fun
  | [d1, d2] => { results := [.lit (.bool true)], args := [d1, d2] }
  | _ => none }
def timerBytesRow : OpenClaim := { program := "ytijlmdpcbclmaaa", sum := "577f120cff72250a76b58ed5c1235195bd68e88dbf4e44418b0fad8dc0e1323a", func := "cochineal/cochineallaw10.TimerBytes", spec := "timerBytes", apart := false }
def TimerBytesSaid : Prop := timerBytesRow.holds Try.pinned (OpenSpec.ofChange timerBytesSpec)

/-- ITS FALSE NEIGHBOUR: 'it returns false'. Refute it at one input. -/
def timerBytesWrong : ChangeSpec := { name := "timerBytes", fn := fun _ => fun
  | [d1, d2] => { results := [.lit (.bool false)], args := [d1, d2] }
  | _ => none }
def TimerBytesWrongFalsely : Prop := timerBytesRow.holds Try.pinned (OpenSpec.ofChange timerBytesWrong)

/- THE SECOND FORM. 'bulk': how many values and letters a reading holds, each counted each time it is reached (what is shared counts as often as it is met; a slice's spare places count too). A statement '..UptoSaid' is the law's where the arguments, and the package variables that the reading takes, are together of bulk at most 1048576: NARROWER than '..Said'. Prove '..Said' where nothing that the law and all that it calls make is longer than what came in: it says more and counts as full. Else prove '..UptoSaid'. A law counts once. -/
mutual
def uptoBulk {H : Type} : DataW H → Nat
  | .lit (.string bytes) => bytes.length + 1
  | .lit _ => 1
  | .nil => 1
  | .ptr d => uptoBulk d + 1
  | .slice elems spare => uptoBulkAll elems + uptoBulkAll spare + 1
  | .agg parts => uptoBulkAll parts + 1
  | .iface _ d => uptoBulk d + 1
  | .map entries => uptoBulkEntries entries + 1
  | .held _ => 1
def uptoBulkAll {H : Type} : List (DataW H) → Nat
  | [] => 0
  | d :: r => uptoBulk d + uptoBulkAll r
def uptoBulkEntries {H : Type} : List (Lit × DataW H) → Nat
  | [] => 0
  | x :: r => uptoBulkEntry x + uptoBulkEntries r
def uptoBulkEntry {H : Type} : Lit × DataW H → Nat
  | (.string bytes, d) => bytes.length + uptoBulk d + 1
  | (_, d) => uptoBulk d + 1
 end
def uptoSmall : (H : Type) → List (DataW H) → Bool := fun _ ds => decide (uptoBulkAll ds ≤ 1048576)
def OpenSpec.upto (s : _root_.Go.ChangeSpec) : _root_.Go.OpenSpec := { _root_.Go.OpenSpec.ofChange s with cond := some uptoSmall }

/-- 'cochineallaw17.RecorderApart', WHERE WHAT IT READS IS OF BULK AT MOST 1048576: true; the input reads as it did. -/
def recorderApartUptoRow : OpenClaim := { program := "ytijlmdpcbclmaaa", sum := "577f120cff72250a76b58ed5c1235195bd68e88dbf4e44418b0fad8dc0e1323a", func := "cochineal/cochineallaw17.RecorderApart", spec := "recorderApart", apart := false, narrowed := true }
def RecorderApartUptoSaid : Prop := recorderApartUptoRow.holds Try.pinned (OpenSpec.upto recorderApartSpec)

/-- 'cochineallaw17.RecorderBlind', WHERE WHAT IT READS IS OF BULK AT MOST 1048576: true; the input reads as it did. -/
def recorderBlindUptoRow : OpenClaim := { program := "ytijlmdpcbclmaaa", sum := "577f120cff72250a76b58ed5c1235195bd68e88dbf4e44418b0fad8dc0e1323a", func := "cochineal/cochineallaw17.RecorderBlind", spec := "recorderBlind", apart := false, narrowed := true }
def RecorderBlindUptoSaid : Prop := recorderBlindUptoRow.holds Try.pinned (OpenSpec.upto recorderBlindSpec)

/-- 'cochineallaw10.TimerAfter', WHERE WHAT IT READS IS OF BULK AT MOST 1048576: true; the input reads as it did. -/
def timerAfterUptoRow : OpenClaim := { program := "ytijlmdpcbclmaaa", sum := "577f120cff72250a76b58ed5c1235195bd68e88dbf4e44418b0fad8dc0e1323a", func := "cochineal/cochineallaw10.TimerAfter", spec := "timerAfter", apart := false, narrowed := true }
def TimerAfterUptoSaid : Prop := timerAfterUptoRow.holds Try.pinned (OpenSpec.upto timerAfterSpec)

/-- 'cochineallaw10.TimerTicks', WHERE WHAT IT READS IS OF BULK AT MOST 1048576: true; the input reads as it did. -/
def timerTicksUptoRow : OpenClaim := { program := "ytijlmdpcbclmaaa", sum := "577f120cff72250a76b58ed5c1235195bd68e88dbf4e44418b0fad8dc0e1323a", func := "cochineal/cochineallaw10.TimerTicks", spec := "timerTicks", apart := false, narrowed := true }
def TimerTicksUptoSaid : Prop := timerTicksUptoRow.holds Try.pinned (OpenSpec.upto timerTicksSpec)

/-- 'cochineallaw10.TimerRings', WHERE WHAT IT READS IS OF BULK AT MOST 1048576: true; the input reads as it did. -/
def timerRingsUptoRow : OpenClaim := { program := "ytijlmdpcbclmaaa", sum := "577f120cff72250a76b58ed5c1235195bd68e88dbf4e44418b0fad8dc0e1323a", func := "cochineal/cochineallaw10.TimerRings", spec := "timerRings", apart := false, narrowed := true }
def TimerRingsUptoSaid : Prop := timerRingsUptoRow.holds Try.pinned (OpenSpec.upto timerRingsSpec)

/-- 'cochineallaw17.RecorderKeeps', WHERE WHAT IT READS IS OF BULK AT MOST 1048576: true; the input reads as it did. -/
def recorderKeepsUptoRow : OpenClaim := { program := "ytijlmdpcbclmaaa", sum := "577f120cff72250a76b58ed5c1235195bd68e88dbf4e44418b0fad8dc0e1323a", func := "cochineal/cochineallaw17.RecorderKeeps", spec := "recorderKeeps", unfollowed := true, recurses := true, apart := false, narrowed := true }
def RecorderKeepsUptoSaid : Prop := recorderKeepsUptoRow.holds Try.pinned (OpenSpec.upto recorderKeepsSpec)

/-- 'cochineallaw17.RecorderNil', WHERE WHAT IT READS IS OF BULK AT MOST 1048576: true; the input reads as it did. -/
def recorderNilUptoRow : OpenClaim := { program := "ytijlmdpcbclmaaa", sum := "577f120cff72250a76b58ed5c1235195bd68e88dbf4e44418b0fad8dc0e1323a", func := "cochineal/cochineallaw17.RecorderNil", spec := "recorderNil", unfollowed := true, recurses := true, apart := false, narrowed := true }
def RecorderNilUptoSaid : Prop := recorderNilUptoRow.holds Try.pinned (OpenSpec.upto recorderNilSpec)

/-- 'cochineallaw10.TimerCalls', WHERE WHAT IT READS IS OF BULK AT MOST 1048576: true; the input reads as it did. -/
def timerCallsUptoRow : OpenClaim := { program := "ytijlmdpcbclmaaa", sum := "577f120cff72250a76b58ed5c1235195bd68e88dbf4e44418b0fad8dc0e1323a", func := "cochineal/cochineallaw10.TimerCalls", spec := "timerCalls", apart := false, narrowed := true }
def TimerCallsUptoSaid : Prop := timerCallsUptoRow.holds Try.pinned (OpenSpec.upto timerCallsSpec)

/-- 'cochineallaw10.TimerNil', WHERE WHAT IT READS IS OF BULK AT MOST 1048576: true; the input reads as it did. -/
def timerNilUptoRow : OpenClaim := { program := "ytijlmdpcbclmaaa", sum := "577f120cff72250a76b58ed5c1235195bd68e88dbf4e44418b0fad8dc0e1323a", func := "cochineal/cochineallaw10.TimerNil", spec := "timerNil", apart := false, narrowed := true }
def TimerNilUptoSaid : Prop := timerNilUptoRow.holds Try.pinned (OpenSpec.upto timerNilSpec)

/-- 'cochineallaw10.TimerBytes', WHERE WHAT IT READS IS OF BULK AT MOST 1048576: true; the input reads as it did. -/
def timerBytesUptoRow : OpenClaim := { program := "ytijlmdpcbclmaaa", sum := "577f120cff72250a76b58ed5c1235195bd68e88dbf4e44418b0fad8dc0e1323a", func := "cochineal/cochineallaw10.TimerBytes", spec := "timerBytes", apart := false, narrowed := true }
def TimerBytesUptoSaid : Prop := timerBytesUptoRow.holds Try.pinned (OpenSpec.upto timerBytesSpec)

end Rows
end Go.Proofs.Ytijlmdpcbclmaaa

/-
  DERIVED. GIVEN WITH THE SEED: THE CARDS: each row of YtndjicomgdcfkaaDoorRows.lean that lists a variable, with what it lists TIED to the program's text (the seventh form; the later family's looks); each row that meets fmt, with fmt's text TOLD by the authors' own Lean function (tested against real Go, not proved from fmt's source: count such statements apart). THE CARD IS WHAT COUNTS. Prove the row's statement (the work); the ties are given (YtndjicomgdcfkaaDoorTie.lean); close each card by the builder's one call (the guide's Derived/Test/ToyasCard.lean, 'card_holds'). Laid BY PROGRAM, IN A SANDBOX (cutbox-door.mjs). By AI agents, Wed Nov 11 2026. No macro, syntax, notation, axiom, sorry.
-/
import Derived.Test.YtndjicomgdcfkaaDoorRows
import GoSem.ClaimSeven
namespace Go.Proofs.YtndjicomgdcfkaaDoor
namespace Rows

/-- THE TIED CARD OF 'cochineallaw16.WatchNil'. -/
def watchNilCard : Claim7 := { stood := { row := watchNilRow, standIns := [], harness := (true, "0c057e29d71927111534572195eb77ccdf4c92f1cc50cbfccb62159517b043aa"), looks := false }, kinds := [], alts := [], laidByText := true, laidKinds := [.data, .data, .data, .data], laidTests := true, laidLooks := .later }
def WatchNilCardSaid : Prop := Claim7.holds Tryd.pinned (.plain (OpenSpec.ofChange watchNilSpec)) watchNilCard

/-- THE TIED CARD OF 'cochineallaw16.WatchSticks'. -/
def watchSticksCard : Claim7 := { stood := { row := watchSticksRow, standIns := [], harness := (true, "0c057e29d71927111534572195eb77ccdf4c92f1cc50cbfccb62159517b043aa"), looks := false }, kinds := [], alts := [], laidByText := true, laidKinds := [.data, .data, .data, .data], laidTests := true, laidLooks := .later }
def WatchSticksCardSaid : Prop := Claim7.holds Tryd.pinned (.plain (OpenSpec.ofChange watchSticksSpec)) watchSticksCard

/-- THE TIED CARD OF 'cochineallaw16.WatchQuiet'. -/
def watchQuietCard : Claim7 := { stood := { row := watchQuietRow, standIns := [], harness := (true, "0c057e29d71927111534572195eb77ccdf4c92f1cc50cbfccb62159517b043aa"), looks := false }, kinds := [], alts := [], laidByText := true, laidKinds := [.data, .data, .data, .data], laidTests := true, laidLooks := .later }
def WatchQuietCardSaid : Prop := Claim7.holds Tryd.pinned (.plain (OpenSpec.ofChange watchQuietSpec)) watchQuietCard

/-- THE TIED CARD OF 'cochineallaw16.WatchPlays'. -/
def watchPlaysCard : Claim7 := { stood := { row := watchPlaysRow, standIns := [], harness := (true, "0c057e29d71927111534572195eb77ccdf4c92f1cc50cbfccb62159517b043aa"), looks := false }, kinds := [], alts := [], laidByText := true, laidKinds := [.data, .data, .data, .data], laidTests := true, laidLooks := .later }
def WatchPlaysCardSaid : Prop := Claim7.holds Tryd.pinned (.plain (OpenSpec.ofChange watchPlaysSpec)) watchPlaysCard

/-- THE SECOND FORM's CARD OF 'cochineallaw16.WatchNil'. -/
def watchNilUptoCard : Claim7 := { stood := { row := watchNilUptoRow, standIns := [], harness := (true, "0c057e29d71927111534572195eb77ccdf4c92f1cc50cbfccb62159517b043aa"), looks := false }, kinds := [], alts := [], laidByText := true, laidKinds := [.data, .data, .data, .data], laidTests := true, laidLooks := .later }
def WatchNilUptoCardSaid : Prop := Claim7.holds Tryd.pinned (.plain (OpenSpec.upto watchNilSpec)) watchNilUptoCard

/-- THE SECOND FORM's CARD OF 'cochineallaw16.WatchSticks'. -/
def watchSticksUptoCard : Claim7 := { stood := { row := watchSticksUptoRow, standIns := [], harness := (true, "0c057e29d71927111534572195eb77ccdf4c92f1cc50cbfccb62159517b043aa"), looks := false }, kinds := [], alts := [], laidByText := true, laidKinds := [.data, .data, .data, .data], laidTests := true, laidLooks := .later }
def WatchSticksUptoCardSaid : Prop := Claim7.holds Tryd.pinned (.plain (OpenSpec.upto watchSticksSpec)) watchSticksUptoCard

/-- THE SECOND FORM's CARD OF 'cochineallaw16.WatchQuiet'. -/
def watchQuietUptoCard : Claim7 := { stood := { row := watchQuietUptoRow, standIns := [], harness := (true, "0c057e29d71927111534572195eb77ccdf4c92f1cc50cbfccb62159517b043aa"), looks := false }, kinds := [], alts := [], laidByText := true, laidKinds := [.data, .data, .data, .data], laidTests := true, laidLooks := .later }
def WatchQuietUptoCardSaid : Prop := Claim7.holds Tryd.pinned (.plain (OpenSpec.upto watchQuietSpec)) watchQuietUptoCard

/-- THE SECOND FORM's CARD OF 'cochineallaw16.WatchPlays'. -/
def watchPlaysUptoCard : Claim7 := { stood := { row := watchPlaysUptoRow, standIns := [], harness := (true, "0c057e29d71927111534572195eb77ccdf4c92f1cc50cbfccb62159517b043aa"), looks := false }, kinds := [], alts := [], laidByText := true, laidKinds := [.data, .data, .data, .data], laidTests := true, laidLooks := .later }
def WatchPlaysUptoCardSaid : Prop := Claim7.holds Tryd.pinned (.plain (OpenSpec.upto watchPlaysSpec)) watchPlaysUptoCard
end Rows
end Go.Proofs.YtndjicomgdcfkaaDoor

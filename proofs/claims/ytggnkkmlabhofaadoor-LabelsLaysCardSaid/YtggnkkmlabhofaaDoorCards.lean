/-
  DERIVED. GIVEN WITH THE SEED: THE CARDS: each row of YtggnkkmlabhofaaDoorRows.lean that lists a variable, with what it lists TIED to the program's text (the seventh form; the later family's looks); each row that meets fmt, with fmt's text TOLD by the authors' own Lean function (tested against real Go, not proved from fmt's source: count such statements apart). THE CARD IS WHAT COUNTS. Prove the row's statement (the work); the ties are given (YtggnkkmlabhofaaDoorTie.lean); close each card by the builder's one call (the guide's Derived/Test/ToyasCard.lean, 'card_holds'). Laid BY PROGRAM, IN A SANDBOX (cutbox-door.mjs). By AI agents, Wed Nov 11 2026. No macro, syntax, notation, axiom, sorry.
-/
import Derived.Test.YtggnkkmlabhofaaDoorRows
import GoSem.ClaimSeven
namespace Go.Proofs.YtggnkkmlabhofaaDoor
namespace Rows

/-- THE TIED CARD OF 'cochineallaw16.WatchTexts'. -/
def watchTextsCard : Claim7 := { stood := { row := watchTextsRow, standIns := [], harness := (true, "0d3f320e33a82b5d38b864db20abcf5b576a2a0b187aa4a1b42fd08fac999cd2"), looks := false }, kinds := [], alts := [], laidByText := true, laidKinds := [.data, .data, .data, .data], laidTests := true, laidLooks := .later }
def WatchTextsCardSaid : Prop := Claim7.holds Tryd.pinned (.plain (OpenSpec.ofChange watchTextsSpec)) watchTextsCard

/-- THE TIED CARD OF 'cochineallaw20.CompareTexts'. -/
def compareTextsCard : Claim7 := { stood := { row := compareTextsRow, standIns := [], harness := (true, "0d3f320e33a82b5d38b864db20abcf5b576a2a0b187aa4a1b42fd08fac999cd2"), looks := false }, kinds := [], alts := [], laidByText := true, laidKinds := [.data, .data, .data], laidTests := true, laidLooks := .later }
def CompareTextsCardSaid : Prop := Claim7.holds Tryd.pinned (.plain (OpenSpec.ofChange compareTextsSpec)) compareTextsCard

/-- THE TIED CARD OF 'cochineallaw09.LabelsLow'. -/
def labelsLowCard : Claim7 := { stood := { row := labelsLowRow, standIns := [], harness := (true, "0d3f320e33a82b5d38b864db20abcf5b576a2a0b187aa4a1b42fd08fac999cd2"), looks := false }, kinds := [], alts := [], laidByText := true, laidKinds := [.widerDeep], laidTests := true, laidLooks := .later }
def LabelsLowCardSaid : Prop := Claim7.holds Tryd.pinned (.plain (OpenSpec.ofChange labelsLowSpec)) labelsLowCard

/-- THE TIED CARD OF 'cochineallaw09.LabelsNil'. -/
def labelsNilCard : Claim7 := { stood := { row := labelsNilRow, standIns := [], harness := (true, "0d3f320e33a82b5d38b864db20abcf5b576a2a0b187aa4a1b42fd08fac999cd2"), looks := false }, kinds := [], alts := [], laidByText := true, laidKinds := [.widerDeep], laidTests := true, laidLooks := .later }
def LabelsNilCardSaid : Prop := Claim7.holds Tryd.pinned (.plain (OpenSpec.ofChange labelsNilSpec)) labelsNilCard

/-- THE TIED CARD OF 'cochineallaw09.LabelsLays'. -/
def labelsLaysCard : Claim7 := { stood := { row := labelsLaysRow, standIns := [], harness := (true, "0d3f320e33a82b5d38b864db20abcf5b576a2a0b187aa4a1b42fd08fac999cd2"), looks := false }, kinds := [], alts := [], laidByText := true, laidKinds := [.widerDeep], laidTests := true, laidLooks := .later }
def LabelsLaysCardSaid : Prop := Claim7.holds Tryd.pinned (.plain (OpenSpec.ofChange labelsLaysSpec)) labelsLaysCard

/-- THE SECOND FORM's CARD OF 'cochineallaw16.WatchTexts'. -/
def watchTextsUptoCard : Claim7 := { stood := { row := watchTextsUptoRow, standIns := [], harness := (true, "0d3f320e33a82b5d38b864db20abcf5b576a2a0b187aa4a1b42fd08fac999cd2"), looks := false }, kinds := [], alts := [], laidByText := true, laidKinds := [.data, .data, .data, .data], laidTests := true, laidLooks := .later }
def WatchTextsUptoCardSaid : Prop := Claim7.holds Tryd.pinned (.plain (OpenSpec.upto watchTextsSpec)) watchTextsUptoCard

/-- THE SECOND FORM's CARD OF 'cochineallaw20.CompareTexts'. -/
def compareTextsUptoCard : Claim7 := { stood := { row := compareTextsUptoRow, standIns := [], harness := (true, "0d3f320e33a82b5d38b864db20abcf5b576a2a0b187aa4a1b42fd08fac999cd2"), looks := false }, kinds := [], alts := [], laidByText := true, laidKinds := [.data, .data, .data], laidTests := true, laidLooks := .later }
def CompareTextsUptoCardSaid : Prop := Claim7.holds Tryd.pinned (.plain (OpenSpec.upto compareTextsSpec)) compareTextsUptoCard

/-- THE SECOND FORM's CARD OF 'cochineallaw09.LabelsLow'. -/
def labelsLowUptoCard : Claim7 := { stood := { row := labelsLowUptoRow, standIns := [], harness := (true, "0d3f320e33a82b5d38b864db20abcf5b576a2a0b187aa4a1b42fd08fac999cd2"), looks := false }, kinds := [], alts := [], laidByText := true, laidKinds := [.widerDeep], laidTests := true, laidLooks := .later }
def LabelsLowUptoCardSaid : Prop := Claim7.holds Tryd.pinned (.plain (OpenSpec.upto labelsLowSpec)) labelsLowUptoCard

/-- THE SECOND FORM's CARD OF 'cochineallaw09.LabelsNil'. -/
def labelsNilUptoCard : Claim7 := { stood := { row := labelsNilUptoRow, standIns := [], harness := (true, "0d3f320e33a82b5d38b864db20abcf5b576a2a0b187aa4a1b42fd08fac999cd2"), looks := false }, kinds := [], alts := [], laidByText := true, laidKinds := [.widerDeep], laidTests := true, laidLooks := .later }
def LabelsNilUptoCardSaid : Prop := Claim7.holds Tryd.pinned (.plain (OpenSpec.upto labelsNilSpec)) labelsNilUptoCard

/-- THE SECOND FORM's CARD OF 'cochineallaw09.LabelsLays'. -/
def labelsLaysUptoCard : Claim7 := { stood := { row := labelsLaysUptoRow, standIns := [], harness := (true, "0d3f320e33a82b5d38b864db20abcf5b576a2a0b187aa4a1b42fd08fac999cd2"), looks := false }, kinds := [], alts := [], laidByText := true, laidKinds := [.widerDeep], laidTests := true, laidLooks := .later }
def LabelsLaysUptoCardSaid : Prop := Claim7.holds Tryd.pinned (.plain (OpenSpec.upto labelsLaysSpec)) labelsLaysUptoCard
end Rows
end Go.Proofs.YtggnkkmlabhofaaDoor

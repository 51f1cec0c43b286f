/-
  DERIVED. GIVEN WITH THE SEED: THE CARDS: each row of YtlmcdbegnjikdaaDoorRows.lean that lists a variable, with what it lists TIED to the program's text (the seventh form; the later family's looks); each row that meets fmt, with fmt's text TOLD by the authors' own Lean function (tested against real Go, not proved from fmt's source: count such statements apart). THE CARD IS WHAT COUNTS. Prove the row's statement (the work); the ties are given (YtlmcdbegnjikdaaDoorTie.lean); close each card by the builder's one call (the guide's Derived/Test/ToyasCard.lean, 'card_holds'). Laid BY PROGRAM, IN A SANDBOX (cutbox-door.mjs). By AI agents, Wed Nov 11 2026. No macro, syntax, notation, axiom, sorry.
-/
import Derived.Test.YtlmcdbegnjikdaaDoorRows
import GoSem.ClaimSeven
namespace Go.Proofs.YtlmcdbegnjikdaaDoor
namespace Rows

/-- THE TIED CARD OF 'cochineallaw06.LexerScans'. -/
def lexerScansCard : Claim7 := { stood := { row := lexerScansRow, standIns := [], harness := (true, "8f1b420017393dbe5fa4b48132bd99d56ade6b2ae7aa0c79910ab6c92ea9f7e2"), looks := false }, kinds := [], alts := [], laidByText := true, laidKinds := [.data, .pinned], laidTests := true, laidLooks := .later }
def LexerScansCardSaid : Prop := Claim7.holds Tryd.pinned (.plain (OpenSpec.ofChange lexerScansSpec)) lexerScansCard

/-- THE TIED CARD OF 'cochineallaw06.LexerBlanks'. -/
def lexerBlanksCard : Claim7 := { stood := { row := lexerBlanksRow, standIns := [], harness := (true, "8f1b420017393dbe5fa4b48132bd99d56ade6b2ae7aa0c79910ab6c92ea9f7e2"), looks := false }, kinds := [], alts := [], laidByText := true, laidKinds := [.data, .pinned], laidTests := true, laidLooks := .later }
def LexerBlanksCardSaid : Prop := Claim7.holds Tryd.pinned (.plain (OpenSpec.ofChange lexerBlanksSpec)) lexerBlanksCard

/-- THE TIED CARD OF 'cochineallaw06.LexerPlaces'. -/
def lexerPlacesCard : Claim7 := { stood := { row := lexerPlacesRow, standIns := [], harness := (true, "8f1b420017393dbe5fa4b48132bd99d56ade6b2ae7aa0c79910ab6c92ea9f7e2"), looks := false }, kinds := [], alts := [], laidByText := true, laidKinds := [.data, .pinned], laidTests := true, laidLooks := .later }
def LexerPlacesCardSaid : Prop := Claim7.holds Tryd.pinned (.plain (OpenSpec.ofChange lexerPlacesSpec)) lexerPlacesCard

/-- THE TIED CARD OF 'cochineallaw06.LexerTexts'. -/
def lexerTextsCard : Claim7 := { stood := { row := lexerTextsRow, standIns := [], harness := (true, "8f1b420017393dbe5fa4b48132bd99d56ade6b2ae7aa0c79910ab6c92ea9f7e2"), looks := false }, kinds := [], alts := [], laidByText := true, laidKinds := [.data, .pinned], laidTests := true, laidLooks := .later }
def LexerTextsCardSaid : Prop := Claim7.holds Tryd.pinned (.plain (OpenSpec.ofChange lexerTextsSpec)) lexerTextsCard

/-- THE SECOND FORM's CARD OF 'cochineallaw06.LexerScans'. -/
def lexerScansUptoCard : Claim7 := { stood := { row := lexerScansUptoRow, standIns := [], harness := (true, "8f1b420017393dbe5fa4b48132bd99d56ade6b2ae7aa0c79910ab6c92ea9f7e2"), looks := false }, kinds := [], alts := [], laidByText := true, laidKinds := [.data, .pinned], laidTests := true, laidLooks := .later }
def LexerScansUptoCardSaid : Prop := Claim7.holds Tryd.pinned (.plain (OpenSpec.upto lexerScansSpec)) lexerScansUptoCard

/-- THE SECOND FORM's CARD OF 'cochineallaw06.LexerBlanks'. -/
def lexerBlanksUptoCard : Claim7 := { stood := { row := lexerBlanksUptoRow, standIns := [], harness := (true, "8f1b420017393dbe5fa4b48132bd99d56ade6b2ae7aa0c79910ab6c92ea9f7e2"), looks := false }, kinds := [], alts := [], laidByText := true, laidKinds := [.data, .pinned], laidTests := true, laidLooks := .later }
def LexerBlanksUptoCardSaid : Prop := Claim7.holds Tryd.pinned (.plain (OpenSpec.upto lexerBlanksSpec)) lexerBlanksUptoCard

/-- THE SECOND FORM's CARD OF 'cochineallaw06.LexerPlaces'. -/
def lexerPlacesUptoCard : Claim7 := { stood := { row := lexerPlacesUptoRow, standIns := [], harness := (true, "8f1b420017393dbe5fa4b48132bd99d56ade6b2ae7aa0c79910ab6c92ea9f7e2"), looks := false }, kinds := [], alts := [], laidByText := true, laidKinds := [.data, .pinned], laidTests := true, laidLooks := .later }
def LexerPlacesUptoCardSaid : Prop := Claim7.holds Tryd.pinned (.plain (OpenSpec.upto lexerPlacesSpec)) lexerPlacesUptoCard

/-- THE SECOND FORM's CARD OF 'cochineallaw06.LexerTexts'. -/
def lexerTextsUptoCard : Claim7 := { stood := { row := lexerTextsUptoRow, standIns := [], harness := (true, "8f1b420017393dbe5fa4b48132bd99d56ade6b2ae7aa0c79910ab6c92ea9f7e2"), looks := false }, kinds := [], alts := [], laidByText := true, laidKinds := [.data, .pinned], laidTests := true, laidLooks := .later }
def LexerTextsUptoCardSaid : Prop := Claim7.holds Tryd.pinned (.plain (OpenSpec.upto lexerTextsSpec)) lexerTextsUptoCard
end Rows
end Go.Proofs.YtlmcdbegnjikdaaDoor

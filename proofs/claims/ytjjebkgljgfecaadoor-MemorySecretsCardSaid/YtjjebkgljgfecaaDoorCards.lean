/-
  DERIVED. GIVEN WITH THE SEED: THE CARDS: each row of YtjjebkgljgfecaaDoorRows.lean that lists a variable, with what it lists TIED to the program's text (the seventh form; the later family's looks); each row that meets fmt, with fmt's text TOLD by the authors' own Lean function (tested against real Go, not proved from fmt's source: count such statements apart). THE CARD IS WHAT COUNTS. Prove the row's statement (the work); the ties are given (YtjjebkgljgfecaaDoorTie.lean); close each card by the builder's one call (the guide's Derived/Test/ToyasCard.lean, 'card_holds'). Laid BY PROGRAM, IN A SANDBOX (cutbox-door.mjs). By AI agents, Wed Nov 11 2026. No macro, syntax, notation, axiom, sorry.
-/
import Derived.Test.YtjjebkgljgfecaaDoorRows
import GoSem.ClaimSeven
namespace Go.Proofs.YtjjebkgljgfecaaDoor
namespace Rows

/-- THE TIED CARD OF 'cochineallaw08.MemoryKeeps'. -/
def memoryKeepsCard : Claim7 := { stood := { row := memoryKeepsRow, standIns := [], harness := (true, "72eb3c6664d027af4c0ecb4c058a39a8e32decf9b581ce40138599da6bf44fb5"), looks := false }, kinds := [], alts := [], laidByText := true, laidKinds := [.widerDeep], laidTests := true, laidLooks := .later }
def MemoryKeepsCardSaid : Prop := Claim7.holds Tryd.pinned (.plain (OpenSpec.ofChange memoryKeepsSpec)) memoryKeepsCard

/-- THE TIED CARD OF 'cochineallaw08.MemoryPlays'. -/
def memoryPlaysCard : Claim7 := { stood := { row := memoryPlaysRow, standIns := [], harness := (true, "72eb3c6664d027af4c0ecb4c058a39a8e32decf9b581ce40138599da6bf44fb5"), looks := false }, kinds := [], alts := [], laidByText := true, laidKinds := [.widerDeep], laidTests := true, laidLooks := .later }
def MemoryPlaysCardSaid : Prop := Claim7.holds Tryd.pinned (.plain (OpenSpec.ofChange memoryPlaysSpec)) memoryPlaysCard

/-- THE TIED CARD OF 'cochineallaw08.MemoryLoads'. -/
def memoryLoadsCard : Claim7 := { stood := { row := memoryLoadsRow, standIns := [], harness := (true, "72eb3c6664d027af4c0ecb4c058a39a8e32decf9b581ce40138599da6bf44fb5"), looks := false }, kinds := [], alts := [], laidByText := true, laidKinds := [.widerDeep], laidTests := true, laidLooks := .later }
def MemoryLoadsCardSaid : Prop := Claim7.holds Tryd.pinned (.plain (OpenSpec.ofChange memoryLoadsSpec)) memoryLoadsCard

/-- THE TIED CARD OF 'cochineallaw08.MemorySecrets'. -/
def memorySecretsCard : Claim7 := { stood := { row := memorySecretsRow, standIns := [], harness := (true, "72eb3c6664d027af4c0ecb4c058a39a8e32decf9b581ce40138599da6bf44fb5"), looks := false }, kinds := [], alts := [], laidByText := true, laidKinds := [.widerDeep], laidTests := true, laidLooks := .later }
def MemorySecretsCardSaid : Prop := Claim7.holds Tryd.pinned (.plain (OpenSpec.ofChange memorySecretsSpec)) memorySecretsCard

/-- THE TIED CARD OF 'cochineallaw08.MemoryNil'. -/
def memoryNilCard : Claim7 := { stood := { row := memoryNilRow, standIns := [], harness := (true, "72eb3c6664d027af4c0ecb4c058a39a8e32decf9b581ce40138599da6bf44fb5"), looks := false }, kinds := [], alts := [], laidByText := true, laidKinds := [.widerDeep], laidTests := true, laidLooks := .later }
def MemoryNilCardSaid : Prop := Claim7.holds Tryd.pinned (.plain (OpenSpec.ofChange memoryNilSpec)) memoryNilCard

/-- THE SECOND FORM's CARD OF 'cochineallaw08.MemoryKeeps'. -/
def memoryKeepsUptoCard : Claim7 := { stood := { row := memoryKeepsUptoRow, standIns := [], harness := (true, "72eb3c6664d027af4c0ecb4c058a39a8e32decf9b581ce40138599da6bf44fb5"), looks := false }, kinds := [], alts := [], laidByText := true, laidKinds := [.widerDeep], laidTests := true, laidLooks := .later }
def MemoryKeepsUptoCardSaid : Prop := Claim7.holds Tryd.pinned (.plain (OpenSpec.upto memoryKeepsSpec)) memoryKeepsUptoCard

/-- THE SECOND FORM's CARD OF 'cochineallaw08.MemoryPlays'. -/
def memoryPlaysUptoCard : Claim7 := { stood := { row := memoryPlaysUptoRow, standIns := [], harness := (true, "72eb3c6664d027af4c0ecb4c058a39a8e32decf9b581ce40138599da6bf44fb5"), looks := false }, kinds := [], alts := [], laidByText := true, laidKinds := [.widerDeep], laidTests := true, laidLooks := .later }
def MemoryPlaysUptoCardSaid : Prop := Claim7.holds Tryd.pinned (.plain (OpenSpec.upto memoryPlaysSpec)) memoryPlaysUptoCard

/-- THE SECOND FORM's CARD OF 'cochineallaw08.MemoryLoads'. -/
def memoryLoadsUptoCard : Claim7 := { stood := { row := memoryLoadsUptoRow, standIns := [], harness := (true, "72eb3c6664d027af4c0ecb4c058a39a8e32decf9b581ce40138599da6bf44fb5"), looks := false }, kinds := [], alts := [], laidByText := true, laidKinds := [.widerDeep], laidTests := true, laidLooks := .later }
def MemoryLoadsUptoCardSaid : Prop := Claim7.holds Tryd.pinned (.plain (OpenSpec.upto memoryLoadsSpec)) memoryLoadsUptoCard

/-- THE SECOND FORM's CARD OF 'cochineallaw08.MemorySecrets'. -/
def memorySecretsUptoCard : Claim7 := { stood := { row := memorySecretsUptoRow, standIns := [], harness := (true, "72eb3c6664d027af4c0ecb4c058a39a8e32decf9b581ce40138599da6bf44fb5"), looks := false }, kinds := [], alts := [], laidByText := true, laidKinds := [.widerDeep], laidTests := true, laidLooks := .later }
def MemorySecretsUptoCardSaid : Prop := Claim7.holds Tryd.pinned (.plain (OpenSpec.upto memorySecretsSpec)) memorySecretsUptoCard

/-- THE SECOND FORM's CARD OF 'cochineallaw08.MemoryNil'. -/
def memoryNilUptoCard : Claim7 := { stood := { row := memoryNilUptoRow, standIns := [], harness := (true, "72eb3c6664d027af4c0ecb4c058a39a8e32decf9b581ce40138599da6bf44fb5"), looks := false }, kinds := [], alts := [], laidByText := true, laidKinds := [.widerDeep], laidTests := true, laidLooks := .later }
def MemoryNilUptoCardSaid : Prop := Claim7.holds Tryd.pinned (.plain (OpenSpec.upto memoryNilSpec)) memoryNilUptoCard
end Rows
end Go.Proofs.YtjjebkgljgfecaaDoor

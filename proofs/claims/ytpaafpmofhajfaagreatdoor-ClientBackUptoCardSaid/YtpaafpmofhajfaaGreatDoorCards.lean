/-
  DERIVED. GIVEN WITH THE SEED: THE CARDS: each row of YtpaafpmofhajfaaGreatDoorRows.lean that lists a variable, with what it lists TIED to the program's text (the seventh form; the later family's looks); each row that meets fmt, with fmt's text TOLD by the authors' own Lean function (tested against real Go, not proved from fmt's source: count such statements apart). THE CARD IS WHAT COUNTS. Prove the row's statement (the work); the ties are given (YtpaafpmofhajfaaGreatDoorTie.lean); close each card by the builder's one call (the guide's Derived/Test/ToyasCard.lean, 'card_holds'). Laid BY PROGRAM, IN A SANDBOX (cutbox-door.mjs). By AI agents, Wed Nov 11 2026. No macro, syntax, notation, axiom, sorry.
-/
import Derived.Test.YtpaafpmofhajfaaGreatDoorRows
import GoSem.ClaimSeven
namespace Go.Proofs.YtpaafpmofhajfaaGreatDoor
namespace Rows

/-- THE TIED CARD OF 'lampbearerkeep.TxBack'. -/
def txBackCard : Claim7 := { stood := { row := txBackRow, standIns := [], harness := (true, "0249ce6a5750eb46b474d53834222afa817581ea36f693dd0294b6850ea5b5ce"), looks := true }, kinds := [], alts := [], laidByText := true, laidKinds := [.data, .data, .data], laidTests := true, laidLooks := .later }
def TxBackCardSaid : Prop := Claim7.holds Tryz.pinned (.plain (OpenSpec.ofChange txBackSpec)) txBackCard

/-- THE TIED CARD OF 'lampbearerkeep.ClientBack'. -/
def clientBackCard : Claim7 := { stood := { row := clientBackRow, standIns := [], harness := (true, "0249ce6a5750eb46b474d53834222afa817581ea36f693dd0294b6850ea5b5ce"), looks := true }, kinds := [], alts := [], laidByText := true, laidKinds := [.data, .data, .data], laidTests := true, laidLooks := .later }
def ClientBackCardSaid : Prop := Claim7.holds Tryz.pinned (.plain (OpenSpec.ofChange clientBackSpec)) clientBackCard

/-- THE TIED CARD OF 'lampbearerkeep.BlockFormBack'. -/
def blockFormBackCard : Claim7 := { stood := { row := blockFormBackRow, standIns := [], harness := (true, "0249ce6a5750eb46b474d53834222afa817581ea36f693dd0294b6850ea5b5ce"), looks := true }, kinds := [], alts := [], laidByText := true, laidKinds := [.data, .data, .data], laidTests := true, laidLooks := .later }
def BlockFormBackCardSaid : Prop := Claim7.holds Tryz.pinned (.plain (OpenSpec.ofChange blockFormBackSpec)) blockFormBackCard

/-- THE SECOND FORM's CARD OF 'lampbearerkeep.TxBack'. -/
def txBackUptoCard : Claim7 := { stood := { row := txBackUptoRow, standIns := [], harness := (true, "0249ce6a5750eb46b474d53834222afa817581ea36f693dd0294b6850ea5b5ce"), looks := true }, kinds := [], alts := [], laidByText := true, laidKinds := [.data, .data, .data], laidTests := true, laidLooks := .later }
def TxBackUptoCardSaid : Prop := Claim7.holds Tryz.pinned (.plain (OpenSpec.upto txBackSpec)) txBackUptoCard

/-- THE SECOND FORM's CARD OF 'lampbearerkeep.ClientBack'. -/
def clientBackUptoCard : Claim7 := { stood := { row := clientBackUptoRow, standIns := [], harness := (true, "0249ce6a5750eb46b474d53834222afa817581ea36f693dd0294b6850ea5b5ce"), looks := true }, kinds := [], alts := [], laidByText := true, laidKinds := [.data, .data, .data], laidTests := true, laidLooks := .later }
def ClientBackUptoCardSaid : Prop := Claim7.holds Tryz.pinned (.plain (OpenSpec.upto clientBackSpec)) clientBackUptoCard

/-- THE SECOND FORM's CARD OF 'lampbearerkeep.BlockFormBack'. -/
def blockFormBackUptoCard : Claim7 := { stood := { row := blockFormBackUptoRow, standIns := [], harness := (true, "0249ce6a5750eb46b474d53834222afa817581ea36f693dd0294b6850ea5b5ce"), looks := true }, kinds := [], alts := [], laidByText := true, laidKinds := [.data, .data, .data], laidTests := true, laidLooks := .later }
def BlockFormBackUptoCardSaid : Prop := Claim7.holds Tryz.pinned (.plain (OpenSpec.upto blockFormBackSpec)) blockFormBackUptoCard
end Rows
end Go.Proofs.YtpaafpmofhajfaaGreatDoor

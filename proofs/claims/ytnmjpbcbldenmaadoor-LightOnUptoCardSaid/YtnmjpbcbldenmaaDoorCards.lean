/-
  DERIVED. GIVEN WITH THE SEED: THE CARDS: each row of YtnmjpbcbldenmaaDoorRows.lean that lists a variable, with what it lists TIED to the program's text (the seventh form; the later family's looks); each row that meets fmt, with fmt's text TOLD by the authors' own Lean function (tested against real Go, not proved from fmt's source: count such statements apart). THE CARD IS WHAT COUNTS. Prove the row's statement (the work); the ties are given (YtnmjpbcbldenmaaDoorTie.lean); close each card by the builder's one call (the guide's Derived/Test/ToyasCard.lean, 'card_holds'). Laid BY PROGRAM, IN A SANDBOX (cutbox-door.mjs). By AI agents, Wed Nov 11 2026. No macro, syntax, notation, axiom, sorry.
-/
import Derived.Test.YtnmjpbcbldenmaaDoorRows
import GoSem.ClaimSeven
namespace Go.Proofs.YtnmjpbcbldenmaaDoor
namespace Rows

/-- THE TIED CARD OF 'lampbearerkeep.SeatsApart'. -/
def seatsApartCard : Claim7 := { stood := { row := seatsApartRow, standIns := [], harness := (true, "88a9295058202e05c6a98da6c75fb332ae39bc1ea36683f2e6098a83034c256f"), looks := false }, kinds := [], alts := [], laidByText := true, laidKinds := [.data], laidTests := true, laidLooks := .later }
def SeatsApartCardSaid : Prop := Claim7.holds Tryd.pinned (.plain (OpenSpec.ofChange seatsApartSpec)) seatsApartCard

/-- THE TIED CARD OF 'lampbearerkeep.LightOn'. -/
def lightOnCard : Claim7 := { stood := { row := lightOnRow, standIns := [], harness := (true, "88a9295058202e05c6a98da6c75fb332ae39bc1ea36683f2e6098a83034c256f"), looks := false }, kinds := [], alts := [], laidByText := true, laidKinds := [.data], laidTests := true, laidLooks := .later }
def LightOnCardSaid : Prop := Claim7.holds Tryd.pinned (.plain (OpenSpec.ofChange lightOnSpec)) lightOnCard

/-- THE SECOND FORM's CARD OF 'lampbearerkeep.SeatsApart'. -/
def seatsApartUptoCard : Claim7 := { stood := { row := seatsApartUptoRow, standIns := [], harness := (true, "88a9295058202e05c6a98da6c75fb332ae39bc1ea36683f2e6098a83034c256f"), looks := false }, kinds := [], alts := [], laidByText := true, laidKinds := [.data], laidTests := true, laidLooks := .later }
def SeatsApartUptoCardSaid : Prop := Claim7.holds Tryd.pinned (.plain (OpenSpec.upto seatsApartSpec)) seatsApartUptoCard

/-- THE SECOND FORM's CARD OF 'lampbearerkeep.LightOn'. -/
def lightOnUptoCard : Claim7 := { stood := { row := lightOnUptoRow, standIns := [], harness := (true, "88a9295058202e05c6a98da6c75fb332ae39bc1ea36683f2e6098a83034c256f"), looks := false }, kinds := [], alts := [], laidByText := true, laidKinds := [.data], laidTests := true, laidLooks := .later }
def LightOnUptoCardSaid : Prop := Claim7.holds Tryd.pinned (.plain (OpenSpec.upto lightOnSpec)) lightOnUptoCard
end Rows
end Go.Proofs.YtnmjpbcbldenmaaDoor

/-
  DERIVED. GIVEN WITH THE SEED: THE CARDS: each row of YtgioofknlbdfjaaDoorRows.lean that lists a variable, with what it lists TIED to the program's text (the seventh form; the later family's looks); each row that meets fmt, with fmt's text TOLD by the authors' own Lean function (tested against real Go, not proved from fmt's source: count such statements apart). THE CARD IS WHAT COUNTS. Prove the row's statement (the work); the ties are given (YtgioofknlbdfjaaDoorTie.lean); close each card by the builder's one call (the guide's Derived/Test/ToyasCard.lean, 'card_holds'). Laid BY PROGRAM, IN A SANDBOX (cutbox-door.mjs). By AI agents, Wed Nov 11 2026. No macro, syntax, notation, axiom, sorry.
-/
import Derived.Test.YtgioofknlbdfjaaDoorRows
import GoSem.ClaimSeven
namespace Go.Proofs.YtgioofknlbdfjaaDoor
namespace Rows

/-- THE TIED CARD OF 'lampbearerkeep.SeatsMeet'. -/
def seatsMeetCard : Claim7 := { stood := { row := seatsMeetRow, standIns := [], harness := (true, "1fbb1fac2677964b65aea11fd52ea5366e2fd0d094848694eece1efcccc2bf6e"), looks := false }, kinds := [], alts := [], laidByText := true, laidKinds := [.data], laidTests := true, laidLooks := .later }
def SeatsMeetCardSaid : Prop := Claim7.holds Tryd.pinned (.plain (OpenSpec.ofChange seatsMeetSpec)) seatsMeetCard

/-- THE TIED CARD OF 'lampbearerkeep.SeatsMost'. -/
def seatsMostCard : Claim7 := { stood := { row := seatsMostRow, standIns := [], harness := (true, "1fbb1fac2677964b65aea11fd52ea5366e2fd0d094848694eece1efcccc2bf6e"), looks := false }, kinds := [], alts := [], laidByText := true, laidKinds := [.data], laidTests := true, laidLooks := .later }
def SeatsMostCardSaid : Prop := Claim7.holds Tryd.pinned (.plain (OpenSpec.ofChange seatsMostSpec)) seatsMostCard

/-- THE TIED CARD OF 'lampbearerkeep.SeatsBlame'. -/
def seatsBlameCard : Claim7 := { stood := { row := seatsBlameRow, standIns := [], harness := (true, "1fbb1fac2677964b65aea11fd52ea5366e2fd0d094848694eece1efcccc2bf6e"), looks := false }, kinds := [], alts := [], laidByText := true, laidKinds := [.data], laidTests := true, laidLooks := .later }
def SeatsBlameCardSaid : Prop := Claim7.holds Tryd.pinned (.plain (OpenSpec.ofChange seatsBlameSpec)) seatsBlameCard

/-- THE TIED CARD OF 'lampbearerkeep.SeatsMore'. -/
def seatsMoreCard : Claim7 := { stood := { row := seatsMoreRow, standIns := [], harness := (true, "1fbb1fac2677964b65aea11fd52ea5366e2fd0d094848694eece1efcccc2bf6e"), looks := false }, kinds := [], alts := [], laidByText := true, laidKinds := [.data], laidTests := true, laidLooks := .later }
def SeatsMoreCardSaid : Prop := Claim7.holds Tryd.pinned (.plain (OpenSpec.ofChange seatsMoreSpec)) seatsMoreCard

/-- THE TIED CARD OF 'lampbearerkeep.SeatsApart'. -/
def seatsApartCard : Claim7 := { stood := { row := seatsApartRow, standIns := [], harness := (true, "1fbb1fac2677964b65aea11fd52ea5366e2fd0d094848694eece1efcccc2bf6e"), looks := false }, kinds := [], alts := [], laidByText := true, laidKinds := [.data], laidTests := true, laidLooks := .later }
def SeatsApartCardSaid : Prop := Claim7.holds Tryd.pinned (.plain (OpenSpec.ofChange seatsApartSpec)) seatsApartCard

/-- THE SECOND FORM's CARD OF 'lampbearerkeep.SeatsMeet'. -/
def seatsMeetUptoCard : Claim7 := { stood := { row := seatsMeetUptoRow, standIns := [], harness := (true, "1fbb1fac2677964b65aea11fd52ea5366e2fd0d094848694eece1efcccc2bf6e"), looks := false }, kinds := [], alts := [], laidByText := true, laidKinds := [.data], laidTests := true, laidLooks := .later }
def SeatsMeetUptoCardSaid : Prop := Claim7.holds Tryd.pinned (.plain (OpenSpec.upto seatsMeetSpec)) seatsMeetUptoCard

/-- THE SECOND FORM's CARD OF 'lampbearerkeep.SeatsMost'. -/
def seatsMostUptoCard : Claim7 := { stood := { row := seatsMostUptoRow, standIns := [], harness := (true, "1fbb1fac2677964b65aea11fd52ea5366e2fd0d094848694eece1efcccc2bf6e"), looks := false }, kinds := [], alts := [], laidByText := true, laidKinds := [.data], laidTests := true, laidLooks := .later }
def SeatsMostUptoCardSaid : Prop := Claim7.holds Tryd.pinned (.plain (OpenSpec.upto seatsMostSpec)) seatsMostUptoCard

/-- THE SECOND FORM's CARD OF 'lampbearerkeep.SeatsBlame'. -/
def seatsBlameUptoCard : Claim7 := { stood := { row := seatsBlameUptoRow, standIns := [], harness := (true, "1fbb1fac2677964b65aea11fd52ea5366e2fd0d094848694eece1efcccc2bf6e"), looks := false }, kinds := [], alts := [], laidByText := true, laidKinds := [.data], laidTests := true, laidLooks := .later }
def SeatsBlameUptoCardSaid : Prop := Claim7.holds Tryd.pinned (.plain (OpenSpec.upto seatsBlameSpec)) seatsBlameUptoCard

/-- THE SECOND FORM's CARD OF 'lampbearerkeep.SeatsMore'. -/
def seatsMoreUptoCard : Claim7 := { stood := { row := seatsMoreUptoRow, standIns := [], harness := (true, "1fbb1fac2677964b65aea11fd52ea5366e2fd0d094848694eece1efcccc2bf6e"), looks := false }, kinds := [], alts := [], laidByText := true, laidKinds := [.data], laidTests := true, laidLooks := .later }
def SeatsMoreUptoCardSaid : Prop := Claim7.holds Tryd.pinned (.plain (OpenSpec.upto seatsMoreSpec)) seatsMoreUptoCard

/-- THE SECOND FORM's CARD OF 'lampbearerkeep.SeatsApart'. -/
def seatsApartUptoCard : Claim7 := { stood := { row := seatsApartUptoRow, standIns := [], harness := (true, "1fbb1fac2677964b65aea11fd52ea5366e2fd0d094848694eece1efcccc2bf6e"), looks := false }, kinds := [], alts := [], laidByText := true, laidKinds := [.data], laidTests := true, laidLooks := .later }
def SeatsApartUptoCardSaid : Prop := Claim7.holds Tryd.pinned (.plain (OpenSpec.upto seatsApartSpec)) seatsApartUptoCard
end Rows
end Go.Proofs.YtgioofknlbdfjaaDoor

/-
  DERIVED. GIVEN WITH THE SEED: THE CARDS: each row of YtclkpjefklahfaaDoorRows.lean that lists a variable, with what it lists TIED to the program's text (the seventh form; the later family's looks); each row that meets fmt, with fmt's text TOLD by the authors' own Lean function (tested against real Go, not proved from fmt's source: count such statements apart). THE CARD IS WHAT COUNTS. Prove the row's statement (the work); the ties are given (YtclkpjefklahfaaDoorTie.lean); close each card by the builder's one call (the guide's Derived/Test/ToyasCard.lean, 'card_holds'). Laid BY PROGRAM, IN A SANDBOX (cutbox-door.mjs). By AI agents, Wed Nov 11 2026. No macro, syntax, notation, axiom, sorry.
-/
import Derived.Test.YtclkpjefklahfaaDoorRows
import GoSem.ClaimSeven
namespace Go.Proofs.YtclkpjefklahfaaDoor
namespace Rows

/-- THE TIED CARD OF 'lampbearerkeep.PriceSome'. -/
def priceSomeCard : Claim7 := { stood := { row := priceSomeRow, standIns := [], harness := (true, "ecc325afc3c10e07daa8ae75737efdd3c67804c34087d7618825058e89cda891"), looks := false }, kinds := [], alts := [], laidByText := true, laidKinds := [.data, .data, .data], laidTests := true, laidLooks := .later }
def PriceSomeCardSaid : Prop := Claim7.holds Tryd.pinned (.plain (OpenSpec.ofChange priceSomeSpec)) priceSomeCard

/-- THE TIED CARD OF 'lampbearerkeep.PriceRoom'. -/
def priceRoomCard : Claim7 := { stood := { row := priceRoomRow, standIns := [], harness := (true, "ecc325afc3c10e07daa8ae75737efdd3c67804c34087d7618825058e89cda891"), looks := false }, kinds := [], alts := [], laidByText := true, laidKinds := [.data, .data, .data], laidTests := true, laidLooks := .later }
def PriceRoomCardSaid : Prop := Claim7.holds Tryd.pinned (.plain (OpenSpec.ofChange priceRoomSpec)) priceRoomCard

/-- THE TIED CARD OF 'lampbearerkeep.PriceWords'. -/
def priceWordsCard : Claim7 := { stood := { row := priceWordsRow, standIns := [], harness := (true, "ecc325afc3c10e07daa8ae75737efdd3c67804c34087d7618825058e89cda891"), looks := false }, kinds := [], alts := [], laidByText := true, laidKinds := [.data, .data, .data], laidTests := true, laidLooks := .later }
def PriceWordsCardSaid : Prop := Claim7.holds Tryd.pinned (.plain (OpenSpec.ofChange priceWordsSpec)) priceWordsCard

/-- THE TIED CARD OF 'lampbearerkeep.PriceParts'. -/
def pricePartsCard : Claim7 := { stood := { row := pricePartsRow, standIns := [], harness := (true, "ecc325afc3c10e07daa8ae75737efdd3c67804c34087d7618825058e89cda891"), looks := false }, kinds := [], alts := [], laidByText := true, laidKinds := [.data, .data, .data], laidTests := true, laidLooks := .later }
def PricePartsCardSaid : Prop := Claim7.holds Tryd.pinned (.plain (OpenSpec.ofChange pricePartsSpec)) pricePartsCard

/-- THE SECOND FORM's CARD OF 'lampbearerkeep.PriceSome'. -/
def priceSomeUptoCard : Claim7 := { stood := { row := priceSomeUptoRow, standIns := [], harness := (true, "ecc325afc3c10e07daa8ae75737efdd3c67804c34087d7618825058e89cda891"), looks := false }, kinds := [], alts := [], laidByText := true, laidKinds := [.data, .data, .data], laidTests := true, laidLooks := .later }
def PriceSomeUptoCardSaid : Prop := Claim7.holds Tryd.pinned (.plain (OpenSpec.upto priceSomeSpec)) priceSomeUptoCard

/-- THE SECOND FORM's CARD OF 'lampbearerkeep.PriceRoom'. -/
def priceRoomUptoCard : Claim7 := { stood := { row := priceRoomUptoRow, standIns := [], harness := (true, "ecc325afc3c10e07daa8ae75737efdd3c67804c34087d7618825058e89cda891"), looks := false }, kinds := [], alts := [], laidByText := true, laidKinds := [.data, .data, .data], laidTests := true, laidLooks := .later }
def PriceRoomUptoCardSaid : Prop := Claim7.holds Tryd.pinned (.plain (OpenSpec.upto priceRoomSpec)) priceRoomUptoCard

/-- THE SECOND FORM's CARD OF 'lampbearerkeep.PriceWords'. -/
def priceWordsUptoCard : Claim7 := { stood := { row := priceWordsUptoRow, standIns := [], harness := (true, "ecc325afc3c10e07daa8ae75737efdd3c67804c34087d7618825058e89cda891"), looks := false }, kinds := [], alts := [], laidByText := true, laidKinds := [.data, .data, .data], laidTests := true, laidLooks := .later }
def PriceWordsUptoCardSaid : Prop := Claim7.holds Tryd.pinned (.plain (OpenSpec.upto priceWordsSpec)) priceWordsUptoCard

/-- THE SECOND FORM's CARD OF 'lampbearerkeep.PriceParts'. -/
def pricePartsUptoCard : Claim7 := { stood := { row := pricePartsUptoRow, standIns := [], harness := (true, "ecc325afc3c10e07daa8ae75737efdd3c67804c34087d7618825058e89cda891"), looks := false }, kinds := [], alts := [], laidByText := true, laidKinds := [.data, .data, .data], laidTests := true, laidLooks := .later }
def PricePartsUptoCardSaid : Prop := Claim7.holds Tryd.pinned (.plain (OpenSpec.upto pricePartsSpec)) pricePartsUptoCard
end Rows
end Go.Proofs.YtclkpjefklahfaaDoor

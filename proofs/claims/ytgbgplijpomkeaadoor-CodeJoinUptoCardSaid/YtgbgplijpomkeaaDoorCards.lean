/-
  DERIVED. GIVEN WITH THE SEED: THE CARDS: each row of YtgbgplijpomkeaaDoorRows.lean that lists a variable, with what it lists TIED to the program's text (the seventh form; the later family's looks); each row that meets fmt, with fmt's text TOLD by the authors' own Lean function (tested against real Go, not proved from fmt's source: count such statements apart). THE CARD IS WHAT COUNTS. Prove the row's statement (the work); the ties are given (YtgbgplijpomkeaaDoorTie.lean); close each card by the builder's one call (the guide's Derived/Test/ToyasCard.lean, 'card_holds'). Laid BY PROGRAM, IN A SANDBOX (cutbox-door.mjs). By AI agents, Wed Nov 11 2026. No macro, syntax, notation, axiom, sorry.
-/
import Derived.Test.YtgbgplijpomkeaaDoorRows
import GoSem.ClaimSeven
namespace Go.Proofs.YtgbgplijpomkeaaDoor
namespace Rows

/-- THE TIED CARD OF 'lampbearerkeep.CodeData'. -/
def codeDataCard : Claim7 := { stood := { row := codeDataRow, standIns := [], harness := (true, "b34f1058d5f07e562874fbdb4aada61600cd3dbbbbc06567f34505649de2464d"), looks := false }, kinds := [], alts := [], laidByText := true, laidKinds := [.data, .data, .data], laidTests := true, laidLooks := .later }
def CodeDataCardSaid : Prop := Claim7.holds Tryd.pinned (.plain (OpenSpec.ofChange codeDataSpec)) codeDataCard

/-- THE TIED CARD OF 'lampbearerkeep.CodeNamed'. -/
def codeNamedCard : Claim7 := { stood := { row := codeNamedRow, standIns := [], harness := (true, "b34f1058d5f07e562874fbdb4aada61600cd3dbbbbc06567f34505649de2464d"), looks := false }, kinds := [], alts := [], laidByText := true, laidKinds := [.data, .data, .data], laidTests := true, laidLooks := .later }
def CodeNamedCardSaid : Prop := Claim7.holds Tryd.pinned (.plain (OpenSpec.ofChange codeNamedSpec)) codeNamedCard

/-- THE TIED CARD OF 'lampbearerkeep.CodeBack'. -/
def codeBackCard : Claim7 := { stood := { row := codeBackRow, standIns := [], harness := (true, "b34f1058d5f07e562874fbdb4aada61600cd3dbbbbc06567f34505649de2464d"), looks := false }, kinds := [], alts := [], laidByText := true, laidKinds := [.data, .data, .data], laidTests := true, laidLooks := .later }
def CodeBackCardSaid : Prop := Claim7.holds Tryd.pinned (.plain (OpenSpec.ofChange codeBackSpec)) codeBackCard

/-- THE TIED CARD OF 'lampbearerkeep.CodeOnly'. -/
def codeOnlyCard : Claim7 := { stood := { row := codeOnlyRow, standIns := [], harness := (true, "b34f1058d5f07e562874fbdb4aada61600cd3dbbbbc06567f34505649de2464d"), looks := false }, kinds := [], alts := [], laidByText := true, laidKinds := [.data, .data, .data], laidTests := true, laidLooks := .later }
def CodeOnlyCardSaid : Prop := Claim7.holds Tryd.pinned (.plain (OpenSpec.ofChange codeOnlySpec)) codeOnlyCard

/-- THE TIED CARD OF 'lampbearerkeep.CodeJoin'. -/
def codeJoinCard : Claim7 := { stood := { row := codeJoinRow, standIns := [], harness := (true, "b34f1058d5f07e562874fbdb4aada61600cd3dbbbbc06567f34505649de2464d"), looks := false }, kinds := [], alts := [], laidByText := true, laidKinds := [.data, .data, .data], laidTests := true, laidLooks := .later }
def CodeJoinCardSaid : Prop := Claim7.holds Tryd.pinned (.plain (OpenSpec.ofChange codeJoinSpec)) codeJoinCard

/-- THE SECOND FORM's CARD OF 'lampbearerkeep.CodeData'. -/
def codeDataUptoCard : Claim7 := { stood := { row := codeDataUptoRow, standIns := [], harness := (true, "b34f1058d5f07e562874fbdb4aada61600cd3dbbbbc06567f34505649de2464d"), looks := false }, kinds := [], alts := [], laidByText := true, laidKinds := [.data, .data, .data], laidTests := true, laidLooks := .later }
def CodeDataUptoCardSaid : Prop := Claim7.holds Tryd.pinned (.plain (OpenSpec.upto codeDataSpec)) codeDataUptoCard

/-- THE SECOND FORM's CARD OF 'lampbearerkeep.CodeNamed'. -/
def codeNamedUptoCard : Claim7 := { stood := { row := codeNamedUptoRow, standIns := [], harness := (true, "b34f1058d5f07e562874fbdb4aada61600cd3dbbbbc06567f34505649de2464d"), looks := false }, kinds := [], alts := [], laidByText := true, laidKinds := [.data, .data, .data], laidTests := true, laidLooks := .later }
def CodeNamedUptoCardSaid : Prop := Claim7.holds Tryd.pinned (.plain (OpenSpec.upto codeNamedSpec)) codeNamedUptoCard

/-- THE SECOND FORM's CARD OF 'lampbearerkeep.CodeBack'. -/
def codeBackUptoCard : Claim7 := { stood := { row := codeBackUptoRow, standIns := [], harness := (true, "b34f1058d5f07e562874fbdb4aada61600cd3dbbbbc06567f34505649de2464d"), looks := false }, kinds := [], alts := [], laidByText := true, laidKinds := [.data, .data, .data], laidTests := true, laidLooks := .later }
def CodeBackUptoCardSaid : Prop := Claim7.holds Tryd.pinned (.plain (OpenSpec.upto codeBackSpec)) codeBackUptoCard

/-- THE SECOND FORM's CARD OF 'lampbearerkeep.CodeOnly'. -/
def codeOnlyUptoCard : Claim7 := { stood := { row := codeOnlyUptoRow, standIns := [], harness := (true, "b34f1058d5f07e562874fbdb4aada61600cd3dbbbbc06567f34505649de2464d"), looks := false }, kinds := [], alts := [], laidByText := true, laidKinds := [.data, .data, .data], laidTests := true, laidLooks := .later }
def CodeOnlyUptoCardSaid : Prop := Claim7.holds Tryd.pinned (.plain (OpenSpec.upto codeOnlySpec)) codeOnlyUptoCard

/-- THE SECOND FORM's CARD OF 'lampbearerkeep.CodeJoin'. -/
def codeJoinUptoCard : Claim7 := { stood := { row := codeJoinUptoRow, standIns := [], harness := (true, "b34f1058d5f07e562874fbdb4aada61600cd3dbbbbc06567f34505649de2464d"), looks := false }, kinds := [], alts := [], laidByText := true, laidKinds := [.data, .data, .data], laidTests := true, laidLooks := .later }
def CodeJoinUptoCardSaid : Prop := Claim7.holds Tryd.pinned (.plain (OpenSpec.upto codeJoinSpec)) codeJoinUptoCard
end Rows
end Go.Proofs.YtgbgplijpomkeaaDoor

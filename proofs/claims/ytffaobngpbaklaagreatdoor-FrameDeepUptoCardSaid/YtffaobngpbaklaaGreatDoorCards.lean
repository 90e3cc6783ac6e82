/-
  DERIVED. GIVEN WITH THE SEED: THE CARDS: each row of YtffaobngpbaklaaGreatDoorRows.lean that lists a variable, with what it lists TIED to the program's text (the seventh form; the later family's looks); each row that meets fmt, with fmt's text TOLD by the authors' own Lean function (tested against real Go, not proved from fmt's source: count such statements apart). THE CARD IS WHAT COUNTS. Prove the row's statement (the work); the ties are given (YtffaobngpbaklaaGreatDoorTie.lean); close each card by the builder's one call (the guide's Derived/Test/ToyasCard.lean, 'card_holds'). Laid BY PROGRAM, IN A SANDBOX (cutbox-door.mjs). By AI agents, Wed Nov 11 2026. No macro, syntax, notation, axiom, sorry.
-/
import Derived.Test.YtffaobngpbaklaaGreatDoorRows
import GoSem.ClaimSeven
namespace Go.Proofs.YtffaobngpbaklaaGreatDoor
namespace Rows

/-- THE TIED CARD OF 'lampbearerkeep.FrameGas'. -/
def frameGasCard : Claim7 := { stood := { row := frameGasRow, standIns := [], harness := (true, "77b351ab928423835a65951250ea0fe36e4d99fe53ae0092295c9d22e124f385"), looks := true }, kinds := [], alts := [], laidByText := true, laidKinds := [.data, .data, .data], laidTests := true, laidLooks := .later }
def FrameGasCardSaid : Prop := Claim7.holds Tryz.pinned (.plain (OpenSpec.ofChange frameGasSpec)) frameGasCard

/-- THE TIED CARD OF 'lampbearerkeep.FrameLands'. -/
def frameLandsCard : Claim7 := { stood := { row := frameLandsRow, standIns := [], harness := (true, "77b351ab928423835a65951250ea0fe36e4d99fe53ae0092295c9d22e124f385"), looks := true }, kinds := [], alts := [], laidByText := true, laidKinds := [.data, .data, .data], laidTests := true, laidLooks := .later }
def FrameLandsCardSaid : Prop := Claim7.holds Tryz.pinned (.plain (OpenSpec.ofChange frameLandsSpec)) frameLandsCard

/-- THE TIED CARD OF 'lampbearerkeep.FrameEuclid'. -/
def frameEuclidCard : Claim7 := { stood := { row := frameEuclidRow, standIns := [], harness := (true, "77b351ab928423835a65951250ea0fe36e4d99fe53ae0092295c9d22e124f385"), looks := true }, kinds := [], alts := [], laidByText := true, laidKinds := [.data, .data, .data], laidTests := true, laidLooks := .later }
def FrameEuclidCardSaid : Prop := Claim7.holds Tryz.pinned (.plain (OpenSpec.ofChange frameEuclidSpec)) frameEuclidCard

/-- THE TIED CARD OF 'lampbearerkeep.FrameLess'. -/
def frameLessCard : Claim7 := { stood := { row := frameLessRow, standIns := [], harness := (true, "77b351ab928423835a65951250ea0fe36e4d99fe53ae0092295c9d22e124f385"), looks := true }, kinds := [], alts := [], laidByText := true, laidKinds := [.data, .data, .data], laidTests := true, laidLooks := .later }
def FrameLessCardSaid : Prop := Claim7.holds Tryz.pinned (.plain (OpenSpec.ofChange frameLessSpec)) frameLessCard

/-- THE TIED CARD OF 'lampbearerkeep.FrameWords'. -/
def frameWordsCard : Claim7 := { stood := { row := frameWordsRow, standIns := [], harness := (true, "77b351ab928423835a65951250ea0fe36e4d99fe53ae0092295c9d22e124f385"), looks := true }, kinds := [], alts := [], laidByText := true, laidKinds := [.data, .data, .data], laidTests := true, laidLooks := .later }
def FrameWordsCardSaid : Prop := Claim7.holds Tryz.pinned (.plain (OpenSpec.ofChange frameWordsSpec)) frameWordsCard

/-- THE TIED CARD OF 'lampbearerkeep.FrameEcho'. -/
def frameEchoCard : Claim7 := { stood := { row := frameEchoRow, standIns := [], harness := (true, "77b351ab928423835a65951250ea0fe36e4d99fe53ae0092295c9d22e124f385"), looks := true }, kinds := [], alts := [], laidByText := true, laidKinds := [.data, .data, .data], laidTests := true, laidLooks := .later }
def FrameEchoCardSaid : Prop := Claim7.holds Tryz.pinned (.plain (OpenSpec.ofChange frameEchoSpec)) frameEchoCard

/-- THE TIED CARD OF 'lampbearerkeep.FrameMore'. -/
def frameMoreCard : Claim7 := { stood := { row := frameMoreRow, standIns := [], harness := (true, "77b351ab928423835a65951250ea0fe36e4d99fe53ae0092295c9d22e124f385"), looks := true }, kinds := [], alts := [], laidByText := true, laidKinds := [.data, .data, .data], laidTests := true, laidLooks := .later }
def FrameMoreCardSaid : Prop := Claim7.holds Tryz.pinned (.plain (OpenSpec.ofChange frameMoreSpec)) frameMoreCard

/-- THE TIED CARD OF 'lampbearerkeep.FrameDeep'. -/
def frameDeepCard : Claim7 := { stood := { row := frameDeepRow, standIns := [], harness := (true, "77b351ab928423835a65951250ea0fe36e4d99fe53ae0092295c9d22e124f385"), looks := true }, kinds := [], alts := [], laidByText := true, laidKinds := [.data, .data, .data], laidTests := true, laidLooks := .later }
def FrameDeepCardSaid : Prop := Claim7.holds Tryz.pinned (.plain (OpenSpec.ofChange frameDeepSpec)) frameDeepCard

/-- THE SECOND FORM's CARD OF 'lampbearerkeep.FrameGas'. -/
def frameGasUptoCard : Claim7 := { stood := { row := frameGasUptoRow, standIns := [], harness := (true, "77b351ab928423835a65951250ea0fe36e4d99fe53ae0092295c9d22e124f385"), looks := true }, kinds := [], alts := [], laidByText := true, laidKinds := [.data, .data, .data], laidTests := true, laidLooks := .later }
def FrameGasUptoCardSaid : Prop := Claim7.holds Tryz.pinned (.plain (OpenSpec.upto frameGasSpec)) frameGasUptoCard

/-- THE SECOND FORM's CARD OF 'lampbearerkeep.FrameLands'. -/
def frameLandsUptoCard : Claim7 := { stood := { row := frameLandsUptoRow, standIns := [], harness := (true, "77b351ab928423835a65951250ea0fe36e4d99fe53ae0092295c9d22e124f385"), looks := true }, kinds := [], alts := [], laidByText := true, laidKinds := [.data, .data, .data], laidTests := true, laidLooks := .later }
def FrameLandsUptoCardSaid : Prop := Claim7.holds Tryz.pinned (.plain (OpenSpec.upto frameLandsSpec)) frameLandsUptoCard

/-- THE SECOND FORM's CARD OF 'lampbearerkeep.FrameEuclid'. -/
def frameEuclidUptoCard : Claim7 := { stood := { row := frameEuclidUptoRow, standIns := [], harness := (true, "77b351ab928423835a65951250ea0fe36e4d99fe53ae0092295c9d22e124f385"), looks := true }, kinds := [], alts := [], laidByText := true, laidKinds := [.data, .data, .data], laidTests := true, laidLooks := .later }
def FrameEuclidUptoCardSaid : Prop := Claim7.holds Tryz.pinned (.plain (OpenSpec.upto frameEuclidSpec)) frameEuclidUptoCard

/-- THE SECOND FORM's CARD OF 'lampbearerkeep.FrameLess'. -/
def frameLessUptoCard : Claim7 := { stood := { row := frameLessUptoRow, standIns := [], harness := (true, "77b351ab928423835a65951250ea0fe36e4d99fe53ae0092295c9d22e124f385"), looks := true }, kinds := [], alts := [], laidByText := true, laidKinds := [.data, .data, .data], laidTests := true, laidLooks := .later }
def FrameLessUptoCardSaid : Prop := Claim7.holds Tryz.pinned (.plain (OpenSpec.upto frameLessSpec)) frameLessUptoCard

/-- THE SECOND FORM's CARD OF 'lampbearerkeep.FrameWords'. -/
def frameWordsUptoCard : Claim7 := { stood := { row := frameWordsUptoRow, standIns := [], harness := (true, "77b351ab928423835a65951250ea0fe36e4d99fe53ae0092295c9d22e124f385"), looks := true }, kinds := [], alts := [], laidByText := true, laidKinds := [.data, .data, .data], laidTests := true, laidLooks := .later }
def FrameWordsUptoCardSaid : Prop := Claim7.holds Tryz.pinned (.plain (OpenSpec.upto frameWordsSpec)) frameWordsUptoCard

/-- THE SECOND FORM's CARD OF 'lampbearerkeep.FrameEcho'. -/
def frameEchoUptoCard : Claim7 := { stood := { row := frameEchoUptoRow, standIns := [], harness := (true, "77b351ab928423835a65951250ea0fe36e4d99fe53ae0092295c9d22e124f385"), looks := true }, kinds := [], alts := [], laidByText := true, laidKinds := [.data, .data, .data], laidTests := true, laidLooks := .later }
def FrameEchoUptoCardSaid : Prop := Claim7.holds Tryz.pinned (.plain (OpenSpec.upto frameEchoSpec)) frameEchoUptoCard

/-- THE SECOND FORM's CARD OF 'lampbearerkeep.FrameMore'. -/
def frameMoreUptoCard : Claim7 := { stood := { row := frameMoreUptoRow, standIns := [], harness := (true, "77b351ab928423835a65951250ea0fe36e4d99fe53ae0092295c9d22e124f385"), looks := true }, kinds := [], alts := [], laidByText := true, laidKinds := [.data, .data, .data], laidTests := true, laidLooks := .later }
def FrameMoreUptoCardSaid : Prop := Claim7.holds Tryz.pinned (.plain (OpenSpec.upto frameMoreSpec)) frameMoreUptoCard

/-- THE SECOND FORM's CARD OF 'lampbearerkeep.FrameDeep'. -/
def frameDeepUptoCard : Claim7 := { stood := { row := frameDeepUptoRow, standIns := [], harness := (true, "77b351ab928423835a65951250ea0fe36e4d99fe53ae0092295c9d22e124f385"), looks := true }, kinds := [], alts := [], laidByText := true, laidKinds := [.data, .data, .data], laidTests := true, laidLooks := .later }
def FrameDeepUptoCardSaid : Prop := Claim7.holds Tryz.pinned (.plain (OpenSpec.upto frameDeepSpec)) frameDeepUptoCard
end Rows
end Go.Proofs.YtffaobngpbaklaaGreatDoor

/-
  NARROWER THAN 'FOR EVERY INPUT', by the rows' own cells (each row's printed sentence says how): RootFound: loops · RootApart: loops · RootLoaded: loops · ProofAway: loops · ProofOne: loops · ProofWhole: loops · ProofTrue: loops.
  DERIVED. THE GIVEN ROWS OF THIS SEAT. 12 by the template 'for every input the law returns true; each argument reads behind the call as it read before'; 0 by the template 'total and deterministic' (their statements: YtkbimhccaacobaaTotals.lean).
  GIVEN WITH THE SEED: the statements are not yours to turn. If you find one false, say at which input.
  Laid BY PROGRAM, IN A SANDBOX (cutbox-rows.mjs): the forced cells as the released guide's own fill.sh prints them over the translation 9b707a43e61aadb9… (all of the seat's roots in one cut). By AI agents, Wed Nov 11 2026. No macro, syntax, notation, axiom, sorry.
-/
import Derived.Test.YtkbimhccaacobaaChecked
import GoSem.Claim
import GoSem.ClaimJoined
import GoSem.ClaimMapViews
import Derived.JoinedTies
import Derived.KernelRfl
namespace Go.Proofs.Ytkbimhccaacobaa
/- THE CELL 'sum', in the pinned program and in every row, IS THE sha256 OF THE DUMP (.gsa) THAT YtkbimhccaacobaaProg.lean LOADS. Nothing in Lean hashes anything: it is a label: what it is worth is what the hold of that sum in a sandbox is worth. -/
noncomputable def Try.pinned : Pinned := { name := "ytkbimhccaacobaa", sum := "9b707a43e61aadb95d8ae7fd1c5c38ca13a701e442d5044b0fcdcebf86bb599f", checked := Try.checked }
namespace Rows
def none {H : Type} : Left H := { results := [], args := [] }

/-- 'lampbearerkeep.RootBack': WHATEVER THE INPUT: true; the input reads as it did. -/
def rootBackSpec : ChangeSpec := { name := "rootBack", fn := fun _ => fun
  | [d1, d2] => { results := [.lit (.bool true)], args := [d1, d2] }
  | _ => none }
def rootBackRow : OpenClaim := { program := "ytkbimhccaacobaa", sum := "9b707a43e61aadb95d8ae7fd1c5c38ca13a701e442d5044b0fcdcebf86bb599f", func := "lampbearer/lampbearerkeep.RootBack", spec := "rootBack", unfollowed := true, recurses := true, plainKeys := false, apart := false }
def RootBackSaid : Prop := rootBackRow.holds Try.pinned (OpenSpec.ofChange rootBackSpec)

/-- ITS FALSE NEIGHBOUR: 'it returns false'. Refute it at one input. -/
def rootBackWrong : ChangeSpec := { name := "rootBack", fn := fun _ => fun
  | [d1, d2] => { results := [.lit (.bool false)], args := [d1, d2] }
  | _ => none }
def RootBackWrongFalsely : Prop := rootBackRow.holds Try.pinned (OpenSpec.ofChange rootBackWrong)

/-- 'lampbearerkeep.RootFound': WHATEVER THE INPUT: true; the input reads as it did. -/
def rootFoundSpec : ChangeSpec := { name := "rootFound", fn := fun _ => fun
  | [d1, d2, d3, d4] => { results := [.lit (.bool true)], args := [d1, d2, d3, d4] }
  | _ => none }
def rootFoundRow : OpenClaim := { program := "ytkbimhccaacobaa", sum := "9b707a43e61aadb95d8ae7fd1c5c38ca13a701e442d5044b0fcdcebf86bb599f", func := "lampbearer/lampbearerkeep.RootFound", spec := "rootFound", unfollowed := true, recurses := true, loops := true, plainKeys := false, apart := false }
def RootFoundSaid : Prop := rootFoundRow.holds Try.pinned (OpenSpec.ofChange rootFoundSpec)

/-- ITS FALSE NEIGHBOUR: 'it returns false'. Refute it at one input. -/
def rootFoundWrong : ChangeSpec := { name := "rootFound", fn := fun _ => fun
  | [d1, d2, d3, d4] => { results := [.lit (.bool false)], args := [d1, d2, d3, d4] }
  | _ => none }
def RootFoundWrongFalsely : Prop := rootFoundRow.holds Try.pinned (OpenSpec.ofChange rootFoundWrong)

/-- 'lampbearerkeep.RootApart': WHATEVER THE INPUT: true; the input reads as it did. -/
def rootApartSpec : ChangeSpec := { name := "rootApart", fn := fun _ => fun
  | [d1, d2] => { results := [.lit (.bool true)], args := [d1, d2] }
  | _ => none }
def rootApartRow : OpenClaim := { program := "ytkbimhccaacobaa", sum := "9b707a43e61aadb95d8ae7fd1c5c38ca13a701e442d5044b0fcdcebf86bb599f", func := "lampbearer/lampbearerkeep.RootApart", spec := "rootApart", unfollowed := true, recurses := true, loops := true, plainKeys := false, apart := false }
def RootApartSaid : Prop := rootApartRow.holds Try.pinned (OpenSpec.ofChange rootApartSpec)

/-- ITS FALSE NEIGHBOUR: 'it returns false'. Refute it at one input. -/
def rootApartWrong : ChangeSpec := { name := "rootApart", fn := fun _ => fun
  | [d1, d2] => { results := [.lit (.bool false)], args := [d1, d2] }
  | _ => none }
def RootApartWrongFalsely : Prop := rootApartRow.holds Try.pinned (OpenSpec.ofChange rootApartWrong)

/-- 'lampbearerkeep.RootLoaded': WHATEVER THE INPUT: true; the input reads as it did. -/
def rootLoadedSpec : ChangeSpec := { name := "rootLoaded", fn := fun _ => fun
  | [d1, d2, d3] => { results := [.lit (.bool true)], args := [d1, d2, d3] }
  | _ => none }
def rootLoadedRow : OpenClaim := { program := "ytkbimhccaacobaa", sum := "9b707a43e61aadb95d8ae7fd1c5c38ca13a701e442d5044b0fcdcebf86bb599f", func := "lampbearer/lampbearerkeep.RootLoaded", spec := "rootLoaded", unfollowed := true, recurses := true, loops := true, plainKeys := false, apart := false }
def RootLoadedSaid : Prop := rootLoadedRow.holds Try.pinned (OpenSpec.ofChange rootLoadedSpec)

/-- ITS FALSE NEIGHBOUR: 'it returns false'. Refute it at one input. -/
def rootLoadedWrong : ChangeSpec := { name := "rootLoaded", fn := fun _ => fun
  | [d1, d2, d3] => { results := [.lit (.bool false)], args := [d1, d2, d3] }
  | _ => none }
def RootLoadedWrongFalsely : Prop := rootLoadedRow.holds Try.pinned (OpenSpec.ofChange rootLoadedWrong)

/-- 'lampbearerkeep.ProofAway': WHATEVER THE INPUT: true; the input reads as it did. -/
def proofAwaySpec : ChangeSpec := { name := "proofAway", fn := fun _ => fun
  | [d1, d2, d3, d4] => { results := [.lit (.bool true)], args := [d1, d2, d3, d4] }
  | _ => none }
def proofAwayRow : OpenClaim := { program := "ytkbimhccaacobaa", sum := "9b707a43e61aadb95d8ae7fd1c5c38ca13a701e442d5044b0fcdcebf86bb599f", func := "lampbearer/lampbearerkeep.ProofAway", spec := "proofAway", unfollowed := true, recurses := true, loops := true, plainKeys := false, apart := false }
def ProofAwaySaid : Prop := proofAwayRow.holds Try.pinned (OpenSpec.ofChange proofAwaySpec)

/-- ITS FALSE NEIGHBOUR: 'it returns false'. Refute it at one input. -/
def proofAwayWrong : ChangeSpec := { name := "proofAway", fn := fun _ => fun
  | [d1, d2, d3, d4] => { results := [.lit (.bool false)], args := [d1, d2, d3, d4] }
  | _ => none }
def ProofAwayWrongFalsely : Prop := proofAwayRow.holds Try.pinned (OpenSpec.ofChange proofAwayWrong)

/-- 'lampbearerkeep.ProofOne': WHATEVER THE INPUT: true; the input reads as it did. -/
def proofOneSpec : ChangeSpec := { name := "proofOne", fn := fun _ => fun
  | [d1, d2, d3, d4] => { results := [.lit (.bool true)], args := [d1, d2, d3, d4] }
  | _ => none }
def proofOneRow : OpenClaim := { program := "ytkbimhccaacobaa", sum := "9b707a43e61aadb95d8ae7fd1c5c38ca13a701e442d5044b0fcdcebf86bb599f", func := "lampbearer/lampbearerkeep.ProofOne", spec := "proofOne", unfollowed := true, recurses := true, loops := true, plainKeys := false, apart := false }
def ProofOneSaid : Prop := proofOneRow.holds Try.pinned (OpenSpec.ofChange proofOneSpec)

/-- ITS FALSE NEIGHBOUR: 'it returns false'. Refute it at one input. -/
def proofOneWrong : ChangeSpec := { name := "proofOne", fn := fun _ => fun
  | [d1, d2, d3, d4] => { results := [.lit (.bool false)], args := [d1, d2, d3, d4] }
  | _ => none }
def ProofOneWrongFalsely : Prop := proofOneRow.holds Try.pinned (OpenSpec.ofChange proofOneWrong)

/-- 'lampbearerkeep.ProofWhole': WHATEVER THE INPUT: true; the input reads as it did. -/
def proofWholeSpec : ChangeSpec := { name := "proofWhole", fn := fun _ => fun
  | [d1, d2] => { results := [.lit (.bool true)], args := [d1, d2] }
  | _ => none }
def proofWholeRow : OpenClaim := { program := "ytkbimhccaacobaa", sum := "9b707a43e61aadb95d8ae7fd1c5c38ca13a701e442d5044b0fcdcebf86bb599f", func := "lampbearer/lampbearerkeep.ProofWhole", spec := "proofWhole", unfollowed := true, recurses := true, loops := true, plainKeys := false, apart := false }
def ProofWholeSaid : Prop := proofWholeRow.holds Try.pinned (OpenSpec.ofChange proofWholeSpec)

/-- ITS FALSE NEIGHBOUR: 'it returns false'. Refute it at one input. -/
def proofWholeWrong : ChangeSpec := { name := "proofWhole", fn := fun _ => fun
  | [d1, d2] => { results := [.lit (.bool false)], args := [d1, d2] }
  | _ => none }
def ProofWholeWrongFalsely : Prop := proofWholeRow.holds Try.pinned (OpenSpec.ofChange proofWholeWrong)

/-- 'lampbearerkeep.RootSame': WHATEVER THE INPUT: true; the input reads as it did. -/
def rootSameSpec : ChangeSpec := { name := "rootSame", fn := fun _ => fun
  | [d1, d2] => { results := [.lit (.bool true)], args := [d1, d2] }
  | _ => none }
def rootSameRow : OpenClaim := { program := "ytkbimhccaacobaa", sum := "9b707a43e61aadb95d8ae7fd1c5c38ca13a701e442d5044b0fcdcebf86bb599f", func := "lampbearer/lampbearerkeep.RootSame", spec := "rootSame", unfollowed := true, recurses := true, plainKeys := false, apart := false }
def RootSameSaid : Prop := rootSameRow.holds Try.pinned (OpenSpec.ofChange rootSameSpec)

/-- ITS FALSE NEIGHBOUR: 'it returns false'. Refute it at one input. -/
def rootSameWrong : ChangeSpec := { name := "rootSame", fn := fun _ => fun
  | [d1, d2] => { results := [.lit (.bool false)], args := [d1, d2] }
  | _ => none }
def RootSameWrongFalsely : Prop := rootSameRow.holds Try.pinned (OpenSpec.ofChange rootSameWrong)

/-- 'lampbearerkeep.ProofTrue': WHATEVER THE INPUT: true; the input reads as it did. -/
def proofTrueSpec : ChangeSpec := { name := "proofTrue", fn := fun _ => fun
  | [d1, d2, d3] => { results := [.lit (.bool true)], args := [d1, d2, d3] }
  | _ => none }
def proofTrueRow : OpenClaim := { program := "ytkbimhccaacobaa", sum := "9b707a43e61aadb95d8ae7fd1c5c38ca13a701e442d5044b0fcdcebf86bb599f", func := "lampbearer/lampbearerkeep.ProofTrue", spec := "proofTrue", unfollowed := true, recurses := true, loops := true, plainKeys := false, apart := false }
def ProofTrueSaid : Prop := proofTrueRow.holds Try.pinned (OpenSpec.ofChange proofTrueSpec)

/-- ITS FALSE NEIGHBOUR: 'it returns false'. Refute it at one input. -/
def proofTrueWrong : ChangeSpec := { name := "proofTrue", fn := fun _ => fun
  | [d1, d2, d3] => { results := [.lit (.bool false)], args := [d1, d2, d3] }
  | _ => none }
def ProofTrueWrongFalsely : Prop := proofTrueRow.holds Try.pinned (OpenSpec.ofChange proofTrueWrong)

/-- 'lampbearerkeep.WorldOrder': WHATEVER THE INPUT: true; the input reads as it did. -/
def worldOrderSpec : ChangeSpec := { name := "worldOrder", fn := fun _ => fun
  | [d1, d2, d3, d4, d5] => { results := [.lit (.bool true)], args := [d1, d2, d3, d4, d5] }
  | _ => none }
def worldOrderRow : OpenClaim := { program := "ytkbimhccaacobaa", sum := "9b707a43e61aadb95d8ae7fd1c5c38ca13a701e442d5044b0fcdcebf86bb599f", func := "lampbearer/lampbearerkeep.WorldOrder", spec := "worldOrder", inPlace := ["internal/bytealg.Compare", "slices.overlaps[lampbearer/api.Holder]"], unfollowed := true, recurses := true, plainKeys := false, apart := false }
def WorldOrderSaid : Prop := worldOrderRow.holds Try.pinned (OpenSpec.ofChange worldOrderSpec)

/-- ITS FALSE NEIGHBOUR: 'it returns false'. Refute it at one input. -/
def worldOrderWrong : ChangeSpec := { name := "worldOrder", fn := fun _ => fun
  | [d1, d2, d3, d4, d5] => { results := [.lit (.bool false)], args := [d1, d2, d3, d4, d5] }
  | _ => none }
def WorldOrderWrongFalsely : Prop := worldOrderRow.holds Try.pinned (OpenSpec.ofChange worldOrderWrong)

/-- 'lampbearerkeep.WorldLeafBack': WHATEVER THE INPUT: true; the input reads as it did. -/
def worldLeafBackSpec : ChangeSpec := { name := "worldLeafBack", fn := fun _ => fun
  | [d1, d2] => { results := [.lit (.bool true)], args := [d1, d2] }
  | _ => none }
def worldLeafBackRow : OpenClaim := { program := "ytkbimhccaacobaa", sum := "9b707a43e61aadb95d8ae7fd1c5c38ca13a701e442d5044b0fcdcebf86bb599f", func := "lampbearer/lampbearerkeep.WorldLeafBack", spec := "worldLeafBack", inPlace := ["internal/bytealg.Compare", "slices.overlaps[lampbearer/api.Holder]"], unfollowed := true, recurses := true, plainKeys := false, apart := false }
def WorldLeafBackSaid : Prop := worldLeafBackRow.holds Try.pinned (OpenSpec.ofChange worldLeafBackSpec)

/-- ITS FALSE NEIGHBOUR: 'it returns false'. Refute it at one input. -/
def worldLeafBackWrong : ChangeSpec := { name := "worldLeafBack", fn := fun _ => fun
  | [d1, d2] => { results := [.lit (.bool false)], args := [d1, d2] }
  | _ => none }
def WorldLeafBackWrongFalsely : Prop := worldLeafBackRow.holds Try.pinned (OpenSpec.ofChange worldLeafBackWrong)

/-- 'lampbearerkeep.WorldRead': WHATEVER THE INPUT: true; the input reads as it did. -/
def worldReadSpec : ChangeSpec := { name := "worldRead", fn := fun _ => fun
  | [d1, d2, d3, d4] => { results := [.lit (.bool true)], args := [d1, d2, d3, d4] }
  | _ => none }
def worldReadRow : OpenClaim := { program := "ytkbimhccaacobaa", sum := "9b707a43e61aadb95d8ae7fd1c5c38ca13a701e442d5044b0fcdcebf86bb599f", func := "lampbearer/lampbearerkeep.WorldRead", spec := "worldRead", inPlace := ["internal/bytealg.Compare", "slices.overlaps[lampbearer/api.Holder]"], unfollowed := true, recurses := true, plainKeys := false, apart := false }
def WorldReadSaid : Prop := worldReadRow.holds Try.pinned (OpenSpec.ofChange worldReadSpec)

/-- ITS FALSE NEIGHBOUR: 'it returns false'. Refute it at one input. -/
def worldReadWrong : ChangeSpec := { name := "worldRead", fn := fun _ => fun
  | [d1, d2, d3, d4] => { results := [.lit (.bool false)], args := [d1, d2, d3, d4] }
  | _ => none }
def WorldReadWrongFalsely : Prop := worldReadRow.holds Try.pinned (OpenSpec.ofChange worldReadWrong)

/- THE SECOND FORM. 'bulk': how many values and letters a reading holds, each counted each time it is reached (what is shared counts as often as it is met; a slice's spare places count too). A statement '..UptoSaid' is the law's where the arguments, and the package variables that the reading takes, are together of bulk at most 1048576: NARROWER than '..Said'. Prove '..Said' where nothing that the law and all that it calls make is longer than what came in: it says more and counts as full. Else prove '..UptoSaid'. A law counts once. -/
mutual
def uptoBulk {H : Type} : DataW H → Nat
  | .lit (.string bytes) => bytes.length + 1
  | .lit _ => 1
  | .nil => 1
  | .ptr d => uptoBulk d + 1
  | .slice elems spare => uptoBulkAll elems + uptoBulkAll spare + 1
  | .agg parts => uptoBulkAll parts + 1
  | .iface _ d => uptoBulk d + 1
  | .map entries => uptoBulkEntries entries + 1
  | .held _ => 1
def uptoBulkAll {H : Type} : List (DataW H) → Nat
  | [] => 0
  | d :: r => uptoBulk d + uptoBulkAll r
def uptoBulkEntries {H : Type} : List (Lit × DataW H) → Nat
  | [] => 0
  | x :: r => uptoBulkEntry x + uptoBulkEntries r
def uptoBulkEntry {H : Type} : Lit × DataW H → Nat
  | (.string bytes, d) => bytes.length + uptoBulk d + 1
  | (_, d) => uptoBulk d + 1
 end
def uptoSmall : (H : Type) → List (DataW H) → Bool := fun _ ds => decide (uptoBulkAll ds ≤ 1048576)
def OpenSpec.upto (s : _root_.Go.ChangeSpec) : _root_.Go.OpenSpec := { _root_.Go.OpenSpec.ofChange s with cond := some uptoSmall }

/-- 'lampbearerkeep.RootBack', WHERE WHAT IT READS IS OF BULK AT MOST 1048576: true; the input reads as it did. -/
def rootBackUptoRow : OpenClaim := { program := "ytkbimhccaacobaa", sum := "9b707a43e61aadb95d8ae7fd1c5c38ca13a701e442d5044b0fcdcebf86bb599f", func := "lampbearer/lampbearerkeep.RootBack", spec := "rootBack", unfollowed := true, recurses := true, plainKeys := false, apart := false, narrowed := true }
def RootBackUptoSaid : Prop := rootBackUptoRow.holds Try.pinned (OpenSpec.upto rootBackSpec)

/-- 'lampbearerkeep.RootFound', WHERE WHAT IT READS IS OF BULK AT MOST 1048576: true; the input reads as it did. -/
def rootFoundUptoRow : OpenClaim := { program := "ytkbimhccaacobaa", sum := "9b707a43e61aadb95d8ae7fd1c5c38ca13a701e442d5044b0fcdcebf86bb599f", func := "lampbearer/lampbearerkeep.RootFound", spec := "rootFound", unfollowed := true, recurses := true, loops := true, plainKeys := false, apart := false, narrowed := true }
def RootFoundUptoSaid : Prop := rootFoundUptoRow.holds Try.pinned (OpenSpec.upto rootFoundSpec)

/-- 'lampbearerkeep.RootApart', WHERE WHAT IT READS IS OF BULK AT MOST 1048576: true; the input reads as it did. -/
def rootApartUptoRow : OpenClaim := { program := "ytkbimhccaacobaa", sum := "9b707a43e61aadb95d8ae7fd1c5c38ca13a701e442d5044b0fcdcebf86bb599f", func := "lampbearer/lampbearerkeep.RootApart", spec := "rootApart", unfollowed := true, recurses := true, loops := true, plainKeys := false, apart := false, narrowed := true }
def RootApartUptoSaid : Prop := rootApartUptoRow.holds Try.pinned (OpenSpec.upto rootApartSpec)

/-- 'lampbearerkeep.RootLoaded', WHERE WHAT IT READS IS OF BULK AT MOST 1048576: true; the input reads as it did. -/
def rootLoadedUptoRow : OpenClaim := { program := "ytkbimhccaacobaa", sum := "9b707a43e61aadb95d8ae7fd1c5c38ca13a701e442d5044b0fcdcebf86bb599f", func := "lampbearer/lampbearerkeep.RootLoaded", spec := "rootLoaded", unfollowed := true, recurses := true, loops := true, plainKeys := false, apart := false, narrowed := true }
def RootLoadedUptoSaid : Prop := rootLoadedUptoRow.holds Try.pinned (OpenSpec.upto rootLoadedSpec)

/-- 'lampbearerkeep.ProofAway', WHERE WHAT IT READS IS OF BULK AT MOST 1048576: true; the input reads as it did. -/
def proofAwayUptoRow : OpenClaim := { program := "ytkbimhccaacobaa", sum := "9b707a43e61aadb95d8ae7fd1c5c38ca13a701e442d5044b0fcdcebf86bb599f", func := "lampbearer/lampbearerkeep.ProofAway", spec := "proofAway", unfollowed := true, recurses := true, loops := true, plainKeys := false, apart := false, narrowed := true }
def ProofAwayUptoSaid : Prop := proofAwayUptoRow.holds Try.pinned (OpenSpec.upto proofAwaySpec)

/-- 'lampbearerkeep.ProofOne', WHERE WHAT IT READS IS OF BULK AT MOST 1048576: true; the input reads as it did. -/
def proofOneUptoRow : OpenClaim := { program := "ytkbimhccaacobaa", sum := "9b707a43e61aadb95d8ae7fd1c5c38ca13a701e442d5044b0fcdcebf86bb599f", func := "lampbearer/lampbearerkeep.ProofOne", spec := "proofOne", unfollowed := true, recurses := true, loops := true, plainKeys := false, apart := false, narrowed := true }
def ProofOneUptoSaid : Prop := proofOneUptoRow.holds Try.pinned (OpenSpec.upto proofOneSpec)

/-- 'lampbearerkeep.ProofWhole', WHERE WHAT IT READS IS OF BULK AT MOST 1048576: true; the input reads as it did. -/
def proofWholeUptoRow : OpenClaim := { program := "ytkbimhccaacobaa", sum := "9b707a43e61aadb95d8ae7fd1c5c38ca13a701e442d5044b0fcdcebf86bb599f", func := "lampbearer/lampbearerkeep.ProofWhole", spec := "proofWhole", unfollowed := true, recurses := true, loops := true, plainKeys := false, apart := false, narrowed := true }
def ProofWholeUptoSaid : Prop := proofWholeUptoRow.holds Try.pinned (OpenSpec.upto proofWholeSpec)

/-- 'lampbearerkeep.RootSame', WHERE WHAT IT READS IS OF BULK AT MOST 1048576: true; the input reads as it did. -/
def rootSameUptoRow : OpenClaim := { program := "ytkbimhccaacobaa", sum := "9b707a43e61aadb95d8ae7fd1c5c38ca13a701e442d5044b0fcdcebf86bb599f", func := "lampbearer/lampbearerkeep.RootSame", spec := "rootSame", unfollowed := true, recurses := true, plainKeys := false, apart := false, narrowed := true }
def RootSameUptoSaid : Prop := rootSameUptoRow.holds Try.pinned (OpenSpec.upto rootSameSpec)

/-- 'lampbearerkeep.ProofTrue', WHERE WHAT IT READS IS OF BULK AT MOST 1048576: true; the input reads as it did. -/
def proofTrueUptoRow : OpenClaim := { program := "ytkbimhccaacobaa", sum := "9b707a43e61aadb95d8ae7fd1c5c38ca13a701e442d5044b0fcdcebf86bb599f", func := "lampbearer/lampbearerkeep.ProofTrue", spec := "proofTrue", unfollowed := true, recurses := true, loops := true, plainKeys := false, apart := false, narrowed := true }
def ProofTrueUptoSaid : Prop := proofTrueUptoRow.holds Try.pinned (OpenSpec.upto proofTrueSpec)

/-- 'lampbearerkeep.WorldOrder', WHERE WHAT IT READS IS OF BULK AT MOST 1048576: true; the input reads as it did. -/
def worldOrderUptoRow : OpenClaim := { program := "ytkbimhccaacobaa", sum := "9b707a43e61aadb95d8ae7fd1c5c38ca13a701e442d5044b0fcdcebf86bb599f", func := "lampbearer/lampbearerkeep.WorldOrder", spec := "worldOrder", inPlace := ["internal/bytealg.Compare", "slices.overlaps[lampbearer/api.Holder]"], unfollowed := true, recurses := true, plainKeys := false, apart := false, narrowed := true }
def WorldOrderUptoSaid : Prop := worldOrderUptoRow.holds Try.pinned (OpenSpec.upto worldOrderSpec)

/-- 'lampbearerkeep.WorldLeafBack', WHERE WHAT IT READS IS OF BULK AT MOST 1048576: true; the input reads as it did. -/
def worldLeafBackUptoRow : OpenClaim := { program := "ytkbimhccaacobaa", sum := "9b707a43e61aadb95d8ae7fd1c5c38ca13a701e442d5044b0fcdcebf86bb599f", func := "lampbearer/lampbearerkeep.WorldLeafBack", spec := "worldLeafBack", inPlace := ["internal/bytealg.Compare", "slices.overlaps[lampbearer/api.Holder]"], unfollowed := true, recurses := true, plainKeys := false, apart := false, narrowed := true }
def WorldLeafBackUptoSaid : Prop := worldLeafBackUptoRow.holds Try.pinned (OpenSpec.upto worldLeafBackSpec)

/-- 'lampbearerkeep.WorldRead', WHERE WHAT IT READS IS OF BULK AT MOST 1048576: true; the input reads as it did. -/
def worldReadUptoRow : OpenClaim := { program := "ytkbimhccaacobaa", sum := "9b707a43e61aadb95d8ae7fd1c5c38ca13a701e442d5044b0fcdcebf86bb599f", func := "lampbearer/lampbearerkeep.WorldRead", spec := "worldRead", inPlace := ["internal/bytealg.Compare", "slices.overlaps[lampbearer/api.Holder]"], unfollowed := true, recurses := true, plainKeys := false, apart := false, narrowed := true }
def WorldReadUptoSaid : Prop := worldReadUptoRow.holds Try.pinned (OpenSpec.upto worldReadSpec)

end Rows
end Go.Proofs.Ytkbimhccaacobaa

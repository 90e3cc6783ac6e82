/-
  NARROWER THAN 'FOR EVERY INPUT', by the rows' own cells (each row's printed sentence says how): PackApart: loops · PackBack: loops · PackEnds: loops · PackTorn: loops.
  DERIVED. THE GIVEN ROWS OF THIS SEAT. 12 by the template 'for every input the law returns true; each argument reads behind the call as it read before'; 0 by the template 'total and deterministic' (their statements: YtgeccggkdgpkiaaTotals.lean).
  GIVEN WITH THE SEED: the statements are not yours to turn. If you find one false, say at which input.
  Laid BY PROGRAM, IN A SANDBOX (cutbox-rows.mjs): the forced cells as the released guide's own fill.sh prints them over the translation 0e2cd353cd72ed52… (all of the seat's roots in one cut). By AI agents, Wed Nov 11 2026. No macro, syntax, notation, axiom, sorry.
-/
import Derived.Test.YtgeccggkdgpkiaaChecked
import GoSem.Claim
import GoSem.ClaimJoined
import GoSem.ClaimMapViews
import Derived.JoinedTies
import Derived.KernelRfl
namespace Go.Proofs.Ytgeccggkdgpkiaa
/- THE CELL 'sum', in the pinned program and in every row, IS THE sha256 OF THE DUMP (.gsa) THAT YtgeccggkdgpkiaaProg.lean LOADS. Nothing in Lean hashes anything: it is a label: what it is worth is what the hold of that sum in a sandbox is worth. -/
noncomputable def Try.pinned : Pinned := { name := "ytgeccggkdgpkiaa", sum := "0e2cd353cd72ed529744ad350885ffede29769e998d4dc2f93667e8c9abe8031", checked := Try.checked }
namespace Rows
def none {H : Type} : Left H := { results := [], args := [] }

/-- 'lampbearerkeep.SpongeBack': WHATEVER THE INPUT: true; the input reads as it did. -/
def spongeBackSpec : ChangeSpec := { name := "spongeBack", fn := fun _ => fun
  | [d1, d2] => { results := [.lit (.bool true)], args := [d1, d2] }
  | _ => none }
def spongeBackRow : OpenClaim := { program := "ytgeccggkdgpkiaa", sum := "0e2cd353cd72ed529744ad350885ffede29769e998d4dc2f93667e8c9abe8031", func := "lampbearer/lampbearerkeep.SpongeBack", spec := "spongeBack", apart := false }
def SpongeBackSaid : Prop := spongeBackRow.holds Try.pinned (OpenSpec.ofChange spongeBackSpec)

/-- ITS FALSE NEIGHBOUR: 'it returns false'. Refute it at one input. -/
def spongeBackWrong : ChangeSpec := { name := "spongeBack", fn := fun _ => fun
  | [d1, d2] => { results := [.lit (.bool false)], args := [d1, d2] }
  | _ => none }
def SpongeBackWrongFalsely : Prop := spongeBackRow.holds Try.pinned (OpenSpec.ofChange spongeBackWrong)

/-- 'lampbearerkeep.SpongeApart': WHATEVER THE INPUT: true; the input reads as it did. -/
def spongeApartSpec : ChangeSpec := { name := "spongeApart", fn := fun _ => fun
  | [d1, d2] => { results := [.lit (.bool true)], args := [d1, d2] }
  | _ => none }
def spongeApartRow : OpenClaim := { program := "ytgeccggkdgpkiaa", sum := "0e2cd353cd72ed529744ad350885ffede29769e998d4dc2f93667e8c9abe8031", func := "lampbearer/lampbearerkeep.SpongeApart", spec := "spongeApart", apart := false }
def SpongeApartSaid : Prop := spongeApartRow.holds Try.pinned (OpenSpec.ofChange spongeApartSpec)

/-- ITS FALSE NEIGHBOUR: 'it returns false'. Refute it at one input. -/
def spongeApartWrong : ChangeSpec := { name := "spongeApart", fn := fun _ => fun
  | [d1, d2] => { results := [.lit (.bool false)], args := [d1, d2] }
  | _ => none }
def SpongeApartWrongFalsely : Prop := spongeApartRow.holds Try.pinned (OpenSpec.ofChange spongeApartWrong)

/-- 'lampbearerkeep.SpongeParts': WHATEVER THE INPUT: true; the input reads as it did. -/
def spongePartsSpec : ChangeSpec := { name := "spongeParts", fn := fun _ => fun
  | [d1, d2] => { results := [.lit (.bool true)], args := [d1, d2] }
  | _ => none }
def spongePartsRow : OpenClaim := { program := "ytgeccggkdgpkiaa", sum := "0e2cd353cd72ed529744ad350885ffede29769e998d4dc2f93667e8c9abe8031", func := "lampbearer/lampbearerkeep.SpongeParts", spec := "spongeParts", unfollowed := true, recurses := true, apart := false }
def SpongePartsSaid : Prop := spongePartsRow.holds Try.pinned (OpenSpec.ofChange spongePartsSpec)

/-- ITS FALSE NEIGHBOUR: 'it returns false'. Refute it at one input. -/
def spongePartsWrong : ChangeSpec := { name := "spongeParts", fn := fun _ => fun
  | [d1, d2] => { results := [.lit (.bool false)], args := [d1, d2] }
  | _ => none }
def SpongePartsWrongFalsely : Prop := spongePartsRow.holds Try.pinned (OpenSpec.ofChange spongePartsWrong)

/-- 'lampbearerkeep.BloomNever': WHATEVER THE INPUT: true; the input reads as it did. -/
def bloomNeverSpec : ChangeSpec := { name := "bloomNever", fn := fun _ => fun
  | [d1, d2] => { results := [.lit (.bool true)], args := [d1, d2] }
  | _ => none }
def bloomNeverRow : OpenClaim := { program := "ytgeccggkdgpkiaa", sum := "0e2cd353cd72ed529744ad350885ffede29769e998d4dc2f93667e8c9abe8031", func := "lampbearer/lampbearerkeep.BloomNever", spec := "bloomNever", apart := false }
def BloomNeverSaid : Prop := bloomNeverRow.holds Try.pinned (OpenSpec.ofChange bloomNeverSpec)

/-- ITS FALSE NEIGHBOUR: 'it returns false'. Refute it at one input. -/
def bloomNeverWrong : ChangeSpec := { name := "bloomNever", fn := fun _ => fun
  | [d1, d2] => { results := [.lit (.bool false)], args := [d1, d2] }
  | _ => none }
def BloomNeverWrongFalsely : Prop := bloomNeverRow.holds Try.pinned (OpenSpec.ofChange bloomNeverWrong)

/-- 'lampbearerkeep.BloomWithin': WHATEVER THE INPUT: true; the input reads as it did. -/
def bloomWithinSpec : ChangeSpec := { name := "bloomWithin", fn := fun _ => fun
  | [d1, d2, d3] => { results := [.lit (.bool true)], args := [d1, d2, d3] }
  | _ => none }
def bloomWithinRow : OpenClaim := { program := "ytgeccggkdgpkiaa", sum := "0e2cd353cd72ed529744ad350885ffede29769e998d4dc2f93667e8c9abe8031", func := "lampbearer/lampbearerkeep.BloomWithin", spec := "bloomWithin", apart := false }
def BloomWithinSaid : Prop := bloomWithinRow.holds Try.pinned (OpenSpec.ofChange bloomWithinSpec)

/-- ITS FALSE NEIGHBOUR: 'it returns false'. Refute it at one input. -/
def bloomWithinWrong : ChangeSpec := { name := "bloomWithin", fn := fun _ => fun
  | [d1, d2, d3] => { results := [.lit (.bool false)], args := [d1, d2, d3] }
  | _ => none }
def BloomWithinWrongFalsely : Prop := bloomWithinRow.holds Try.pinned (OpenSpec.ofChange bloomWithinWrong)

/-- 'lampbearerkeep.BloomJoins': WHATEVER THE INPUT: true; the input reads as it did. -/
def bloomJoinsSpec : ChangeSpec := { name := "bloomJoins", fn := fun _ => fun
  | [d1, d2] => { results := [.lit (.bool true)], args := [d1, d2] }
  | _ => none }
def bloomJoinsRow : OpenClaim := { program := "ytgeccggkdgpkiaa", sum := "0e2cd353cd72ed529744ad350885ffede29769e998d4dc2f93667e8c9abe8031", func := "lampbearer/lampbearerkeep.BloomJoins", spec := "bloomJoins", apart := false }
def BloomJoinsSaid : Prop := bloomJoinsRow.holds Try.pinned (OpenSpec.ofChange bloomJoinsSpec)

/-- ITS FALSE NEIGHBOUR: 'it returns false'. Refute it at one input. -/
def bloomJoinsWrong : ChangeSpec := { name := "bloomJoins", fn := fun _ => fun
  | [d1, d2] => { results := [.lit (.bool false)], args := [d1, d2] }
  | _ => none }
def BloomJoinsWrongFalsely : Prop := bloomJoinsRow.holds Try.pinned (OpenSpec.ofChange bloomJoinsWrong)

/-- 'lampbearerkeep.PackApart': WHATEVER THE INPUT: true; the input reads as it did. -/
def packApartSpec : ChangeSpec := { name := "packApart", fn := fun _ => fun
  | [d1, d2] => { results := [.lit (.bool true)], args := [d1, d2] }
  | _ => none }
def packApartRow : OpenClaim := { program := "ytgeccggkdgpkiaa", sum := "0e2cd353cd72ed529744ad350885ffede29769e998d4dc2f93667e8c9abe8031", func := "lampbearer/lampbearerkeep.PackApart", spec := "packApart", unfollowed := true, recurses := true, loops := true, apart := false }
def PackApartSaid : Prop := packApartRow.holds Try.pinned (OpenSpec.ofChange packApartSpec)

/-- ITS FALSE NEIGHBOUR: 'it returns false'. Refute it at one input. -/
def packApartWrong : ChangeSpec := { name := "packApart", fn := fun _ => fun
  | [d1, d2] => { results := [.lit (.bool false)], args := [d1, d2] }
  | _ => none }
def PackApartWrongFalsely : Prop := packApartRow.holds Try.pinned (OpenSpec.ofChange packApartWrong)

/-- 'lampbearerkeep.PackBack': WHATEVER THE INPUT: true; the input reads as it did. -/
def packBackSpec : ChangeSpec := { name := "packBack", fn := fun _ => fun
  | [d] => { results := [.lit (.bool true)], args := [d] }
  | _ => none }
def packBackRow : OpenClaim := { program := "ytgeccggkdgpkiaa", sum := "0e2cd353cd72ed529744ad350885ffede29769e998d4dc2f93667e8c9abe8031", func := "lampbearer/lampbearerkeep.PackBack", spec := "packBack", unfollowed := true, recurses := true, loops := true, apart := false }
def PackBackSaid : Prop := packBackRow.holds Try.pinned (OpenSpec.ofChange packBackSpec)

/-- ITS FALSE NEIGHBOUR: 'it returns false'. Refute it at one input. -/
def packBackWrong : ChangeSpec := { name := "packBack", fn := fun _ => fun
  | [d] => { results := [.lit (.bool false)], args := [d] }
  | _ => none }
def PackBackWrongFalsely : Prop := packBackRow.holds Try.pinned (OpenSpec.ofChange packBackWrong)

/-- 'lampbearerkeep.PackOnly': WHATEVER THE INPUT: true; the input reads as it did. -/
def packOnlySpec : ChangeSpec := { name := "packOnly", fn := fun _ => fun
  | [d] => { results := [.lit (.bool true)], args := [d] }
  | _ => none }
def packOnlyRow : OpenClaim := { program := "ytgeccggkdgpkiaa", sum := "0e2cd353cd72ed529744ad350885ffede29769e998d4dc2f93667e8c9abe8031", func := "lampbearer/lampbearerkeep.PackOnly", spec := "packOnly", unfollowed := true, recurses := true, apart := false }
def PackOnlySaid : Prop := packOnlyRow.holds Try.pinned (OpenSpec.ofChange packOnlySpec)

/-- ITS FALSE NEIGHBOUR: 'it returns false'. Refute it at one input. -/
def packOnlyWrong : ChangeSpec := { name := "packOnly", fn := fun _ => fun
  | [d] => { results := [.lit (.bool false)], args := [d] }
  | _ => none }
def PackOnlyWrongFalsely : Prop := packOnlyRow.holds Try.pinned (OpenSpec.ofChange packOnlyWrong)

/-- 'lampbearerkeep.PackEnds': WHATEVER THE INPUT: true; the input reads as it did. -/
def packEndsSpec : ChangeSpec := { name := "packEnds", fn := fun _ => fun
  | [d1, d2] => { results := [.lit (.bool true)], args := [d1, d2] }
  | _ => none }
def packEndsRow : OpenClaim := { program := "ytgeccggkdgpkiaa", sum := "0e2cd353cd72ed529744ad350885ffede29769e998d4dc2f93667e8c9abe8031", func := "lampbearer/lampbearerkeep.PackEnds", spec := "packEnds", unfollowed := true, recurses := true, loops := true, apart := false }
def PackEndsSaid : Prop := packEndsRow.holds Try.pinned (OpenSpec.ofChange packEndsSpec)

/-- ITS FALSE NEIGHBOUR: 'it returns false'. Refute it at one input. -/
def packEndsWrong : ChangeSpec := { name := "packEnds", fn := fun _ => fun
  | [d1, d2] => { results := [.lit (.bool false)], args := [d1, d2] }
  | _ => none }
def PackEndsWrongFalsely : Prop := packEndsRow.holds Try.pinned (OpenSpec.ofChange packEndsWrong)

/-- 'lampbearerkeep.PackTorn': WHATEVER THE INPUT: true; the input reads as it did. -/
def packTornSpec : ChangeSpec := { name := "packTorn", fn := fun _ => fun
  | [d1, d2] => { results := [.lit (.bool true)], args := [d1, d2] }
  | _ => none }
def packTornRow : OpenClaim := { program := "ytgeccggkdgpkiaa", sum := "0e2cd353cd72ed529744ad350885ffede29769e998d4dc2f93667e8c9abe8031", func := "lampbearer/lampbearerkeep.PackTorn", spec := "packTorn", unfollowed := true, recurses := true, loops := true, apart := false }
def PackTornSaid : Prop := packTornRow.holds Try.pinned (OpenSpec.ofChange packTornSpec)

/-- ITS FALSE NEIGHBOUR: 'it returns false'. Refute it at one input. -/
def packTornWrong : ChangeSpec := { name := "packTorn", fn := fun _ => fun
  | [d1, d2] => { results := [.lit (.bool false)], args := [d1, d2] }
  | _ => none }
def PackTornWrongFalsely : Prop := packTornRow.holds Try.pinned (OpenSpec.ofChange packTornWrong)

/-- 'lampbearerkeep.PackNumBack': WHATEVER THE INPUT: true; the input reads as it did. -/
def packNumBackSpec : ChangeSpec := { name := "packNumBack", fn := fun _ => fun
  | [d1, d2, d3] => { results := [.lit (.bool true)], args := [d1, d2, d3] }
  | _ => none }
def packNumBackRow : OpenClaim := { program := "ytgeccggkdgpkiaa", sum := "0e2cd353cd72ed529744ad350885ffede29769e998d4dc2f93667e8c9abe8031", func := "lampbearer/lampbearerkeep.PackNumBack", spec := "packNumBack", unfollowed := true, recurses := true, apart := false }
def PackNumBackSaid : Prop := packNumBackRow.holds Try.pinned (OpenSpec.ofChange packNumBackSpec)

/-- ITS FALSE NEIGHBOUR: 'it returns false'. Refute it at one input. -/
def packNumBackWrong : ChangeSpec := { name := "packNumBack", fn := fun _ => fun
  | [d1, d2, d3] => { results := [.lit (.bool false)], args := [d1, d2, d3] }
  | _ => none }
def PackNumBackWrongFalsely : Prop := packNumBackRow.holds Try.pinned (OpenSpec.ofChange packNumBackWrong)

/- THE SECOND FORM. 'bulk': how many values and letters a reading holds, each counted each time it is reached (what is shared counts as often as it is met; a slice's spare places count too). A statement '..UptoSaid' is the law's where the arguments, and the package variables that the reading takes, are together of bulk at most 1048576: NARROWER than '..Said'. Prove '..Said' where nothing that the law and all that it calls make is longer than what came in: it says more and counts as full. Else prove '..UptoSaid'. A law counts once. -/
mutual
def uptoBulk {H : Type} : DataW H → Nat
  | .lit (.string bytes) => bytes.length + 1
  | .lit _ => 1
  | .nil => 1
  | .ptr d => uptoBulk d + 1
  | .slice elems spare => uptoBulkAll elems + uptoBulkAll spare + 1
  | .agg parts => uptoBulkAll parts + 1
  | .iface _ d => uptoBulk d + 1
  | .map entries => uptoBulkEntries entries + 1
  | .held _ => 1
def uptoBulkAll {H : Type} : List (DataW H) → Nat
  | [] => 0
  | d :: r => uptoBulk d + uptoBulkAll r
def uptoBulkEntries {H : Type} : List (Lit × DataW H) → Nat
  | [] => 0
  | x :: r => uptoBulkEntry x + uptoBulkEntries r
def uptoBulkEntry {H : Type} : Lit × DataW H → Nat
  | (.string bytes, d) => bytes.length + uptoBulk d + 1
  | (_, d) => uptoBulk d + 1
 end
def uptoSmall : (H : Type) → List (DataW H) → Bool := fun _ ds => decide (uptoBulkAll ds ≤ 1048576)
def OpenSpec.upto (s : _root_.Go.ChangeSpec) : _root_.Go.OpenSpec := { _root_.Go.OpenSpec.ofChange s with cond := some uptoSmall }

/-- 'lampbearerkeep.SpongeBack', WHERE WHAT IT READS IS OF BULK AT MOST 1048576: true; the input reads as it did. -/
def spongeBackUptoRow : OpenClaim := { program := "ytgeccggkdgpkiaa", sum := "0e2cd353cd72ed529744ad350885ffede29769e998d4dc2f93667e8c9abe8031", func := "lampbearer/lampbearerkeep.SpongeBack", spec := "spongeBack", apart := false, narrowed := true }
def SpongeBackUptoSaid : Prop := spongeBackUptoRow.holds Try.pinned (OpenSpec.upto spongeBackSpec)

/-- 'lampbearerkeep.SpongeApart', WHERE WHAT IT READS IS OF BULK AT MOST 1048576: true; the input reads as it did. -/
def spongeApartUptoRow : OpenClaim := { program := "ytgeccggkdgpkiaa", sum := "0e2cd353cd72ed529744ad350885ffede29769e998d4dc2f93667e8c9abe8031", func := "lampbearer/lampbearerkeep.SpongeApart", spec := "spongeApart", apart := false, narrowed := true }
def SpongeApartUptoSaid : Prop := spongeApartUptoRow.holds Try.pinned (OpenSpec.upto spongeApartSpec)

/-- 'lampbearerkeep.SpongeParts', WHERE WHAT IT READS IS OF BULK AT MOST 1048576: true; the input reads as it did. -/
def spongePartsUptoRow : OpenClaim := { program := "ytgeccggkdgpkiaa", sum := "0e2cd353cd72ed529744ad350885ffede29769e998d4dc2f93667e8c9abe8031", func := "lampbearer/lampbearerkeep.SpongeParts", spec := "spongeParts", unfollowed := true, recurses := true, apart := false, narrowed := true }
def SpongePartsUptoSaid : Prop := spongePartsUptoRow.holds Try.pinned (OpenSpec.upto spongePartsSpec)

/-- 'lampbearerkeep.BloomNever', WHERE WHAT IT READS IS OF BULK AT MOST 1048576: true; the input reads as it did. -/
def bloomNeverUptoRow : OpenClaim := { program := "ytgeccggkdgpkiaa", sum := "0e2cd353cd72ed529744ad350885ffede29769e998d4dc2f93667e8c9abe8031", func := "lampbearer/lampbearerkeep.BloomNever", spec := "bloomNever", apart := false, narrowed := true }
def BloomNeverUptoSaid : Prop := bloomNeverUptoRow.holds Try.pinned (OpenSpec.upto bloomNeverSpec)

/-- 'lampbearerkeep.BloomWithin', WHERE WHAT IT READS IS OF BULK AT MOST 1048576: true; the input reads as it did. -/
def bloomWithinUptoRow : OpenClaim := { program := "ytgeccggkdgpkiaa", sum := "0e2cd353cd72ed529744ad350885ffede29769e998d4dc2f93667e8c9abe8031", func := "lampbearer/lampbearerkeep.BloomWithin", spec := "bloomWithin", apart := false, narrowed := true }
def BloomWithinUptoSaid : Prop := bloomWithinUptoRow.holds Try.pinned (OpenSpec.upto bloomWithinSpec)

/-- 'lampbearerkeep.BloomJoins', WHERE WHAT IT READS IS OF BULK AT MOST 1048576: true; the input reads as it did. -/
def bloomJoinsUptoRow : OpenClaim := { program := "ytgeccggkdgpkiaa", sum := "0e2cd353cd72ed529744ad350885ffede29769e998d4dc2f93667e8c9abe8031", func := "lampbearer/lampbearerkeep.BloomJoins", spec := "bloomJoins", apart := false, narrowed := true }
def BloomJoinsUptoSaid : Prop := bloomJoinsUptoRow.holds Try.pinned (OpenSpec.upto bloomJoinsSpec)

/-- 'lampbearerkeep.PackApart', WHERE WHAT IT READS IS OF BULK AT MOST 1048576: true; the input reads as it did. -/
def packApartUptoRow : OpenClaim := { program := "ytgeccggkdgpkiaa", sum := "0e2cd353cd72ed529744ad350885ffede29769e998d4dc2f93667e8c9abe8031", func := "lampbearer/lampbearerkeep.PackApart", spec := "packApart", unfollowed := true, recurses := true, loops := true, apart := false, narrowed := true }
def PackApartUptoSaid : Prop := packApartUptoRow.holds Try.pinned (OpenSpec.upto packApartSpec)

/-- 'lampbearerkeep.PackBack', WHERE WHAT IT READS IS OF BULK AT MOST 1048576: true; the input reads as it did. -/
def packBackUptoRow : OpenClaim := { program := "ytgeccggkdgpkiaa", sum := "0e2cd353cd72ed529744ad350885ffede29769e998d4dc2f93667e8c9abe8031", func := "lampbearer/lampbearerkeep.PackBack", spec := "packBack", unfollowed := true, recurses := true, loops := true, apart := false, narrowed := true }
def PackBackUptoSaid : Prop := packBackUptoRow.holds Try.pinned (OpenSpec.upto packBackSpec)

/-- 'lampbearerkeep.PackOnly', WHERE WHAT IT READS IS OF BULK AT MOST 1048576: true; the input reads as it did. -/
def packOnlyUptoRow : OpenClaim := { program := "ytgeccggkdgpkiaa", sum := "0e2cd353cd72ed529744ad350885ffede29769e998d4dc2f93667e8c9abe8031", func := "lampbearer/lampbearerkeep.PackOnly", spec := "packOnly", unfollowed := true, recurses := true, apart := false, narrowed := true }
def PackOnlyUptoSaid : Prop := packOnlyUptoRow.holds Try.pinned (OpenSpec.upto packOnlySpec)

/-- 'lampbearerkeep.PackEnds', WHERE WHAT IT READS IS OF BULK AT MOST 1048576: true; the input reads as it did. -/
def packEndsUptoRow : OpenClaim := { program := "ytgeccggkdgpkiaa", sum := "0e2cd353cd72ed529744ad350885ffede29769e998d4dc2f93667e8c9abe8031", func := "lampbearer/lampbearerkeep.PackEnds", spec := "packEnds", unfollowed := true, recurses := true, loops := true, apart := false, narrowed := true }
def PackEndsUptoSaid : Prop := packEndsUptoRow.holds Try.pinned (OpenSpec.upto packEndsSpec)

/-- 'lampbearerkeep.PackTorn', WHERE WHAT IT READS IS OF BULK AT MOST 1048576: true; the input reads as it did. -/
def packTornUptoRow : OpenClaim := { program := "ytgeccggkdgpkiaa", sum := "0e2cd353cd72ed529744ad350885ffede29769e998d4dc2f93667e8c9abe8031", func := "lampbearer/lampbearerkeep.PackTorn", spec := "packTorn", unfollowed := true, recurses := true, loops := true, apart := false, narrowed := true }
def PackTornUptoSaid : Prop := packTornUptoRow.holds Try.pinned (OpenSpec.upto packTornSpec)

/-- 'lampbearerkeep.PackNumBack', WHERE WHAT IT READS IS OF BULK AT MOST 1048576: true; the input reads as it did. -/
def packNumBackUptoRow : OpenClaim := { program := "ytgeccggkdgpkiaa", sum := "0e2cd353cd72ed529744ad350885ffede29769e998d4dc2f93667e8c9abe8031", func := "lampbearer/lampbearerkeep.PackNumBack", spec := "packNumBack", unfollowed := true, recurses := true, apart := false, narrowed := true }
def PackNumBackUptoSaid : Prop := packNumBackUptoRow.holds Try.pinned (OpenSpec.upto packNumBackSpec)

end Rows
end Go.Proofs.Ytgeccggkdgpkiaa

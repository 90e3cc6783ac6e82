/-
  NARROWER THAN 'FOR EVERY INPUT', by the rows' own cells (each row's printed sentence says how): TreeOne: loops · TreeRead: loops · TreeOrder: loops · TreeGone: loops · TreeSorted: loops.
  DERIVED. THE GIVEN ROWS OF THIS SEAT. 5 by the template 'for every input the law returns true; each argument reads behind the call as it read before'; 0 by the template 'total and deterministic' (their statements: YtefidcaaiimkeaaTotals.lean).
  GIVEN WITH THE SEED: the statements are not yours to turn. If you find one false, say at which input.
  Laid BY PROGRAM, IN A SANDBOX (cutbox-rows.mjs): the forced cells as the released guide's own fill.sh prints them over the translation 09776c845e59c45a… (all of the seat's roots in one cut). By AI agents, Wed Nov 11 2026. No macro, syntax, notation, axiom, sorry.
-/
import Derived.Test.YtefidcaaiimkeaaChecked
import GoSem.Claim
import GoSem.ClaimJoined
import GoSem.ClaimMapViews
import Derived.JoinedTies
import Derived.KernelRfl
namespace Go.Proofs.Ytefidcaaiimkeaa
/- THE CELL 'sum', in the pinned program and in every row, IS THE sha256 OF THE DUMP (.gsa) THAT YtefidcaaiimkeaaProg.lean LOADS. Nothing in Lean hashes anything: it is a label: what it is worth is what the hold of that sum in a sandbox is worth. -/
noncomputable def Try.pinned : Pinned := { name := "ytefidcaaiimkeaa", sum := "09776c845e59c45a1d7db2a64ff2b264e6b2cf8ae721f4c591eb9533704d8b61", checked := Try.checked }
namespace Rows
def none {H : Type} : Left H := { results := [], args := [] }

/-- 'lampbearerkeep.TreeOne': WHATEVER THE INPUT: true; the input reads as it did. -/
def treeOneSpec : ChangeSpec := { name := "treeOne", fn := fun _ => fun
  | [d1, d2] => { results := [.lit (.bool true)], args := [d1, d2] }
  | _ => none }
def treeOneRow : OpenClaim := { program := "ytefidcaaiimkeaa", sum := "09776c845e59c45a1d7db2a64ff2b264e6b2cf8ae721f4c591eb9533704d8b61", func := "lampbearer/lampbearerkeep.TreeOne", spec := "treeOne", unfollowed := true, recurses := true, loops := true, apart := false }
def TreeOneSaid : Prop := treeOneRow.holds Try.pinned (OpenSpec.ofChange treeOneSpec)

/-- ITS FALSE NEIGHBOUR: 'it returns false'. Refute it at one input. -/
def treeOneWrong : ChangeSpec := { name := "treeOne", fn := fun _ => fun
  | [d1, d2] => { results := [.lit (.bool false)], args := [d1, d2] }
  | _ => none }
def TreeOneWrongFalsely : Prop := treeOneRow.holds Try.pinned (OpenSpec.ofChange treeOneWrong)

/-- 'lampbearerkeep.TreeRead': WHATEVER THE INPUT: true; the input reads as it did. -/
def treeReadSpec : ChangeSpec := { name := "treeRead", fn := fun _ => fun
  | [d1, d2, d3, d4] => { results := [.lit (.bool true)], args := [d1, d2, d3, d4] }
  | _ => none }
def treeReadRow : OpenClaim := { program := "ytefidcaaiimkeaa", sum := "09776c845e59c45a1d7db2a64ff2b264e6b2cf8ae721f4c591eb9533704d8b61", func := "lampbearer/lampbearerkeep.TreeRead", spec := "treeRead", unfollowed := true, recurses := true, loops := true, apart := false }
def TreeReadSaid : Prop := treeReadRow.holds Try.pinned (OpenSpec.ofChange treeReadSpec)

/-- ITS FALSE NEIGHBOUR: 'it returns false'. Refute it at one input. -/
def treeReadWrong : ChangeSpec := { name := "treeRead", fn := fun _ => fun
  | [d1, d2, d3, d4] => { results := [.lit (.bool false)], args := [d1, d2, d3, d4] }
  | _ => none }
def TreeReadWrongFalsely : Prop := treeReadRow.holds Try.pinned (OpenSpec.ofChange treeReadWrong)

/-- 'lampbearerkeep.TreeOrder': WHATEVER THE INPUT: true; the input reads as it did. -/
def treeOrderSpec : ChangeSpec := { name := "treeOrder", fn := fun _ => fun
  | [d1, d2, d3, d4, d5] => { results := [.lit (.bool true)], args := [d1, d2, d3, d4, d5] }
  | _ => none }
def treeOrderRow : OpenClaim := { program := "ytefidcaaiimkeaa", sum := "09776c845e59c45a1d7db2a64ff2b264e6b2cf8ae721f4c591eb9533704d8b61", func := "lampbearer/lampbearerkeep.TreeOrder", spec := "treeOrder", unfollowed := true, recurses := true, loops := true, apart := false }
def TreeOrderSaid : Prop := treeOrderRow.holds Try.pinned (OpenSpec.ofChange treeOrderSpec)

/-- ITS FALSE NEIGHBOUR: 'it returns false'. Refute it at one input. -/
def treeOrderWrong : ChangeSpec := { name := "treeOrder", fn := fun _ => fun
  | [d1, d2, d3, d4, d5] => { results := [.lit (.bool false)], args := [d1, d2, d3, d4, d5] }
  | _ => none }
def TreeOrderWrongFalsely : Prop := treeOrderRow.holds Try.pinned (OpenSpec.ofChange treeOrderWrong)

/-- 'lampbearerkeep.TreeGone': WHATEVER THE INPUT: true; the input reads as it did. -/
def treeGoneSpec : ChangeSpec := { name := "treeGone", fn := fun _ => fun
  | [d1, d2, d3] => { results := [.lit (.bool true)], args := [d1, d2, d3] }
  | _ => none }
def treeGoneRow : OpenClaim := { program := "ytefidcaaiimkeaa", sum := "09776c845e59c45a1d7db2a64ff2b264e6b2cf8ae721f4c591eb9533704d8b61", func := "lampbearer/lampbearerkeep.TreeGone", spec := "treeGone", unfollowed := true, recurses := true, loops := true, apart := false }
def TreeGoneSaid : Prop := treeGoneRow.holds Try.pinned (OpenSpec.ofChange treeGoneSpec)

/-- ITS FALSE NEIGHBOUR: 'it returns false'. Refute it at one input. -/
def treeGoneWrong : ChangeSpec := { name := "treeGone", fn := fun _ => fun
  | [d1, d2, d3] => { results := [.lit (.bool false)], args := [d1, d2, d3] }
  | _ => none }
def TreeGoneWrongFalsely : Prop := treeGoneRow.holds Try.pinned (OpenSpec.ofChange treeGoneWrong)

/-- 'lampbearerkeep.TreeSorted': WHATEVER THE INPUT: true; the input reads as it did. -/
def treeSortedSpec : ChangeSpec := { name := "treeSorted", fn := fun _ => fun
  | [d1, d2] => { results := [.lit (.bool true)], args := [d1, d2] }
  | _ => none }
def treeSortedRow : OpenClaim := { program := "ytefidcaaiimkeaa", sum := "09776c845e59c45a1d7db2a64ff2b264e6b2cf8ae721f4c591eb9533704d8b61", func := "lampbearer/lampbearerkeep.TreeSorted", spec := "treeSorted", unfollowed := true, recurses := true, loops := true, apart := false }
def TreeSortedSaid : Prop := treeSortedRow.holds Try.pinned (OpenSpec.ofChange treeSortedSpec)

/-- ITS FALSE NEIGHBOUR: 'it returns false'. Refute it at one input. -/
def treeSortedWrong : ChangeSpec := { name := "treeSorted", fn := fun _ => fun
  | [d1, d2] => { results := [.lit (.bool false)], args := [d1, d2] }
  | _ => none }
def TreeSortedWrongFalsely : Prop := treeSortedRow.holds Try.pinned (OpenSpec.ofChange treeSortedWrong)

/- THE SECOND FORM. 'bulk': how many values and letters a reading holds, each counted each time it is reached (what is shared counts as often as it is met; a slice's spare places count too). A statement '..UptoSaid' is the law's where the arguments, and the package variables that the reading takes, are together of bulk at most 1048576: NARROWER than '..Said'. Prove '..Said' where nothing that the law and all that it calls make is longer than what came in: it says more and counts as full. Else prove '..UptoSaid'. A law counts once. -/
mutual
def uptoBulk {H : Type} : DataW H → Nat
  | .lit (.string bytes) => bytes.length + 1
  | .lit _ => 1
  | .nil => 1
  | .ptr d => uptoBulk d + 1
  | .slice elems spare => uptoBulkAll elems + uptoBulkAll spare + 1
  | .agg parts => uptoBulkAll parts + 1
  | .iface _ d => uptoBulk d + 1
  | .map entries => uptoBulkEntries entries + 1
  | .held _ => 1
def uptoBulkAll {H : Type} : List (DataW H) → Nat
  | [] => 0
  | d :: r => uptoBulk d + uptoBulkAll r
def uptoBulkEntries {H : Type} : List (Lit × DataW H) → Nat
  | [] => 0
  | x :: r => uptoBulkEntry x + uptoBulkEntries r
def uptoBulkEntry {H : Type} : Lit × DataW H → Nat
  | (.string bytes, d) => bytes.length + uptoBulk d + 1
  | (_, d) => uptoBulk d + 1
 end
def uptoSmall : (H : Type) → List (DataW H) → Bool := fun _ ds => decide (uptoBulkAll ds ≤ 1048576)
def OpenSpec.upto (s : _root_.Go.ChangeSpec) : _root_.Go.OpenSpec := { _root_.Go.OpenSpec.ofChange s with cond := some uptoSmall }

/-- 'lampbearerkeep.TreeOne', WHERE WHAT IT READS IS OF BULK AT MOST 1048576: true; the input reads as it did. -/
def treeOneUptoRow : OpenClaim := { program := "ytefidcaaiimkeaa", sum := "09776c845e59c45a1d7db2a64ff2b264e6b2cf8ae721f4c591eb9533704d8b61", func := "lampbearer/lampbearerkeep.TreeOne", spec := "treeOne", unfollowed := true, recurses := true, loops := true, apart := false, narrowed := true }
def TreeOneUptoSaid : Prop := treeOneUptoRow.holds Try.pinned (OpenSpec.upto treeOneSpec)

/-- 'lampbearerkeep.TreeRead', WHERE WHAT IT READS IS OF BULK AT MOST 1048576: true; the input reads as it did. -/
def treeReadUptoRow : OpenClaim := { program := "ytefidcaaiimkeaa", sum := "09776c845e59c45a1d7db2a64ff2b264e6b2cf8ae721f4c591eb9533704d8b61", func := "lampbearer/lampbearerkeep.TreeRead", spec := "treeRead", unfollowed := true, recurses := true, loops := true, apart := false, narrowed := true }
def TreeReadUptoSaid : Prop := treeReadUptoRow.holds Try.pinned (OpenSpec.upto treeReadSpec)

/-- 'lampbearerkeep.TreeOrder', WHERE WHAT IT READS IS OF BULK AT MOST 1048576: true; the input reads as it did. -/
def treeOrderUptoRow : OpenClaim := { program := "ytefidcaaiimkeaa", sum := "09776c845e59c45a1d7db2a64ff2b264e6b2cf8ae721f4c591eb9533704d8b61", func := "lampbearer/lampbearerkeep.TreeOrder", spec := "treeOrder", unfollowed := true, recurses := true, loops := true, apart := false, narrowed := true }
def TreeOrderUptoSaid : Prop := treeOrderUptoRow.holds Try.pinned (OpenSpec.upto treeOrderSpec)

/-- 'lampbearerkeep.TreeGone', WHERE WHAT IT READS IS OF BULK AT MOST 1048576: true; the input reads as it did. -/
def treeGoneUptoRow : OpenClaim := { program := "ytefidcaaiimkeaa", sum := "09776c845e59c45a1d7db2a64ff2b264e6b2cf8ae721f4c591eb9533704d8b61", func := "lampbearer/lampbearerkeep.TreeGone", spec := "treeGone", unfollowed := true, recurses := true, loops := true, apart := false, narrowed := true }
def TreeGoneUptoSaid : Prop := treeGoneUptoRow.holds Try.pinned (OpenSpec.upto treeGoneSpec)

/-- 'lampbearerkeep.TreeSorted', WHERE WHAT IT READS IS OF BULK AT MOST 1048576: true; the input reads as it did. -/
def treeSortedUptoRow : OpenClaim := { program := "ytefidcaaiimkeaa", sum := "09776c845e59c45a1d7db2a64ff2b264e6b2cf8ae721f4c591eb9533704d8b61", func := "lampbearer/lampbearerkeep.TreeSorted", spec := "treeSorted", unfollowed := true, recurses := true, loops := true, apart := false, narrowed := true }
def TreeSortedUptoSaid : Prop := treeSortedUptoRow.holds Try.pinned (OpenSpec.upto treeSortedSpec)

end Rows
end Go.Proofs.Ytefidcaaiimkeaa

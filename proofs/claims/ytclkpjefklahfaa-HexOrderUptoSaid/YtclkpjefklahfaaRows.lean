/-
  No cell of these rows narrows 'for every input' (looked for: loops, veiled, ifaces, maps, wideKeys, modest, calm, conditions, laid).
  DERIVED. THE GIVEN ROWS OF THIS SEAT. 5 by the template 'for every input the law returns true; each argument reads behind the call as it read before'; 0 by the template 'total and deterministic' (their statements: YtclkpjefklahfaaTotals.lean).
  GIVEN WITH THE SEED: the statements are not yours to turn. If you find one false, say at which input.
  Laid BY PROGRAM, IN A SANDBOX (cutbox-rows.mjs): the forced cells as the released guide's own fill.sh prints them over the translation 976ef97a09d7a765… (all of the seat's roots in one cut). By AI agents, Wed Nov 11 2026. No macro, syntax, notation, axiom, sorry.
-/
import Derived.Test.YtclkpjefklahfaaChecked
import GoSem.Claim
import GoSem.ClaimJoined
import GoSem.ClaimMapViews
import Derived.JoinedTies
import Derived.KernelRfl
namespace Go.Proofs.Ytclkpjefklahfaa
/- THE CELL 'sum', in the pinned program and in every row, IS THE sha256 OF THE DUMP (.gsa) THAT YtclkpjefklahfaaProg.lean LOADS. Nothing in Lean hashes anything: it is a label: what it is worth is what the hold of that sum in a sandbox is worth. -/
noncomputable def Try.pinned : Pinned := { name := "ytclkpjefklahfaa", sum := "976ef97a09d7a7658d9b43c1cbd7b10fe7c4fbbdf717d5d95ca78963e03d51ab", checked := Try.checked }
namespace Rows
def none {H : Type} : Left H := { results := [], args := [] }

/-- 'lampbearertop.Names': WHATEVER THE INPUT: true; the input reads as it did. -/
def namesSpec : ChangeSpec := { name := "names", fn := fun _ => fun
  | [] => { results := [.lit (.bool true)], args := [] }
  | _ => none }
def namesRow : OpenClaim := { program := "ytclkpjefklahfaa", sum := "976ef97a09d7a7658d9b43c1cbd7b10fe7c4fbbdf717d5d95ca78963e03d51ab", func := "lampbearer/lampbearertop.Names", spec := "names", apart := false }
def NamesSaid : Prop := namesRow.holds Try.pinned (OpenSpec.ofChange namesSpec)

/-- ITS FALSE NEIGHBOUR: 'it returns false'. Refute it at one input. -/
def namesWrong : ChangeSpec := { name := "names", fn := fun _ => fun
  | [] => { results := [.lit (.bool false)], args := [] }
  | _ => none }
def NamesWrongFalsely : Prop := namesRow.holds Try.pinned (OpenSpec.ofChange namesWrong)

/-- 'lampbearerkeep.HexBack': WHATEVER THE INPUT: true; the input reads as it did. -/
def hexBackSpec : ChangeSpec := { name := "hexBack", fn := fun _ => fun
  | [d1, d2] => { results := [.lit (.bool true)], args := [d1, d2] }
  | _ => none }
def hexBackRow : OpenClaim := { program := "ytclkpjefklahfaa", sum := "976ef97a09d7a7658d9b43c1cbd7b10fe7c4fbbdf717d5d95ca78963e03d51ab", func := "lampbearer/lampbearerkeep.HexBack", spec := "hexBack", inPlace := ["math/bits.Add64"], apart := false }
def HexBackSaid : Prop := hexBackRow.holds Try.pinned (OpenSpec.ofChange hexBackSpec)

/-- ITS FALSE NEIGHBOUR: 'it returns false'. Refute it at one input. -/
def hexBackWrong : ChangeSpec := { name := "hexBack", fn := fun _ => fun
  | [d1, d2] => { results := [.lit (.bool false)], args := [d1, d2] }
  | _ => none }
def HexBackWrongFalsely : Prop := hexBackRow.holds Try.pinned (OpenSpec.ofChange hexBackWrong)

/-- 'lampbearerkeep.HexJoin': WHATEVER THE INPUT: true; the input reads as it did. -/
def hexJoinSpec : ChangeSpec := { name := "hexJoin", fn := fun _ => fun
  | [d1, d2] => { results := [.lit (.bool true)], args := [d1, d2] }
  | _ => none }
def hexJoinRow : OpenClaim := { program := "ytclkpjefklahfaa", sum := "976ef97a09d7a7658d9b43c1cbd7b10fe7c4fbbdf717d5d95ca78963e03d51ab", func := "lampbearer/lampbearerkeep.HexJoin", spec := "hexJoin", inPlace := ["math/bits.Add64"], apart := false }
def HexJoinSaid : Prop := hexJoinRow.holds Try.pinned (OpenSpec.ofChange hexJoinSpec)

/-- ITS FALSE NEIGHBOUR: 'it returns false'. Refute it at one input. -/
def hexJoinWrong : ChangeSpec := { name := "hexJoin", fn := fun _ => fun
  | [d1, d2] => { results := [.lit (.bool false)], args := [d1, d2] }
  | _ => none }
def HexJoinWrongFalsely : Prop := hexJoinRow.holds Try.pinned (OpenSpec.ofChange hexJoinWrong)

/-- 'lampbearerkeep.HexNumberBack': WHATEVER THE INPUT: true; the input reads as it did. -/
def hexNumberBackSpec : ChangeSpec := { name := "hexNumberBack", fn := fun _ => fun
  | [d1, d2] => { results := [.lit (.bool true)], args := [d1, d2] }
  | _ => none }
def hexNumberBackRow : OpenClaim := { program := "ytclkpjefklahfaa", sum := "976ef97a09d7a7658d9b43c1cbd7b10fe7c4fbbdf717d5d95ca78963e03d51ab", func := "lampbearer/lampbearerkeep.HexNumberBack", spec := "hexNumberBack", inPlace := ["math/bits.Add64"], apart := false }
def HexNumberBackSaid : Prop := hexNumberBackRow.holds Try.pinned (OpenSpec.ofChange hexNumberBackSpec)

/-- ITS FALSE NEIGHBOUR: 'it returns false'. Refute it at one input. -/
def hexNumberBackWrong : ChangeSpec := { name := "hexNumberBack", fn := fun _ => fun
  | [d1, d2] => { results := [.lit (.bool false)], args := [d1, d2] }
  | _ => none }
def HexNumberBackWrongFalsely : Prop := hexNumberBackRow.holds Try.pinned (OpenSpec.ofChange hexNumberBackWrong)

/-- 'lampbearerkeep.HexOrder': WHATEVER THE INPUT: true; the input reads as it did. -/
def hexOrderSpec : ChangeSpec := { name := "hexOrder", fn := fun _ => fun
  | [d1, d2] => { results := [.lit (.bool true)], args := [d1, d2] }
  | _ => none }
def hexOrderRow : OpenClaim := { program := "ytclkpjefklahfaa", sum := "976ef97a09d7a7658d9b43c1cbd7b10fe7c4fbbdf717d5d95ca78963e03d51ab", func := "lampbearer/lampbearerkeep.HexOrder", spec := "hexOrder", inPlace := ["math/bits.Add64"], apart := false }
def HexOrderSaid : Prop := hexOrderRow.holds Try.pinned (OpenSpec.ofChange hexOrderSpec)

/-- ITS FALSE NEIGHBOUR: 'it returns false'. Refute it at one input. -/
def hexOrderWrong : ChangeSpec := { name := "hexOrder", fn := fun _ => fun
  | [d1, d2] => { results := [.lit (.bool false)], args := [d1, d2] }
  | _ => none }
def HexOrderWrongFalsely : Prop := hexOrderRow.holds Try.pinned (OpenSpec.ofChange hexOrderWrong)

/- THE SECOND FORM. 'bulk': how many values and letters a reading holds, each counted each time it is reached (what is shared counts as often as it is met; a slice's spare places count too). A statement '..UptoSaid' is the law's where the arguments, and the package variables that the reading takes, are together of bulk at most 1048576: NARROWER than '..Said'. Prove '..Said' where nothing that the law and all that it calls make is longer than what came in: it says more and counts as full. Else prove '..UptoSaid'. A law counts once. -/
mutual
def uptoBulk {H : Type} : DataW H → Nat
  | .lit (.string bytes) => bytes.length + 1
  | .lit _ => 1
  | .nil => 1
  | .ptr d => uptoBulk d + 1
  | .slice elems spare => uptoBulkAll elems + uptoBulkAll spare + 1
  | .agg parts => uptoBulkAll parts + 1
  | .iface _ d => uptoBulk d + 1
  | .map entries => uptoBulkEntries entries + 1
  | .held _ => 1
def uptoBulkAll {H : Type} : List (DataW H) → Nat
  | [] => 0
  | d :: r => uptoBulk d + uptoBulkAll r
def uptoBulkEntries {H : Type} : List (Lit × DataW H) → Nat
  | [] => 0
  | x :: r => uptoBulkEntry x + uptoBulkEntries r
def uptoBulkEntry {H : Type} : Lit × DataW H → Nat
  | (.string bytes, d) => bytes.length + uptoBulk d + 1
  | (_, d) => uptoBulk d + 1
 end
def uptoSmall : (H : Type) → List (DataW H) → Bool := fun _ ds => decide (uptoBulkAll ds ≤ 1048576)
def OpenSpec.upto (s : _root_.Go.ChangeSpec) : _root_.Go.OpenSpec := { _root_.Go.OpenSpec.ofChange s with cond := some uptoSmall }

/-- 'lampbearertop.Names', WHERE WHAT IT READS IS OF BULK AT MOST 1048576: true; the input reads as it did. -/
def namesUptoRow : OpenClaim := { program := "ytclkpjefklahfaa", sum := "976ef97a09d7a7658d9b43c1cbd7b10fe7c4fbbdf717d5d95ca78963e03d51ab", func := "lampbearer/lampbearertop.Names", spec := "names", apart := false, narrowed := true }
def NamesUptoSaid : Prop := namesUptoRow.holds Try.pinned (OpenSpec.upto namesSpec)

/-- 'lampbearerkeep.HexBack', WHERE WHAT IT READS IS OF BULK AT MOST 1048576: true; the input reads as it did. -/
def hexBackUptoRow : OpenClaim := { program := "ytclkpjefklahfaa", sum := "976ef97a09d7a7658d9b43c1cbd7b10fe7c4fbbdf717d5d95ca78963e03d51ab", func := "lampbearer/lampbearerkeep.HexBack", spec := "hexBack", inPlace := ["math/bits.Add64"], apart := false, narrowed := true }
def HexBackUptoSaid : Prop := hexBackUptoRow.holds Try.pinned (OpenSpec.upto hexBackSpec)

/-- 'lampbearerkeep.HexJoin', WHERE WHAT IT READS IS OF BULK AT MOST 1048576: true; the input reads as it did. -/
def hexJoinUptoRow : OpenClaim := { program := "ytclkpjefklahfaa", sum := "976ef97a09d7a7658d9b43c1cbd7b10fe7c4fbbdf717d5d95ca78963e03d51ab", func := "lampbearer/lampbearerkeep.HexJoin", spec := "hexJoin", inPlace := ["math/bits.Add64"], apart := false, narrowed := true }
def HexJoinUptoSaid : Prop := hexJoinUptoRow.holds Try.pinned (OpenSpec.upto hexJoinSpec)

/-- 'lampbearerkeep.HexNumberBack', WHERE WHAT IT READS IS OF BULK AT MOST 1048576: true; the input reads as it did. -/
def hexNumberBackUptoRow : OpenClaim := { program := "ytclkpjefklahfaa", sum := "976ef97a09d7a7658d9b43c1cbd7b10fe7c4fbbdf717d5d95ca78963e03d51ab", func := "lampbearer/lampbearerkeep.HexNumberBack", spec := "hexNumberBack", inPlace := ["math/bits.Add64"], apart := false, narrowed := true }
def HexNumberBackUptoSaid : Prop := hexNumberBackUptoRow.holds Try.pinned (OpenSpec.upto hexNumberBackSpec)

/-- 'lampbearerkeep.HexOrder', WHERE WHAT IT READS IS OF BULK AT MOST 1048576: true; the input reads as it did. -/
def hexOrderUptoRow : OpenClaim := { program := "ytclkpjefklahfaa", sum := "976ef97a09d7a7658d9b43c1cbd7b10fe7c4fbbdf717d5d95ca78963e03d51ab", func := "lampbearer/lampbearerkeep.HexOrder", spec := "hexOrder", inPlace := ["math/bits.Add64"], apart := false, narrowed := true }
def HexOrderUptoSaid : Prop := hexOrderUptoRow.holds Try.pinned (OpenSpec.upto hexOrderSpec)

end Rows
end Go.Proofs.Ytclkpjefklahfaa

/-
  No cell of these rows narrows 'for every input' (looked for: loops, veiled, ifaces, maps, wideKeys, modest, calm, conditions, laid).
  DERIVED. THE GIVEN ROWS OF THIS SEAT. 10 by the template 'for every input the law returns true; each argument reads behind the call as it read before'; 0 by the template 'total and deterministic' (their statements: YtpecjhjpdaifoaaTotals.lean).
  GIVEN WITH THE SEED: the statements are not yours to turn. If you find one false, say at which input.
  Laid BY PROGRAM, IN A SANDBOX (cutbox-rows.mjs): the forced cells as the released guide's own fill.sh prints them over the translation 370f1e05cc6affc2… (all of the seat's roots in one cut). By AI agents, Wed Nov 11 2026. No macro, syntax, notation, axiom, sorry.
-/
import Derived.Test.YtpecjhjpdaifoaaChecked
import GoSem.Claim
import GoSem.ClaimJoined
import GoSem.ClaimMapViews
import Derived.JoinedTies
import Derived.KernelRfl
namespace Go.Proofs.Ytpecjhjpdaifoaa
/- THE CELL 'sum', in the pinned program and in every row, IS THE sha256 OF THE DUMP (.gsa) THAT YtpecjhjpdaifoaaProg.lean LOADS. Nothing in Lean hashes anything: it is a label: what it is worth is what the hold of that sum in a sandbox is worth. -/
noncomputable def Try.pinned : Pinned := { name := "ytpecjhjpdaifoaa", sum := "370f1e05cc6affc2958c2d229f64680010639927789da9a786cb073595fd1cc4", checked := Try.checked }
namespace Rows
def none {H : Type} : Left H := { results := [], args := [] }

/-- 'lampbearerkeep.TwosMorgan': WHATEVER THE INPUT: true; the input reads as it did. -/
def twosMorganSpec : ChangeSpec := { name := "twosMorgan", fn := fun _ => fun
  | [d1, d2] => { results := [.lit (.bool true)], args := [d1, d2] }
  | _ => none }
def twosMorganRow : OpenClaim := { program := "ytpecjhjpdaifoaa", sum := "370f1e05cc6affc2958c2d229f64680010639927789da9a786cb073595fd1cc4", func := "lampbearer/lampbearerkeep.TwosMorgan", spec := "twosMorgan", inPlace := ["math/bits.Sub64"], unfollowed := true, recurses := true, apart := false }
def TwosMorganSaid : Prop := twosMorganRow.holds Try.pinned (OpenSpec.ofChange twosMorganSpec)

/-- ITS FALSE NEIGHBOUR: 'it returns false'. Refute it at one input. -/
def twosMorganWrong : ChangeSpec := { name := "twosMorgan", fn := fun _ => fun
  | [d1, d2] => { results := [.lit (.bool false)], args := [d1, d2] }
  | _ => none }
def TwosMorganWrongFalsely : Prop := twosMorganRow.holds Try.pinned (OpenSpec.ofChange twosMorganWrong)

/-- 'lampbearerkeep.HexBack': WHATEVER THE INPUT: true; the input reads as it did. -/
def hexBackSpec : ChangeSpec := { name := "hexBack", fn := fun _ => fun
  | [d1, d2] => { results := [.lit (.bool true)], args := [d1, d2] }
  | _ => none }
def hexBackRow : OpenClaim := { program := "ytpecjhjpdaifoaa", sum := "370f1e05cc6affc2958c2d229f64680010639927789da9a786cb073595fd1cc4", func := "lampbearer/lampbearerkeep.HexBack", spec := "hexBack", inPlace := ["math/bits.Add64"], apart := false }
def HexBackSaid : Prop := hexBackRow.holds Try.pinned (OpenSpec.ofChange hexBackSpec)

/-- ITS FALSE NEIGHBOUR: 'it returns false'. Refute it at one input. -/
def hexBackWrong : ChangeSpec := { name := "hexBack", fn := fun _ => fun
  | [d1, d2] => { results := [.lit (.bool false)], args := [d1, d2] }
  | _ => none }
def HexBackWrongFalsely : Prop := hexBackRow.holds Try.pinned (OpenSpec.ofChange hexBackWrong)

/-- 'lampbearerkeep.HexJoin': WHATEVER THE INPUT: true; the input reads as it did. -/
def hexJoinSpec : ChangeSpec := { name := "hexJoin", fn := fun _ => fun
  | [d1, d2] => { results := [.lit (.bool true)], args := [d1, d2] }
  | _ => none }
def hexJoinRow : OpenClaim := { program := "ytpecjhjpdaifoaa", sum := "370f1e05cc6affc2958c2d229f64680010639927789da9a786cb073595fd1cc4", func := "lampbearer/lampbearerkeep.HexJoin", spec := "hexJoin", inPlace := ["math/bits.Add64"], apart := false }
def HexJoinSaid : Prop := hexJoinRow.holds Try.pinned (OpenSpec.ofChange hexJoinSpec)

/-- ITS FALSE NEIGHBOUR: 'it returns false'. Refute it at one input. -/
def hexJoinWrong : ChangeSpec := { name := "hexJoin", fn := fun _ => fun
  | [d1, d2] => { results := [.lit (.bool false)], args := [d1, d2] }
  | _ => none }
def HexJoinWrongFalsely : Prop := hexJoinRow.holds Try.pinned (OpenSpec.ofChange hexJoinWrong)

/-- 'lampbearerkeep.HexNumberBack': WHATEVER THE INPUT: true; the input reads as it did. -/
def hexNumberBackSpec : ChangeSpec := { name := "hexNumberBack", fn := fun _ => fun
  | [d1, d2] => { results := [.lit (.bool true)], args := [d1, d2] }
  | _ => none }
def hexNumberBackRow : OpenClaim := { program := "ytpecjhjpdaifoaa", sum := "370f1e05cc6affc2958c2d229f64680010639927789da9a786cb073595fd1cc4", func := "lampbearer/lampbearerkeep.HexNumberBack", spec := "hexNumberBack", inPlace := ["math/bits.Add64"], apart := false }
def HexNumberBackSaid : Prop := hexNumberBackRow.holds Try.pinned (OpenSpec.ofChange hexNumberBackSpec)

/-- ITS FALSE NEIGHBOUR: 'it returns false'. Refute it at one input. -/
def hexNumberBackWrong : ChangeSpec := { name := "hexNumberBack", fn := fun _ => fun
  | [d1, d2] => { results := [.lit (.bool false)], args := [d1, d2] }
  | _ => none }
def HexNumberBackWrongFalsely : Prop := hexNumberBackRow.holds Try.pinned (OpenSpec.ofChange hexNumberBackWrong)

/-- 'lampbearerkeep.HexOrder': WHATEVER THE INPUT: true; the input reads as it did. -/
def hexOrderSpec : ChangeSpec := { name := "hexOrder", fn := fun _ => fun
  | [d1, d2] => { results := [.lit (.bool true)], args := [d1, d2] }
  | _ => none }
def hexOrderRow : OpenClaim := { program := "ytpecjhjpdaifoaa", sum := "370f1e05cc6affc2958c2d229f64680010639927789da9a786cb073595fd1cc4", func := "lampbearer/lampbearerkeep.HexOrder", spec := "hexOrder", inPlace := ["math/bits.Add64"], apart := false }
def HexOrderSaid : Prop := hexOrderRow.holds Try.pinned (OpenSpec.ofChange hexOrderSpec)

/-- ITS FALSE NEIGHBOUR: 'it returns false'. Refute it at one input. -/
def hexOrderWrong : ChangeSpec := { name := "hexOrder", fn := fun _ => fun
  | [d1, d2] => { results := [.lit (.bool false)], args := [d1, d2] }
  | _ => none }
def HexOrderWrongFalsely : Prop := hexOrderRow.holds Try.pinned (OpenSpec.ofChange hexOrderWrong)

/-- 'lampbearerkeep.TwosScale': WHATEVER THE INPUT: true; the input reads as it did. -/
def twosScaleSpec : ChangeSpec := { name := "twosScale", fn := fun _ => fun
  | [d1, d2] => { results := [.lit (.bool true)], args := [d1, d2] }
  | _ => none }
def twosScaleRow : OpenClaim := { program := "ytpecjhjpdaifoaa", sum := "370f1e05cc6affc2958c2d229f64680010639927789da9a786cb073595fd1cc4", func := "lampbearer/lampbearerkeep.TwosScale", spec := "twosScale", inPlace := ["math/bits.Sub64", "math/bits.Add64"], unfollowed := true, recurses := true, apart := false }
def TwosScaleSaid : Prop := twosScaleRow.holds Try.pinned (OpenSpec.ofChange twosScaleSpec)

/-- ITS FALSE NEIGHBOUR: 'it returns false'. Refute it at one input. -/
def twosScaleWrong : ChangeSpec := { name := "twosScale", fn := fun _ => fun
  | [d1, d2] => { results := [.lit (.bool false)], args := [d1, d2] }
  | _ => none }
def TwosScaleWrongFalsely : Prop := twosScaleRow.holds Try.pinned (OpenSpec.ofChange twosScaleWrong)

/-- 'lampbearerkeep.TwosCarry': WHATEVER THE INPUT: true; the input reads as it did. -/
def twosCarrySpec : ChangeSpec := { name := "twosCarry", fn := fun _ => fun
  | [d1, d2] => { results := [.lit (.bool true)], args := [d1, d2] }
  | _ => none }
def twosCarryRow : OpenClaim := { program := "ytpecjhjpdaifoaa", sum := "370f1e05cc6affc2958c2d229f64680010639927789da9a786cb073595fd1cc4", func := "lampbearer/lampbearerkeep.TwosCarry", spec := "twosCarry", inPlace := ["math/bits.Sub64", "math/bits.Add64"], unfollowed := true, recurses := true, apart := false }
def TwosCarrySaid : Prop := twosCarryRow.holds Try.pinned (OpenSpec.ofChange twosCarrySpec)

/-- ITS FALSE NEIGHBOUR: 'it returns false'. Refute it at one input. -/
def twosCarryWrong : ChangeSpec := { name := "twosCarry", fn := fun _ => fun
  | [d1, d2] => { results := [.lit (.bool false)], args := [d1, d2] }
  | _ => none }
def TwosCarryWrongFalsely : Prop := twosCarryRow.holds Try.pinned (OpenSpec.ofChange twosCarryWrong)

/-- 'lampbearerkeep.TwosFloor': WHATEVER THE INPUT: true; the input reads as it did. -/
def twosFloorSpec : ChangeSpec := { name := "twosFloor", fn := fun _ => fun
  | [d1, d2] => { results := [.lit (.bool true)], args := [d1, d2] }
  | _ => none }
def twosFloorRow : OpenClaim := { program := "ytpecjhjpdaifoaa", sum := "370f1e05cc6affc2958c2d229f64680010639927789da9a786cb073595fd1cc4", func := "lampbearer/lampbearerkeep.TwosFloor", spec := "twosFloor", inPlace := ["math/bits.Sub64", "math/bits.Add64"], unfollowed := true, recurses := true, apart := false }
def TwosFloorSaid : Prop := twosFloorRow.holds Try.pinned (OpenSpec.ofChange twosFloorSpec)

/-- ITS FALSE NEIGHBOUR: 'it returns false'. Refute it at one input. -/
def twosFloorWrong : ChangeSpec := { name := "twosFloor", fn := fun _ => fun
  | [d1, d2] => { results := [.lit (.bool false)], args := [d1, d2] }
  | _ => none }
def TwosFloorWrongFalsely : Prop := twosFloorRow.holds Try.pinned (OpenSpec.ofChange twosFloorWrong)

/-- 'lampbearerkeep.TwosTruncates': WHATEVER THE INPUT: true; the input reads as it did. -/
def twosTruncatesSpec : ChangeSpec := { name := "twosTruncates", fn := fun _ => fun
  | [d1, d2] => { results := [.lit (.bool true)], args := [d1, d2] }
  | _ => none }
def twosTruncatesRow : OpenClaim := { program := "ytpecjhjpdaifoaa", sum := "370f1e05cc6affc2958c2d229f64680010639927789da9a786cb073595fd1cc4", func := "lampbearer/lampbearerkeep.TwosTruncates", spec := "twosTruncates", inPlace := ["math/bits.Sub64", "math/bits.Add64"], unfollowed := true, recurses := true, apart := false }
def TwosTruncatesSaid : Prop := twosTruncatesRow.holds Try.pinned (OpenSpec.ofChange twosTruncatesSpec)

/-- ITS FALSE NEIGHBOUR: 'it returns false'. Refute it at one input. -/
def twosTruncatesWrong : ChangeSpec := { name := "twosTruncates", fn := fun _ => fun
  | [d1, d2] => { results := [.lit (.bool false)], args := [d1, d2] }
  | _ => none }
def TwosTruncatesWrongFalsely : Prop := twosTruncatesRow.holds Try.pinned (OpenSpec.ofChange twosTruncatesWrong)

/-- 'lampbearerkeep.TwosExtends': WHATEVER THE INPUT: true; the input reads as it did. -/
def twosExtendsSpec : ChangeSpec := { name := "twosExtends", fn := fun _ => fun
  | [d1, d2, d3, d4] => { results := [.lit (.bool true)], args := [d1, d2, d3, d4] }
  | _ => none }
def twosExtendsRow : OpenClaim := { program := "ytpecjhjpdaifoaa", sum := "370f1e05cc6affc2958c2d229f64680010639927789da9a786cb073595fd1cc4", func := "lampbearer/lampbearerkeep.TwosExtends", spec := "twosExtends", inPlace := ["math/bits.Sub64", "math/bits.Add64"], unfollowed := true, recurses := true, apart := false }
def TwosExtendsSaid : Prop := twosExtendsRow.holds Try.pinned (OpenSpec.ofChange twosExtendsSpec)

/-- ITS FALSE NEIGHBOUR: 'it returns false'. Refute it at one input. -/
def twosExtendsWrong : ChangeSpec := { name := "twosExtends", fn := fun _ => fun
  | [d1, d2, d3, d4] => { results := [.lit (.bool false)], args := [d1, d2, d3, d4] }
  | _ => none }
def TwosExtendsWrongFalsely : Prop := twosExtendsRow.holds Try.pinned (OpenSpec.ofChange twosExtendsWrong)

/- THE SECOND FORM. 'bulk': how many values and letters a reading holds, each counted each time it is reached (what is shared counts as often as it is met; a slice's spare places count too). A statement '..UptoSaid' is the law's where the arguments, and the package variables that the reading takes, are together of bulk at most 1048576: NARROWER than '..Said'. Prove '..Said' where nothing that the law and all that it calls make is longer than what came in: it says more and counts as full. Else prove '..UptoSaid'. A law counts once. -/
mutual
def uptoBulk {H : Type} : DataW H → Nat
  | .lit (.string bytes) => bytes.length + 1
  | .lit _ => 1
  | .nil => 1
  | .ptr d => uptoBulk d + 1
  | .slice elems spare => uptoBulkAll elems + uptoBulkAll spare + 1
  | .agg parts => uptoBulkAll parts + 1
  | .iface _ d => uptoBulk d + 1
  | .map entries => uptoBulkEntries entries + 1
  | .held _ => 1
def uptoBulkAll {H : Type} : List (DataW H) → Nat
  | [] => 0
  | d :: r => uptoBulk d + uptoBulkAll r
def uptoBulkEntries {H : Type} : List (Lit × DataW H) → Nat
  | [] => 0
  | x :: r => uptoBulkEntry x + uptoBulkEntries r
def uptoBulkEntry {H : Type} : Lit × DataW H → Nat
  | (.string bytes, d) => bytes.length + uptoBulk d + 1
  | (_, d) => uptoBulk d + 1
 end
def uptoSmall : (H : Type) → List (DataW H) → Bool := fun _ ds => decide (uptoBulkAll ds ≤ 1048576)
def OpenSpec.upto (s : _root_.Go.ChangeSpec) : _root_.Go.OpenSpec := { _root_.Go.OpenSpec.ofChange s with cond := some uptoSmall }

/-- 'lampbearerkeep.TwosMorgan', WHERE WHAT IT READS IS OF BULK AT MOST 1048576: true; the input reads as it did. -/
def twosMorganUptoRow : OpenClaim := { program := "ytpecjhjpdaifoaa", sum := "370f1e05cc6affc2958c2d229f64680010639927789da9a786cb073595fd1cc4", func := "lampbearer/lampbearerkeep.TwosMorgan", spec := "twosMorgan", inPlace := ["math/bits.Sub64"], unfollowed := true, recurses := true, apart := false, narrowed := true }
def TwosMorganUptoSaid : Prop := twosMorganUptoRow.holds Try.pinned (OpenSpec.upto twosMorganSpec)

/-- 'lampbearerkeep.HexBack', WHERE WHAT IT READS IS OF BULK AT MOST 1048576: true; the input reads as it did. -/
def hexBackUptoRow : OpenClaim := { program := "ytpecjhjpdaifoaa", sum := "370f1e05cc6affc2958c2d229f64680010639927789da9a786cb073595fd1cc4", func := "lampbearer/lampbearerkeep.HexBack", spec := "hexBack", inPlace := ["math/bits.Add64"], apart := false, narrowed := true }
def HexBackUptoSaid : Prop := hexBackUptoRow.holds Try.pinned (OpenSpec.upto hexBackSpec)

/-- 'lampbearerkeep.HexJoin', WHERE WHAT IT READS IS OF BULK AT MOST 1048576: true; the input reads as it did. -/
def hexJoinUptoRow : OpenClaim := { program := "ytpecjhjpdaifoaa", sum := "370f1e05cc6affc2958c2d229f64680010639927789da9a786cb073595fd1cc4", func := "lampbearer/lampbearerkeep.HexJoin", spec := "hexJoin", inPlace := ["math/bits.Add64"], apart := false, narrowed := true }
def HexJoinUptoSaid : Prop := hexJoinUptoRow.holds Try.pinned (OpenSpec.upto hexJoinSpec)

/-- 'lampbearerkeep.HexNumberBack', WHERE WHAT IT READS IS OF BULK AT MOST 1048576: true; the input reads as it did. -/
def hexNumberBackUptoRow : OpenClaim := { program := "ytpecjhjpdaifoaa", sum := "370f1e05cc6affc2958c2d229f64680010639927789da9a786cb073595fd1cc4", func := "lampbearer/lampbearerkeep.HexNumberBack", spec := "hexNumberBack", inPlace := ["math/bits.Add64"], apart := false, narrowed := true }
def HexNumberBackUptoSaid : Prop := hexNumberBackUptoRow.holds Try.pinned (OpenSpec.upto hexNumberBackSpec)

/-- 'lampbearerkeep.HexOrder', WHERE WHAT IT READS IS OF BULK AT MOST 1048576: true; the input reads as it did. -/
def hexOrderUptoRow : OpenClaim := { program := "ytpecjhjpdaifoaa", sum := "370f1e05cc6affc2958c2d229f64680010639927789da9a786cb073595fd1cc4", func := "lampbearer/lampbearerkeep.HexOrder", spec := "hexOrder", inPlace := ["math/bits.Add64"], apart := false, narrowed := true }
def HexOrderUptoSaid : Prop := hexOrderUptoRow.holds Try.pinned (OpenSpec.upto hexOrderSpec)

/-- 'lampbearerkeep.TwosScale', WHERE WHAT IT READS IS OF BULK AT MOST 1048576: true; the input reads as it did. -/
def twosScaleUptoRow : OpenClaim := { program := "ytpecjhjpdaifoaa", sum := "370f1e05cc6affc2958c2d229f64680010639927789da9a786cb073595fd1cc4", func := "lampbearer/lampbearerkeep.TwosScale", spec := "twosScale", inPlace := ["math/bits.Sub64", "math/bits.Add64"], unfollowed := true, recurses := true, apart := false, narrowed := true }
def TwosScaleUptoSaid : Prop := twosScaleUptoRow.holds Try.pinned (OpenSpec.upto twosScaleSpec)

/-- 'lampbearerkeep.TwosCarry', WHERE WHAT IT READS IS OF BULK AT MOST 1048576: true; the input reads as it did. -/
def twosCarryUptoRow : OpenClaim := { program := "ytpecjhjpdaifoaa", sum := "370f1e05cc6affc2958c2d229f64680010639927789da9a786cb073595fd1cc4", func := "lampbearer/lampbearerkeep.TwosCarry", spec := "twosCarry", inPlace := ["math/bits.Sub64", "math/bits.Add64"], unfollowed := true, recurses := true, apart := false, narrowed := true }
def TwosCarryUptoSaid : Prop := twosCarryUptoRow.holds Try.pinned (OpenSpec.upto twosCarrySpec)

/-- 'lampbearerkeep.TwosFloor', WHERE WHAT IT READS IS OF BULK AT MOST 1048576: true; the input reads as it did. -/
def twosFloorUptoRow : OpenClaim := { program := "ytpecjhjpdaifoaa", sum := "370f1e05cc6affc2958c2d229f64680010639927789da9a786cb073595fd1cc4", func := "lampbearer/lampbearerkeep.TwosFloor", spec := "twosFloor", inPlace := ["math/bits.Sub64", "math/bits.Add64"], unfollowed := true, recurses := true, apart := false, narrowed := true }
def TwosFloorUptoSaid : Prop := twosFloorUptoRow.holds Try.pinned (OpenSpec.upto twosFloorSpec)

/-- 'lampbearerkeep.TwosTruncates', WHERE WHAT IT READS IS OF BULK AT MOST 1048576: true; the input reads as it did. -/
def twosTruncatesUptoRow : OpenClaim := { program := "ytpecjhjpdaifoaa", sum := "370f1e05cc6affc2958c2d229f64680010639927789da9a786cb073595fd1cc4", func := "lampbearer/lampbearerkeep.TwosTruncates", spec := "twosTruncates", inPlace := ["math/bits.Sub64", "math/bits.Add64"], unfollowed := true, recurses := true, apart := false, narrowed := true }
def TwosTruncatesUptoSaid : Prop := twosTruncatesUptoRow.holds Try.pinned (OpenSpec.upto twosTruncatesSpec)

/-- 'lampbearerkeep.TwosExtends', WHERE WHAT IT READS IS OF BULK AT MOST 1048576: true; the input reads as it did. -/
def twosExtendsUptoRow : OpenClaim := { program := "ytpecjhjpdaifoaa", sum := "370f1e05cc6affc2958c2d229f64680010639927789da9a786cb073595fd1cc4", func := "lampbearer/lampbearerkeep.TwosExtends", spec := "twosExtends", inPlace := ["math/bits.Sub64", "math/bits.Add64"], unfollowed := true, recurses := true, apart := false, narrowed := true }
def TwosExtendsUptoSaid : Prop := twosExtendsUptoRow.holds Try.pinned (OpenSpec.upto twosExtendsSpec)

end Rows
end Go.Proofs.Ytpecjhjpdaifoaa

/-
  No cell of these rows narrows 'for every input' (looked for: loops, veiled, ifaces, maps, wideKeys, modest, calm, conditions, laid).
  DERIVED. THE GIVEN ROWS OF THIS SEAT. 5 by the template 'for every input the law returns true; each argument reads behind the call as it read before'; 0 by the template 'total and deterministic' (their statements: YtgioofknlbdfjaaTotals.lean).
  GIVEN WITH THE SEED: the statements are not yours to turn. If you find one false, say at which input.
  Laid BY PROGRAM, IN A SANDBOX (cutbox-rows.mjs): the forced cells as the released guide's own fill.sh prints them over the translation a618f4dc58777ca1… (all of the seat's roots in one cut). By AI agents, Wed Nov 11 2026. No macro, syntax, notation, axiom, sorry.
-/
import Derived.Test.YtgioofknlbdfjaaChecked
import GoSem.Claim
import GoSem.ClaimJoined
import GoSem.ClaimMapViews
import Derived.JoinedTies
import Derived.KernelRfl
namespace Go.Proofs.Ytgioofknlbdfjaa
/- THE CELL 'sum', in the pinned program and in every row, IS THE sha256 OF THE DUMP (.gsa) THAT YtgioofknlbdfjaaProg.lean LOADS. Nothing in Lean hashes anything: it is a label: what it is worth is what the hold of that sum in a sandbox is worth. -/
noncomputable def Try.pinned : Pinned := { name := "ytgioofknlbdfjaa", sum := "a618f4dc58777ca121b66908059f53dd9c914b837ffe71e13dd3067b5b220b0b", checked := Try.checked }
namespace Rows
def none {H : Type} : Left H := { results := [], args := [] }

/-- 'lampbearerkeep.MemoryOnce': WHATEVER THE INPUT: true; the input reads as it did. -/
def memoryOnceSpec : ChangeSpec := { name := "memoryOnce", fn := fun _ => fun
  | [d] => { results := [.lit (.bool true)], args := [d] }
  | _ => none }
def memoryOnceRow : OpenClaim := { program := "ytgioofknlbdfjaa", sum := "a618f4dc58777ca121b66908059f53dd9c914b837ffe71e13dd3067b5b220b0b", func := "lampbearer/lampbearerkeep.MemoryOnce", spec := "memoryOnce", inPlace := ["math/bits.Sub64"], apart := false }
def MemoryOnceSaid : Prop := memoryOnceRow.holds Try.pinned (OpenSpec.ofChange memoryOnceSpec)

/-- ITS FALSE NEIGHBOUR: 'it returns false'. Refute it at one input. -/
def memoryOnceWrong : ChangeSpec := { name := "memoryOnce", fn := fun _ => fun
  | [d] => { results := [.lit (.bool false)], args := [d] }
  | _ => none }
def MemoryOnceWrongFalsely : Prop := memoryOnceRow.holds Try.pinned (OpenSpec.ofChange memoryOnceWrong)

/-- 'lampbearerkeep.MemoryConvex': WHATEVER THE INPUT: true; the input reads as it did. -/
def memoryConvexSpec : ChangeSpec := { name := "memoryConvex", fn := fun _ => fun
  | [d] => { results := [.lit (.bool true)], args := [d] }
  | _ => none }
def memoryConvexRow : OpenClaim := { program := "ytgioofknlbdfjaa", sum := "a618f4dc58777ca121b66908059f53dd9c914b837ffe71e13dd3067b5b220b0b", func := "lampbearer/lampbearerkeep.MemoryConvex", spec := "memoryConvex", inPlace := ["math/bits.Sub64"], apart := false }
def MemoryConvexSaid : Prop := memoryConvexRow.holds Try.pinned (OpenSpec.ofChange memoryConvexSpec)

/-- ITS FALSE NEIGHBOUR: 'it returns false'. Refute it at one input. -/
def memoryConvexWrong : ChangeSpec := { name := "memoryConvex", fn := fun _ => fun
  | [d] => { results := [.lit (.bool false)], args := [d] }
  | _ => none }
def MemoryConvexWrongFalsely : Prop := memoryConvexRow.holds Try.pinned (OpenSpec.ofChange memoryConvexWrong)

/-- 'lampbearerkeep.MemoryRead': WHATEVER THE INPUT: true; the input reads as it did. -/
def memoryReadSpec : ChangeSpec := { name := "memoryRead", fn := fun _ => fun
  | [d1, d2, d3, d4] => { results := [.lit (.bool true)], args := [d1, d2, d3, d4] }
  | _ => none }
def memoryReadRow : OpenClaim := { program := "ytgioofknlbdfjaa", sum := "a618f4dc58777ca121b66908059f53dd9c914b837ffe71e13dd3067b5b220b0b", func := "lampbearer/lampbearerkeep.MemoryRead", spec := "memoryRead", inPlace := ["math/bits.Sub64"], apart := false }
def MemoryReadSaid : Prop := memoryReadRow.holds Try.pinned (OpenSpec.ofChange memoryReadSpec)

/-- ITS FALSE NEIGHBOUR: 'it returns false'. Refute it at one input. -/
def memoryReadWrong : ChangeSpec := { name := "memoryRead", fn := fun _ => fun
  | [d1, d2, d3, d4] => { results := [.lit (.bool false)], args := [d1, d2, d3, d4] }
  | _ => none }
def MemoryReadWrongFalsely : Prop := memoryReadRow.holds Try.pinned (OpenSpec.ofChange memoryReadWrong)

/-- 'lampbearerkeep.MemoryCopies': WHATEVER THE INPUT: true; the input reads as it did. -/
def memoryCopiesSpec : ChangeSpec := { name := "memoryCopies", fn := fun _ => fun
  | [d1, d2, d3, d4] => { results := [.lit (.bool true)], args := [d1, d2, d3, d4] }
  | _ => none }
def memoryCopiesRow : OpenClaim := { program := "ytgioofknlbdfjaa", sum := "a618f4dc58777ca121b66908059f53dd9c914b837ffe71e13dd3067b5b220b0b", func := "lampbearer/lampbearerkeep.MemoryCopies", spec := "memoryCopies", inPlace := ["math/bits.Sub64"], unfollowed := true, recurses := true, apart := false }
def MemoryCopiesSaid : Prop := memoryCopiesRow.holds Try.pinned (OpenSpec.ofChange memoryCopiesSpec)

/-- ITS FALSE NEIGHBOUR: 'it returns false'. Refute it at one input. -/
def memoryCopiesWrong : ChangeSpec := { name := "memoryCopies", fn := fun _ => fun
  | [d1, d2, d3, d4] => { results := [.lit (.bool false)], args := [d1, d2, d3, d4] }
  | _ => none }
def MemoryCopiesWrongFalsely : Prop := memoryCopiesRow.holds Try.pinned (OpenSpec.ofChange memoryCopiesWrong)

/-- 'lampbearerkeep.MemoryParts': WHATEVER THE INPUT: true; the input reads as it did. -/
def memoryPartsSpec : ChangeSpec := { name := "memoryParts", fn := fun _ => fun
  | [d1, d2, d3, d4] => { results := [.lit (.bool true)], args := [d1, d2, d3, d4] }
  | _ => none }
def memoryPartsRow : OpenClaim := { program := "ytgioofknlbdfjaa", sum := "a618f4dc58777ca121b66908059f53dd9c914b837ffe71e13dd3067b5b220b0b", func := "lampbearer/lampbearerkeep.MemoryParts", spec := "memoryParts", inPlace := ["math/bits.Sub64"], apart := false }
def MemoryPartsSaid : Prop := memoryPartsRow.holds Try.pinned (OpenSpec.ofChange memoryPartsSpec)

/-- ITS FALSE NEIGHBOUR: 'it returns false'. Refute it at one input. -/
def memoryPartsWrong : ChangeSpec := { name := "memoryParts", fn := fun _ => fun
  | [d1, d2, d3, d4] => { results := [.lit (.bool false)], args := [d1, d2, d3, d4] }
  | _ => none }
def MemoryPartsWrongFalsely : Prop := memoryPartsRow.holds Try.pinned (OpenSpec.ofChange memoryPartsWrong)

/- THE SECOND FORM. 'bulk': how many values and letters a reading holds, each counted each time it is reached (what is shared counts as often as it is met; a slice's spare places count too). A statement '..UptoSaid' is the law's where the arguments, and the package variables that the reading takes, are together of bulk at most 1048576: NARROWER than '..Said'. Prove '..Said' where nothing that the law and all that it calls make is longer than what came in: it says more and counts as full. Else prove '..UptoSaid'. A law counts once. -/
mutual
def uptoBulk {H : Type} : DataW H → Nat
  | .lit (.string bytes) => bytes.length + 1
  | .lit _ => 1
  | .nil => 1
  | .ptr d => uptoBulk d + 1
  | .slice elems spare => uptoBulkAll elems + uptoBulkAll spare + 1
  | .agg parts => uptoBulkAll parts + 1
  | .iface _ d => uptoBulk d + 1
  | .map entries => uptoBulkEntries entries + 1
  | .held _ => 1
def uptoBulkAll {H : Type} : List (DataW H) → Nat
  | [] => 0
  | d :: r => uptoBulk d + uptoBulkAll r
def uptoBulkEntries {H : Type} : List (Lit × DataW H) → Nat
  | [] => 0
  | x :: r => uptoBulkEntry x + uptoBulkEntries r
def uptoBulkEntry {H : Type} : Lit × DataW H → Nat
  | (.string bytes, d) => bytes.length + uptoBulk d + 1
  | (_, d) => uptoBulk d + 1
 end
def uptoSmall : (H : Type) → List (DataW H) → Bool := fun _ ds => decide (uptoBulkAll ds ≤ 1048576)
def OpenSpec.upto (s : _root_.Go.ChangeSpec) : _root_.Go.OpenSpec := { _root_.Go.OpenSpec.ofChange s with cond := some uptoSmall }

/-- 'lampbearerkeep.MemoryOnce', WHERE WHAT IT READS IS OF BULK AT MOST 1048576: true; the input reads as it did. -/
def memoryOnceUptoRow : OpenClaim := { program := "ytgioofknlbdfjaa", sum := "a618f4dc58777ca121b66908059f53dd9c914b837ffe71e13dd3067b5b220b0b", func := "lampbearer/lampbearerkeep.MemoryOnce", spec := "memoryOnce", inPlace := ["math/bits.Sub64"], apart := false, narrowed := true }
def MemoryOnceUptoSaid : Prop := memoryOnceUptoRow.holds Try.pinned (OpenSpec.upto memoryOnceSpec)

/-- 'lampbearerkeep.MemoryConvex', WHERE WHAT IT READS IS OF BULK AT MOST 1048576: true; the input reads as it did. -/
def memoryConvexUptoRow : OpenClaim := { program := "ytgioofknlbdfjaa", sum := "a618f4dc58777ca121b66908059f53dd9c914b837ffe71e13dd3067b5b220b0b", func := "lampbearer/lampbearerkeep.MemoryConvex", spec := "memoryConvex", inPlace := ["math/bits.Sub64"], apart := false, narrowed := true }
def MemoryConvexUptoSaid : Prop := memoryConvexUptoRow.holds Try.pinned (OpenSpec.upto memoryConvexSpec)

/-- 'lampbearerkeep.MemoryRead', WHERE WHAT IT READS IS OF BULK AT MOST 1048576: true; the input reads as it did. -/
def memoryReadUptoRow : OpenClaim := { program := "ytgioofknlbdfjaa", sum := "a618f4dc58777ca121b66908059f53dd9c914b837ffe71e13dd3067b5b220b0b", func := "lampbearer/lampbearerkeep.MemoryRead", spec := "memoryRead", inPlace := ["math/bits.Sub64"], apart := false, narrowed := true }
def MemoryReadUptoSaid : Prop := memoryReadUptoRow.holds Try.pinned (OpenSpec.upto memoryReadSpec)

/-- 'lampbearerkeep.MemoryCopies', WHERE WHAT IT READS IS OF BULK AT MOST 1048576: true; the input reads as it did. -/
def memoryCopiesUptoRow : OpenClaim := { program := "ytgioofknlbdfjaa", sum := "a618f4dc58777ca121b66908059f53dd9c914b837ffe71e13dd3067b5b220b0b", func := "lampbearer/lampbearerkeep.MemoryCopies", spec := "memoryCopies", inPlace := ["math/bits.Sub64"], unfollowed := true, recurses := true, apart := false, narrowed := true }
def MemoryCopiesUptoSaid : Prop := memoryCopiesUptoRow.holds Try.pinned (OpenSpec.upto memoryCopiesSpec)

/-- 'lampbearerkeep.MemoryParts', WHERE WHAT IT READS IS OF BULK AT MOST 1048576: true; the input reads as it did. -/
def memoryPartsUptoRow : OpenClaim := { program := "ytgioofknlbdfjaa", sum := "a618f4dc58777ca121b66908059f53dd9c914b837ffe71e13dd3067b5b220b0b", func := "lampbearer/lampbearerkeep.MemoryParts", spec := "memoryParts", inPlace := ["math/bits.Sub64"], apart := false, narrowed := true }
def MemoryPartsUptoSaid : Prop := memoryPartsUptoRow.holds Try.pinned (OpenSpec.upto memoryPartsSpec)

end Rows
end Go.Proofs.Ytgioofknlbdfjaa

/-
  NARROWER THAN 'FOR EVERY INPUT', by the rows' own cells (each row's printed sentence says how): FrameGas: laid · FrameLands: laid · FrameEuclid: laid · FrameLess: laid · FrameWords: laid · FrameEcho: laid · FrameMore: laid · FrameDeep: laid.
  DERIVED. THE GIVEN ROWS OF THIS SEAT. 8 by the template 'for every input the law returns true; each argument reads behind the call as it read before'; 0 by the template 'total and deterministic' (their statements: YtffaobngpbaklaaGreatDoorTotals.lean).
  GIVEN WITH THE SEED: the statements are not yours to turn. If you find one false, say at which input.
  Laid BY PROGRAM, IN A SANDBOX (cutbox-rows.mjs): the forced cells as the released guide's own fill.sh prints them over the translation 9c0085270063f525… (all of the seat's roots in one cut). By AI agents, Wed Nov 11 2026. No macro, syntax, notation, axiom, sorry.
-/
import Derived.Test.YtffaobngpbaklaaGreatDoorChecked
import GoSem.Claim
import GoSem.ClaimJoined
import GoSem.ClaimMapViews
import Derived.JoinedTies
import Derived.KernelRfl
namespace Go.Proofs.YtffaobngpbaklaaGreatDoor
/- THE CELL 'sum', in the pinned program and in every row, IS THE sha256 OF THE DUMP (.gsa) THAT YtffaobngpbaklaaGreatDoorProg.lean LOADS. Nothing in Lean hashes anything: it is a label: what it is worth is what the hold of that sum in a sandbox is worth. -/
noncomputable def Tryz.pinned : Pinned := { name := "ytffaobngpbaklaagreatdoor", sum := "9c0085270063f5256066caf32e2a22a12fbf5f76b57ed6ddcd7fec782211617e", checked := Tryz.checked }
namespace Rows
def none {H : Type} : Left H := { results := [], args := [] }

/- WHAT THE LISTED PACKAGE-LEVEL VARIABLES READ AS WHEN THE CALL BEGINS. Each datum BY PROGRAM (the guide's laid-datum.mjs) off the statement by which the dump's own 'gosem.cut.vars' lays the variable. In a bare row this is a premise. The card (YtffaobngpbaklaaGreatDoorCards.lean) ties it to the program's text. -/
def laid_math_bits_deBruijn32tab {H : Type} : DataW H := .agg [.lit (.int .u8 0), .lit (.int .u8 1), .lit (.int .u8 28), .lit (.int .u8 2), .lit (.int .u8 29), .lit (.int .u8 14), .lit (.int .u8 24), .lit (.int .u8 3), .lit (.int .u8 30), .lit (.int .u8 22), .lit (.int .u8 20), .lit (.int .u8 15), .lit (.int .u8 25), .lit (.int .u8 17), .lit (.int .u8 4), .lit (.int .u8 8), .lit (.int .u8 31), .lit (.int .u8 27), .lit (.int .u8 13), .lit (.int .u8 23), .lit (.int .u8 21), .lit (.int .u8 19), .lit (.int .u8 16), .lit (.int .u8 7), .lit (.int .u8 26), .lit (.int .u8 12), .lit (.int .u8 18), .lit (.int .u8 6), .lit (.int .u8 11), .lit (.int .u8 5), .lit (.int .u8 10), .lit (.int .u8 9)]
def laid_math_bits_deBruijn64tab {H : Type} : DataW H := .agg [.lit (.int .u8 0), .lit (.int .u8 1), .lit (.int .u8 56), .lit (.int .u8 2), .lit (.int .u8 57), .lit (.int .u8 49), .lit (.int .u8 28), .lit (.int .u8 3), .lit (.int .u8 61), .lit (.int .u8 58), .lit (.int .u8 42), .lit (.int .u8 50), .lit (.int .u8 38), .lit (.int .u8 29), .lit (.int .u8 17), .lit (.int .u8 4), .lit (.int .u8 62), .lit (.int .u8 47), .lit (.int .u8 59), .lit (.int .u8 36), .lit (.int .u8 45), .lit (.int .u8 43), .lit (.int .u8 51), .lit (.int .u8 22), .lit (.int .u8 53), .lit (.int .u8 39), .lit (.int .u8 33), .lit (.int .u8 30), .lit (.int .u8 24), .lit (.int .u8 18), .lit (.int .u8 12), .lit (.int .u8 5), .lit (.int .u8 63), .lit (.int .u8 55), .lit (.int .u8 48), .lit (.int .u8 27), .lit (.int .u8 60), .lit (.int .u8 41), .lit (.int .u8 37), .lit (.int .u8 16), .lit (.int .u8 46), .lit (.int .u8 35), .lit (.int .u8 44), .lit (.int .u8 21), .lit (.int .u8 52), .lit (.int .u8 32), .lit (.int .u8 23), .lit (.int .u8 11), .lit (.int .u8 54), .lit (.int .u8 26), .lit (.int .u8 40), .lit (.int .u8 15), .lit (.int .u8 34), .lit (.int .u8 20), .lit (.int .u8 31), .lit (.int .u8 10), .lit (.int .u8 25), .lit (.int .u8 14), .lit (.int .u8 19), .lit (.int .u8 9), .lit (.int .u8 13), .lit (.int .u8 8), .lit (.int .u8 7), .lit (.int .u8 6)]
def laid_internal_strconv_uint64pow10 {H : Type} : DataW H := .agg [.lit (.int .u64 1), .lit (.int .u64 10), .lit (.int .u64 100), .lit (.int .u64 1000), .lit (.int .u64 10000), .lit (.int .u64 100000), .lit (.int .u64 1000000), .lit (.int .u64 10000000), .lit (.int .u64 100000000), .lit (.int .u64 1000000000), .lit (.int .u64 10000000000), .lit (.int .u64 100000000000), .lit (.int .u64 1000000000000), .lit (.int .u64 10000000000000), .lit (.int .u64 100000000000000), .lit (.int .u64 1000000000000000), .lit (.int .u64 10000000000000000), .lit (.int .u64 100000000000000000), .lit (.int .u64 1000000000000000000), .lit (.int .u64 10000000000000000000)]

/-- 'lampbearerkeep.FrameGas': WHATEVER THE INPUT: true; the input reads as it did. -/
def frameGasSpec : ChangeSpec := { name := "frameGas", fn := fun _ => fun
  | [d1, d2, d3] => { results := [.lit (.bool true)], args := [d1, d2, d3] }
  | _ => none }
def frameGasRow : OpenClaim := { program := "ytffaobngpbaklaagreatdoor", sum := "9c0085270063f5256066caf32e2a22a12fbf5f76b57ed6ddcd7fec782211617e", func := "lampbearer/lampbearerkeep.FrameGas", spec := "frameGas", inPlace := ["math/bits.Sub64", "math/bits.Add64"], unfollowed := true, recurses := true, named := ["internal/strconv.uint64pow10", "math/bits.deBruijn32tab", "math/bits.deBruijn64tab"], apart := false, laid := [("math/bits.deBruijn32tab", laid_math_bits_deBruijn32tab), ("math/bits.deBruijn64tab", laid_math_bits_deBruijn64tab), ("internal/strconv.uint64pow10", laid_internal_strconv_uint64pow10)] }
def FrameGasSaid : Prop := frameGasRow.holds Tryz.pinned (OpenSpec.ofChange frameGasSpec)

/-- ITS FALSE NEIGHBOUR: 'it returns false'. Refute it at one input. -/
def frameGasWrong : ChangeSpec := { name := "frameGas", fn := fun _ => fun
  | [d1, d2, d3] => { results := [.lit (.bool false)], args := [d1, d2, d3] }
  | _ => none }
def FrameGasWrongFalsely : Prop := frameGasRow.holds Tryz.pinned (OpenSpec.ofChange frameGasWrong)

/-- 'lampbearerkeep.FrameLands': WHATEVER THE INPUT: true; the input reads as it did. -/
def frameLandsSpec : ChangeSpec := { name := "frameLands", fn := fun _ => fun
  | [d1, d2] => { results := [.lit (.bool true)], args := [d1, d2] }
  | _ => none }
def frameLandsRow : OpenClaim := { program := "ytffaobngpbaklaagreatdoor", sum := "9c0085270063f5256066caf32e2a22a12fbf5f76b57ed6ddcd7fec782211617e", func := "lampbearer/lampbearerkeep.FrameLands", spec := "frameLands", inPlace := ["math/bits.Sub64", "math/bits.Add64"], unfollowed := true, recurses := true, named := ["internal/strconv.uint64pow10", "math/bits.deBruijn32tab", "math/bits.deBruijn64tab"], apart := false, laid := [("math/bits.deBruijn32tab", laid_math_bits_deBruijn32tab), ("math/bits.deBruijn64tab", laid_math_bits_deBruijn64tab), ("internal/strconv.uint64pow10", laid_internal_strconv_uint64pow10)] }
def FrameLandsSaid : Prop := frameLandsRow.holds Tryz.pinned (OpenSpec.ofChange frameLandsSpec)

/-- ITS FALSE NEIGHBOUR: 'it returns false'. Refute it at one input. -/
def frameLandsWrong : ChangeSpec := { name := "frameLands", fn := fun _ => fun
  | [d1, d2] => { results := [.lit (.bool false)], args := [d1, d2] }
  | _ => none }
def FrameLandsWrongFalsely : Prop := frameLandsRow.holds Tryz.pinned (OpenSpec.ofChange frameLandsWrong)

/-- 'lampbearerkeep.FrameEuclid': WHATEVER THE INPUT: true; the input reads as it did. -/
def frameEuclidSpec : ChangeSpec := { name := "frameEuclid", fn := fun _ => fun
  | [d1, d2, d3] => { results := [.lit (.bool true)], args := [d1, d2, d3] }
  | _ => none }
def frameEuclidRow : OpenClaim := { program := "ytffaobngpbaklaagreatdoor", sum := "9c0085270063f5256066caf32e2a22a12fbf5f76b57ed6ddcd7fec782211617e", func := "lampbearer/lampbearerkeep.FrameEuclid", spec := "frameEuclid", inPlace := ["math/bits.Sub64", "math/bits.Add64"], unfollowed := true, recurses := true, named := ["internal/strconv.uint64pow10", "math/bits.deBruijn32tab", "math/bits.deBruijn64tab"], apart := false, laid := [("math/bits.deBruijn32tab", laid_math_bits_deBruijn32tab), ("math/bits.deBruijn64tab", laid_math_bits_deBruijn64tab), ("internal/strconv.uint64pow10", laid_internal_strconv_uint64pow10)] }
def FrameEuclidSaid : Prop := frameEuclidRow.holds Tryz.pinned (OpenSpec.ofChange frameEuclidSpec)

/-- ITS FALSE NEIGHBOUR: 'it returns false'. Refute it at one input. -/
def frameEuclidWrong : ChangeSpec := { name := "frameEuclid", fn := fun _ => fun
  | [d1, d2, d3] => { results := [.lit (.bool false)], args := [d1, d2, d3] }
  | _ => none }
def FrameEuclidWrongFalsely : Prop := frameEuclidRow.holds Tryz.pinned (OpenSpec.ofChange frameEuclidWrong)

/-- 'lampbearerkeep.FrameLess': WHATEVER THE INPUT: true; the input reads as it did. -/
def frameLessSpec : ChangeSpec := { name := "frameLess", fn := fun _ => fun
  | [d1, d2, d3, d4] => { results := [.lit (.bool true)], args := [d1, d2, d3, d4] }
  | _ => none }
def frameLessRow : OpenClaim := { program := "ytffaobngpbaklaagreatdoor", sum := "9c0085270063f5256066caf32e2a22a12fbf5f76b57ed6ddcd7fec782211617e", func := "lampbearer/lampbearerkeep.FrameLess", spec := "frameLess", inPlace := ["math/bits.Sub64", "math/bits.Add64", "internal/bytealg.IndexByte"], unfollowed := true, recurses := true, named := ["internal/strconv.uint64pow10", "math/bits.deBruijn32tab", "math/bits.deBruijn64tab"], apart := false, laid := [("math/bits.deBruijn32tab", laid_math_bits_deBruijn32tab), ("math/bits.deBruijn64tab", laid_math_bits_deBruijn64tab), ("internal/strconv.uint64pow10", laid_internal_strconv_uint64pow10)] }
def FrameLessSaid : Prop := frameLessRow.holds Tryz.pinned (OpenSpec.ofChange frameLessSpec)

/-- ITS FALSE NEIGHBOUR: 'it returns false'. Refute it at one input. -/
def frameLessWrong : ChangeSpec := { name := "frameLess", fn := fun _ => fun
  | [d1, d2, d3, d4] => { results := [.lit (.bool false)], args := [d1, d2, d3, d4] }
  | _ => none }
def FrameLessWrongFalsely : Prop := frameLessRow.holds Tryz.pinned (OpenSpec.ofChange frameLessWrong)

/-- 'lampbearerkeep.FrameWords': WHATEVER THE INPUT: true; the input reads as it did. -/
def frameWordsSpec : ChangeSpec := { name := "frameWords", fn := fun _ => fun
  | [d1, d2, d3] => { results := [.lit (.bool true)], args := [d1, d2, d3] }
  | _ => none }
def frameWordsRow : OpenClaim := { program := "ytffaobngpbaklaagreatdoor", sum := "9c0085270063f5256066caf32e2a22a12fbf5f76b57ed6ddcd7fec782211617e", func := "lampbearer/lampbearerkeep.FrameWords", spec := "frameWords", inPlace := ["math/bits.Sub64", "math/bits.Add64"], unfollowed := true, recurses := true, named := ["internal/strconv.uint64pow10", "math/bits.deBruijn32tab", "math/bits.deBruijn64tab"], apart := false, laid := [("math/bits.deBruijn32tab", laid_math_bits_deBruijn32tab), ("math/bits.deBruijn64tab", laid_math_bits_deBruijn64tab), ("internal/strconv.uint64pow10", laid_internal_strconv_uint64pow10)] }
def FrameWordsSaid : Prop := frameWordsRow.holds Tryz.pinned (OpenSpec.ofChange frameWordsSpec)

/-- ITS FALSE NEIGHBOUR: 'it returns false'. Refute it at one input. -/
def frameWordsWrong : ChangeSpec := { name := "frameWords", fn := fun _ => fun
  | [d1, d2, d3] => { results := [.lit (.bool false)], args := [d1, d2, d3] }
  | _ => none }
def FrameWordsWrongFalsely : Prop := frameWordsRow.holds Tryz.pinned (OpenSpec.ofChange frameWordsWrong)

/-- 'lampbearerkeep.FrameEcho': WHATEVER THE INPUT: true; the input reads as it did. -/
def frameEchoSpec : ChangeSpec := { name := "frameEcho", fn := fun _ => fun
  | [d] => { results := [.lit (.bool true)], args := [d] }
  | _ => none }
def frameEchoRow : OpenClaim := { program := "ytffaobngpbaklaagreatdoor", sum := "9c0085270063f5256066caf32e2a22a12fbf5f76b57ed6ddcd7fec782211617e", func := "lampbearer/lampbearerkeep.FrameEcho", spec := "frameEcho", inPlace := ["math/bits.Sub64", "math/bits.Add64"], unfollowed := true, recurses := true, named := ["internal/strconv.uint64pow10", "math/bits.deBruijn32tab", "math/bits.deBruijn64tab"], apart := false, laid := [("math/bits.deBruijn32tab", laid_math_bits_deBruijn32tab), ("math/bits.deBruijn64tab", laid_math_bits_deBruijn64tab), ("internal/strconv.uint64pow10", laid_internal_strconv_uint64pow10)] }
def FrameEchoSaid : Prop := frameEchoRow.holds Tryz.pinned (OpenSpec.ofChange frameEchoSpec)

/-- ITS FALSE NEIGHBOUR: 'it returns false'. Refute it at one input. -/
def frameEchoWrong : ChangeSpec := { name := "frameEcho", fn := fun _ => fun
  | [d] => { results := [.lit (.bool false)], args := [d] }
  | _ => none }
def FrameEchoWrongFalsely : Prop := frameEchoRow.holds Tryz.pinned (OpenSpec.ofChange frameEchoWrong)

/-- 'lampbearerkeep.FrameMore': WHATEVER THE INPUT: true; the input reads as it did. -/
def frameMoreSpec : ChangeSpec := { name := "frameMore", fn := fun _ => fun
  | [d1, d2, d3, d4] => { results := [.lit (.bool true)], args := [d1, d2, d3, d4] }
  | _ => none }
def frameMoreRow : OpenClaim := { program := "ytffaobngpbaklaagreatdoor", sum := "9c0085270063f5256066caf32e2a22a12fbf5f76b57ed6ddcd7fec782211617e", func := "lampbearer/lampbearerkeep.FrameMore", spec := "frameMore", inPlace := ["math/bits.Sub64", "math/bits.Add64", "internal/bytealg.IndexByte"], unfollowed := true, recurses := true, named := ["internal/strconv.uint64pow10", "math/bits.deBruijn32tab", "math/bits.deBruijn64tab"], apart := false, laid := [("math/bits.deBruijn32tab", laid_math_bits_deBruijn32tab), ("math/bits.deBruijn64tab", laid_math_bits_deBruijn64tab), ("internal/strconv.uint64pow10", laid_internal_strconv_uint64pow10)] }
def FrameMoreSaid : Prop := frameMoreRow.holds Tryz.pinned (OpenSpec.ofChange frameMoreSpec)

/-- ITS FALSE NEIGHBOUR: 'it returns false'. Refute it at one input. -/
def frameMoreWrong : ChangeSpec := { name := "frameMore", fn := fun _ => fun
  | [d1, d2, d3, d4] => { results := [.lit (.bool false)], args := [d1, d2, d3, d4] }
  | _ => none }
def FrameMoreWrongFalsely : Prop := frameMoreRow.holds Tryz.pinned (OpenSpec.ofChange frameMoreWrong)

/-- 'lampbearerkeep.FrameDeep': WHATEVER THE INPUT: true; the input reads as it did. -/
def frameDeepSpec : ChangeSpec := { name := "frameDeep", fn := fun _ => fun
  | [d1, d2] => { results := [.lit (.bool true)], args := [d1, d2] }
  | _ => none }
def frameDeepRow : OpenClaim := { program := "ytffaobngpbaklaagreatdoor", sum := "9c0085270063f5256066caf32e2a22a12fbf5f76b57ed6ddcd7fec782211617e", func := "lampbearer/lampbearerkeep.FrameDeep", spec := "frameDeep", inPlace := ["math/bits.Sub64", "math/bits.Add64", "internal/bytealg.MakeNoZero"], unfollowed := true, recurses := true, named := ["internal/strconv.uint64pow10", "math/bits.deBruijn32tab", "math/bits.deBruijn64tab"], apart := false, laid := [("math/bits.deBruijn32tab", laid_math_bits_deBruijn32tab), ("math/bits.deBruijn64tab", laid_math_bits_deBruijn64tab), ("internal/strconv.uint64pow10", laid_internal_strconv_uint64pow10)] }
def FrameDeepSaid : Prop := frameDeepRow.holds Tryz.pinned (OpenSpec.ofChange frameDeepSpec)

/-- ITS FALSE NEIGHBOUR: 'it returns false'. Refute it at one input. -/
def frameDeepWrong : ChangeSpec := { name := "frameDeep", fn := fun _ => fun
  | [d1, d2] => { results := [.lit (.bool false)], args := [d1, d2] }
  | _ => none }
def FrameDeepWrongFalsely : Prop := frameDeepRow.holds Tryz.pinned (OpenSpec.ofChange frameDeepWrong)

/- THE SECOND FORM. 'bulk': how many values and letters a reading holds, each counted each time it is reached (what is shared counts as often as it is met; a slice's spare places count too). A statement '..UptoSaid' is the law's where the arguments, and the package variables that the reading takes, are together of bulk at most 1048576: NARROWER than '..Said'. Prove '..Said' where nothing that the law and all that it calls make is longer than what came in: it says more and counts as full. Else prove '..UptoSaid'. A law counts once. -/
mutual
def uptoBulk {H : Type} : DataW H → Nat
  | .lit (.string bytes) => bytes.length + 1
  | .lit _ => 1
  | .nil => 1
  | .ptr d => uptoBulk d + 1
  | .slice elems spare => uptoBulkAll elems + uptoBulkAll spare + 1
  | .agg parts => uptoBulkAll parts + 1
  | .iface _ d => uptoBulk d + 1
  | .map entries => uptoBulkEntries entries + 1
  | .held _ => 1
def uptoBulkAll {H : Type} : List (DataW H) → Nat
  | [] => 0
  | d :: r => uptoBulk d + uptoBulkAll r
def uptoBulkEntries {H : Type} : List (Lit × DataW H) → Nat
  | [] => 0
  | x :: r => uptoBulkEntry x + uptoBulkEntries r
def uptoBulkEntry {H : Type} : Lit × DataW H → Nat
  | (.string bytes, d) => bytes.length + uptoBulk d + 1
  | (_, d) => uptoBulk d + 1
 end
def uptoSmall : (H : Type) → List (DataW H) → Bool := fun _ ds => decide (uptoBulkAll ds ≤ 1048576)
def OpenSpec.upto (s : _root_.Go.ChangeSpec) : _root_.Go.OpenSpec := { _root_.Go.OpenSpec.ofChange s with cond := some uptoSmall }

/-- 'lampbearerkeep.FrameGas', WHERE WHAT IT READS IS OF BULK AT MOST 1048576: true; the input reads as it did. -/
def frameGasUptoRow : OpenClaim := { program := "ytffaobngpbaklaagreatdoor", sum := "9c0085270063f5256066caf32e2a22a12fbf5f76b57ed6ddcd7fec782211617e", func := "lampbearer/lampbearerkeep.FrameGas", spec := "frameGas", inPlace := ["math/bits.Sub64", "math/bits.Add64"], unfollowed := true, recurses := true, named := ["internal/strconv.uint64pow10", "math/bits.deBruijn32tab", "math/bits.deBruijn64tab"], apart := false, laid := [("math/bits.deBruijn32tab", laid_math_bits_deBruijn32tab), ("math/bits.deBruijn64tab", laid_math_bits_deBruijn64tab), ("internal/strconv.uint64pow10", laid_internal_strconv_uint64pow10)], narrowed := true }
def FrameGasUptoSaid : Prop := frameGasUptoRow.holds Tryz.pinned (OpenSpec.upto frameGasSpec)

/-- 'lampbearerkeep.FrameLands', WHERE WHAT IT READS IS OF BULK AT MOST 1048576: true; the input reads as it did. -/
def frameLandsUptoRow : OpenClaim := { program := "ytffaobngpbaklaagreatdoor", sum := "9c0085270063f5256066caf32e2a22a12fbf5f76b57ed6ddcd7fec782211617e", func := "lampbearer/lampbearerkeep.FrameLands", spec := "frameLands", inPlace := ["math/bits.Sub64", "math/bits.Add64"], unfollowed := true, recurses := true, named := ["internal/strconv.uint64pow10", "math/bits.deBruijn32tab", "math/bits.deBruijn64tab"], apart := false, laid := [("math/bits.deBruijn32tab", laid_math_bits_deBruijn32tab), ("math/bits.deBruijn64tab", laid_math_bits_deBruijn64tab), ("internal/strconv.uint64pow10", laid_internal_strconv_uint64pow10)], narrowed := true }
def FrameLandsUptoSaid : Prop := frameLandsUptoRow.holds Tryz.pinned (OpenSpec.upto frameLandsSpec)

/-- 'lampbearerkeep.FrameEuclid', WHERE WHAT IT READS IS OF BULK AT MOST 1048576: true; the input reads as it did. -/
def frameEuclidUptoRow : OpenClaim := { program := "ytffaobngpbaklaagreatdoor", sum := "9c0085270063f5256066caf32e2a22a12fbf5f76b57ed6ddcd7fec782211617e", func := "lampbearer/lampbearerkeep.FrameEuclid", spec := "frameEuclid", inPlace := ["math/bits.Sub64", "math/bits.Add64"], unfollowed := true, recurses := true, named := ["internal/strconv.uint64pow10", "math/bits.deBruijn32tab", "math/bits.deBruijn64tab"], apart := false, laid := [("math/bits.deBruijn32tab", laid_math_bits_deBruijn32tab), ("math/bits.deBruijn64tab", laid_math_bits_deBruijn64tab), ("internal/strconv.uint64pow10", laid_internal_strconv_uint64pow10)], narrowed := true }
def FrameEuclidUptoSaid : Prop := frameEuclidUptoRow.holds Tryz.pinned (OpenSpec.upto frameEuclidSpec)

/-- 'lampbearerkeep.FrameLess', WHERE WHAT IT READS IS OF BULK AT MOST 1048576: true; the input reads as it did. -/
def frameLessUptoRow : OpenClaim := { program := "ytffaobngpbaklaagreatdoor", sum := "9c0085270063f5256066caf32e2a22a12fbf5f76b57ed6ddcd7fec782211617e", func := "lampbearer/lampbearerkeep.FrameLess", spec := "frameLess", inPlace := ["math/bits.Sub64", "math/bits.Add64", "internal/bytealg.IndexByte"], unfollowed := true, recurses := true, named := ["internal/strconv.uint64pow10", "math/bits.deBruijn32tab", "math/bits.deBruijn64tab"], apart := false, laid := [("math/bits.deBruijn32tab", laid_math_bits_deBruijn32tab), ("math/bits.deBruijn64tab", laid_math_bits_deBruijn64tab), ("internal/strconv.uint64pow10", laid_internal_strconv_uint64pow10)], narrowed := true }
def FrameLessUptoSaid : Prop := frameLessUptoRow.holds Tryz.pinned (OpenSpec.upto frameLessSpec)

/-- 'lampbearerkeep.FrameWords', WHERE WHAT IT READS IS OF BULK AT MOST 1048576: true; the input reads as it did. -/
def frameWordsUptoRow : OpenClaim := { program := "ytffaobngpbaklaagreatdoor", sum := "9c0085270063f5256066caf32e2a22a12fbf5f76b57ed6ddcd7fec782211617e", func := "lampbearer/lampbearerkeep.FrameWords", spec := "frameWords", inPlace := ["math/bits.Sub64", "math/bits.Add64"], unfollowed := true, recurses := true, named := ["internal/strconv.uint64pow10", "math/bits.deBruijn32tab", "math/bits.deBruijn64tab"], apart := false, laid := [("math/bits.deBruijn32tab", laid_math_bits_deBruijn32tab), ("math/bits.deBruijn64tab", laid_math_bits_deBruijn64tab), ("internal/strconv.uint64pow10", laid_internal_strconv_uint64pow10)], narrowed := true }
def FrameWordsUptoSaid : Prop := frameWordsUptoRow.holds Tryz.pinned (OpenSpec.upto frameWordsSpec)

/-- 'lampbearerkeep.FrameEcho', WHERE WHAT IT READS IS OF BULK AT MOST 1048576: true; the input reads as it did. -/
def frameEchoUptoRow : OpenClaim := { program := "ytffaobngpbaklaagreatdoor", sum := "9c0085270063f5256066caf32e2a22a12fbf5f76b57ed6ddcd7fec782211617e", func := "lampbearer/lampbearerkeep.FrameEcho", spec := "frameEcho", inPlace := ["math/bits.Sub64", "math/bits.Add64"], unfollowed := true, recurses := true, named := ["internal/strconv.uint64pow10", "math/bits.deBruijn32tab", "math/bits.deBruijn64tab"], apart := false, laid := [("math/bits.deBruijn32tab", laid_math_bits_deBruijn32tab), ("math/bits.deBruijn64tab", laid_math_bits_deBruijn64tab), ("internal/strconv.uint64pow10", laid_internal_strconv_uint64pow10)], narrowed := true }
def FrameEchoUptoSaid : Prop := frameEchoUptoRow.holds Tryz.pinned (OpenSpec.upto frameEchoSpec)

/-- 'lampbearerkeep.FrameMore', WHERE WHAT IT READS IS OF BULK AT MOST 1048576: true; the input reads as it did. -/
def frameMoreUptoRow : OpenClaim := { program := "ytffaobngpbaklaagreatdoor", sum := "9c0085270063f5256066caf32e2a22a12fbf5f76b57ed6ddcd7fec782211617e", func := "lampbearer/lampbearerkeep.FrameMore", spec := "frameMore", inPlace := ["math/bits.Sub64", "math/bits.Add64", "internal/bytealg.IndexByte"], unfollowed := true, recurses := true, named := ["internal/strconv.uint64pow10", "math/bits.deBruijn32tab", "math/bits.deBruijn64tab"], apart := false, laid := [("math/bits.deBruijn32tab", laid_math_bits_deBruijn32tab), ("math/bits.deBruijn64tab", laid_math_bits_deBruijn64tab), ("internal/strconv.uint64pow10", laid_internal_strconv_uint64pow10)], narrowed := true }
def FrameMoreUptoSaid : Prop := frameMoreUptoRow.holds Tryz.pinned (OpenSpec.upto frameMoreSpec)

/-- 'lampbearerkeep.FrameDeep', WHERE WHAT IT READS IS OF BULK AT MOST 1048576: true; the input reads as it did. -/
def frameDeepUptoRow : OpenClaim := { program := "ytffaobngpbaklaagreatdoor", sum := "9c0085270063f5256066caf32e2a22a12fbf5f76b57ed6ddcd7fec782211617e", func := "lampbearer/lampbearerkeep.FrameDeep", spec := "frameDeep", inPlace := ["math/bits.Sub64", "math/bits.Add64", "internal/bytealg.MakeNoZero"], unfollowed := true, recurses := true, named := ["internal/strconv.uint64pow10", "math/bits.deBruijn32tab", "math/bits.deBruijn64tab"], apart := false, laid := [("math/bits.deBruijn32tab", laid_math_bits_deBruijn32tab), ("math/bits.deBruijn64tab", laid_math_bits_deBruijn64tab), ("internal/strconv.uint64pow10", laid_internal_strconv_uint64pow10)], narrowed := true }
def FrameDeepUptoSaid : Prop := frameDeepUptoRow.holds Tryz.pinned (OpenSpec.upto frameDeepSpec)

end Rows
end Go.Proofs.YtffaobngpbaklaaGreatDoor

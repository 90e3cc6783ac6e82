/-
  No cell of these rows narrows 'for every input' (looked for: loops, veiled, ifaces, maps, wideKeys, modest, calm, conditions, laid).
  DERIVED. THE GIVEN ROWS OF THIS SEAT. 4 by the template 'for every input the law returns true; each argument reads behind the call as it read before'; 0 by the template 'total and deterministic' (their statements: YtpchigdcikknmaaTotals.lean).
  GIVEN WITH THE SEED: the statements are not yours to turn. If you find one false, say at which input.
  Laid BY PROGRAM, IN A SANDBOX (cutbox-rows.mjs): the forced cells as the released guide's own fill.sh prints them over the translation adc6d48c59669bcf… (all of the seat's roots in one cut). By AI agents, Wed Nov 11 2026. No macro, syntax, notation, axiom, sorry.
-/
import Derived.Test.YtpchigdcikknmaaChecked
import GoSem.Claim
import GoSem.ClaimJoined
import GoSem.ClaimMapViews
import Derived.JoinedTies
import Derived.KernelRfl
namespace Go.Proofs.Ytpchigdcikknmaa
/- THE CELL 'sum', in the pinned program and in every row, IS THE sha256 OF THE DUMP (.gsa) THAT YtpchigdcikknmaaProg.lean LOADS. Nothing in Lean hashes anything: it is a label: what it is worth is what the hold of that sum in a sandbox is worth. -/
noncomputable def Try.pinned : Pinned := { name := "ytpchigdcikknmaa", sum := "adc6d48c59669bcf21915817d29a76cf69c6c701e49bb157098668393761d960", checked := Try.checked }
namespace Rows
def none {H : Type} : Left H := { results := [], args := [] }

/-- 'lampbearerkeep.SiftNever': WHATEVER THE INPUT: true; the input reads as it did. -/
def siftNeverSpec : ChangeSpec := { name := "siftNever", fn := fun _ => fun
  | [d1, d2, d3] => { results := [.lit (.bool true)], args := [d1, d2, d3] }
  | _ => none }
def siftNeverRow : OpenClaim := { program := "ytpchigdcikknmaa", sum := "adc6d48c59669bcf21915817d29a76cf69c6c701e49bb157098668393761d960", func := "lampbearer/lampbearerkeep.SiftNever", spec := "siftNever", unfollowed := true, recurses := true, apart := false }
def SiftNeverSaid : Prop := siftNeverRow.holds Try.pinned (OpenSpec.ofChange siftNeverSpec)

/-- ITS FALSE NEIGHBOUR: 'it returns false'. Refute it at one input. -/
def siftNeverWrong : ChangeSpec := { name := "siftNever", fn := fun _ => fun
  | [d1, d2, d3] => { results := [.lit (.bool false)], args := [d1, d2, d3] }
  | _ => none }
def SiftNeverWrongFalsely : Prop := siftNeverRow.holds Try.pinned (OpenSpec.ofChange siftNeverWrong)

/-- 'lampbearerkeep.SiftNarrow': WHATEVER THE INPUT: true; the input reads as it did. -/
def siftNarrowSpec : ChangeSpec := { name := "siftNarrow", fn := fun _ => fun
  | [d1, d2, d3] => { results := [.lit (.bool true)], args := [d1, d2, d3] }
  | _ => none }
def siftNarrowRow : OpenClaim := { program := "ytpchigdcikknmaa", sum := "adc6d48c59669bcf21915817d29a76cf69c6c701e49bb157098668393761d960", func := "lampbearer/lampbearerkeep.SiftNarrow", spec := "siftNarrow", unfollowed := true, recurses := true, apart := false }
def SiftNarrowSaid : Prop := siftNarrowRow.holds Try.pinned (OpenSpec.ofChange siftNarrowSpec)

/-- ITS FALSE NEIGHBOUR: 'it returns false'. Refute it at one input. -/
def siftNarrowWrong : ChangeSpec := { name := "siftNarrow", fn := fun _ => fun
  | [d1, d2, d3] => { results := [.lit (.bool false)], args := [d1, d2, d3] }
  | _ => none }
def SiftNarrowWrongFalsely : Prop := siftNarrowRow.holds Try.pinned (OpenSpec.ofChange siftNarrowWrong)

/-- 'lampbearerkeep.SiftSure': WHATEVER THE INPUT: true; the input reads as it did. -/
def siftSureSpec : ChangeSpec := { name := "siftSure", fn := fun _ => fun
  | [d1, d2] => { results := [.lit (.bool true)], args := [d1, d2] }
  | _ => none }
def siftSureRow : OpenClaim := { program := "ytpchigdcikknmaa", sum := "adc6d48c59669bcf21915817d29a76cf69c6c701e49bb157098668393761d960", func := "lampbearer/lampbearerkeep.SiftSure", spec := "siftSure", unfollowed := true, recurses := true, apart := false }
def SiftSureSaid : Prop := siftSureRow.holds Try.pinned (OpenSpec.ofChange siftSureSpec)

/-- ITS FALSE NEIGHBOUR: 'it returns false'. Refute it at one input. -/
def siftSureWrong : ChangeSpec := { name := "siftSure", fn := fun _ => fun
  | [d1, d2] => { results := [.lit (.bool false)], args := [d1, d2] }
  | _ => none }
def SiftSureWrongFalsely : Prop := siftSureRow.holds Try.pinned (OpenSpec.ofChange siftSureWrong)

/-- 'lampbearerkeep.SiftParts': WHATEVER THE INPUT: true; the input reads as it did. -/
def siftPartsSpec : ChangeSpec := { name := "siftParts", fn := fun _ => fun
  | [d1, d2, d3, d4] => { results := [.lit (.bool true)], args := [d1, d2, d3, d4] }
  | _ => none }
def siftPartsRow : OpenClaim := { program := "ytpchigdcikknmaa", sum := "adc6d48c59669bcf21915817d29a76cf69c6c701e49bb157098668393761d960", func := "lampbearer/lampbearerkeep.SiftParts", spec := "siftParts", unfollowed := true, recurses := true, apart := false }
def SiftPartsSaid : Prop := siftPartsRow.holds Try.pinned (OpenSpec.ofChange siftPartsSpec)

/-- ITS FALSE NEIGHBOUR: 'it returns false'. Refute it at one input. -/
def siftPartsWrong : ChangeSpec := { name := "siftParts", fn := fun _ => fun
  | [d1, d2, d3, d4] => { results := [.lit (.bool false)], args := [d1, d2, d3, d4] }
  | _ => none }
def SiftPartsWrongFalsely : Prop := siftPartsRow.holds Try.pinned (OpenSpec.ofChange siftPartsWrong)

/- THE SECOND FORM. 'bulk': how many values and letters a reading holds, each counted each time it is reached (what is shared counts as often as it is met; a slice's spare places count too). A statement '..UptoSaid' is the law's where the arguments, and the package variables that the reading takes, are together of bulk at most 1048576: NARROWER than '..Said'. Prove '..Said' where nothing that the law and all that it calls make is longer than what came in: it says more and counts as full. Else prove '..UptoSaid'. A law counts once. -/
mutual
def uptoBulk {H : Type} : DataW H → Nat
  | .lit (.string bytes) => bytes.length + 1
  | .lit _ => 1
  | .nil => 1
  | .ptr d => uptoBulk d + 1
  | .slice elems spare => uptoBulkAll elems + uptoBulkAll spare + 1
  | .agg parts => uptoBulkAll parts + 1
  | .iface _ d => uptoBulk d + 1
  | .map entries => uptoBulkEntries entries + 1
  | .held _ => 1
def uptoBulkAll {H : Type} : List (DataW H) → Nat
  | [] => 0
  | d :: r => uptoBulk d + uptoBulkAll r
def uptoBulkEntries {H : Type} : List (Lit × DataW H) → Nat
  | [] => 0
  | x :: r => uptoBulkEntry x + uptoBulkEntries r
def uptoBulkEntry {H : Type} : Lit × DataW H → Nat
  | (.string bytes, d) => bytes.length + uptoBulk d + 1
  | (_, d) => uptoBulk d + 1
 end
def uptoSmall : (H : Type) → List (DataW H) → Bool := fun _ ds => decide (uptoBulkAll ds ≤ 1048576)
def OpenSpec.upto (s : _root_.Go.ChangeSpec) : _root_.Go.OpenSpec := { _root_.Go.OpenSpec.ofChange s with cond := some uptoSmall }

/-- 'lampbearerkeep.SiftNever', WHERE WHAT IT READS IS OF BULK AT MOST 1048576: true; the input reads as it did. -/
def siftNeverUptoRow : OpenClaim := { program := "ytpchigdcikknmaa", sum := "adc6d48c59669bcf21915817d29a76cf69c6c701e49bb157098668393761d960", func := "lampbearer/lampbearerkeep.SiftNever", spec := "siftNever", unfollowed := true, recurses := true, apart := false, narrowed := true }
def SiftNeverUptoSaid : Prop := siftNeverUptoRow.holds Try.pinned (OpenSpec.upto siftNeverSpec)

/-- 'lampbearerkeep.SiftNarrow', WHERE WHAT IT READS IS OF BULK AT MOST 1048576: true; the input reads as it did. -/
def siftNarrowUptoRow : OpenClaim := { program := "ytpchigdcikknmaa", sum := "adc6d48c59669bcf21915817d29a76cf69c6c701e49bb157098668393761d960", func := "lampbearer/lampbearerkeep.SiftNarrow", spec := "siftNarrow", unfollowed := true, recurses := true, apart := false, narrowed := true }
def SiftNarrowUptoSaid : Prop := siftNarrowUptoRow.holds Try.pinned (OpenSpec.upto siftNarrowSpec)

/-- 'lampbearerkeep.SiftSure', WHERE WHAT IT READS IS OF BULK AT MOST 1048576: true; the input reads as it did. -/
def siftSureUptoRow : OpenClaim := { program := "ytpchigdcikknmaa", sum := "adc6d48c59669bcf21915817d29a76cf69c6c701e49bb157098668393761d960", func := "lampbearer/lampbearerkeep.SiftSure", spec := "siftSure", unfollowed := true, recurses := true, apart := false, narrowed := true }
def SiftSureUptoSaid : Prop := siftSureUptoRow.holds Try.pinned (OpenSpec.upto siftSureSpec)

/-- 'lampbearerkeep.SiftParts', WHERE WHAT IT READS IS OF BULK AT MOST 1048576: true; the input reads as it did. -/
def siftPartsUptoRow : OpenClaim := { program := "ytpchigdcikknmaa", sum := "adc6d48c59669bcf21915817d29a76cf69c6c701e49bb157098668393761d960", func := "lampbearer/lampbearerkeep.SiftParts", spec := "siftParts", unfollowed := true, recurses := true, apart := false, narrowed := true }
def SiftPartsUptoSaid : Prop := siftPartsUptoRow.holds Try.pinned (OpenSpec.upto siftPartsSpec)

end Rows
end Go.Proofs.Ytpchigdcikknmaa

/-
  No cell of these rows narrows 'for every input' (looked for: loops, veiled, ifaces, maps, wideKeys, modest, calm, conditions, laid).
  DERIVED. THE GIVEN ROWS OF THIS SEAT. 6 by the template 'for every input the law returns true; each argument reads behind the call as it read before'; 0 by the template 'total and deterministic' (their statements: YtjjakacpdofbbaaTotals.lean).
  GIVEN WITH THE SEED: the statements are not yours to turn. If you find one false, say at which input.
  Laid BY PROGRAM, IN A SANDBOX (cutbox-rows.mjs): the forced cells as the released guide's own fill.sh prints them over the translation 31398c7dda35ba41… (all of the seat's roots in one cut). By AI agents, Wed Nov 11 2026. No macro, syntax, notation, axiom, sorry.
-/
import Derived.Test.YtjjakacpdofbbaaChecked
import GoSem.Claim
import GoSem.ClaimJoined
import GoSem.ClaimMapViews
import Derived.JoinedTies
import Derived.KernelRfl
namespace Go.Proofs.Ytjjakacpdofbbaa
/- THE CELL 'sum', in the pinned program and in every row, IS THE sha256 OF THE DUMP (.gsa) THAT YtjjakacpdofbbaaProg.lean LOADS. Nothing in Lean hashes anything: it is a label: what it is worth is what the hold of that sum in a sandbox is worth. -/
noncomputable def Try.pinned : Pinned := { name := "ytjjakacpdofbbaa", sum := "31398c7dda35ba4175873ca215e6afa2ac77cc53b61064b33050cf04b7c8424d", checked := Try.checked }
namespace Rows
def none {H : Type} : Left H := { results := [], args := [] }

/-- 'lampbearerkeep.NibBack': WHATEVER THE INPUT: true; the input reads as it did. -/
def nibBackSpec : ChangeSpec := { name := "nibBack", fn := fun _ => fun
  | [d1, d2, d3] => { results := [.lit (.bool true)], args := [d1, d2, d3] }
  | _ => none }
def nibBackRow : OpenClaim := { program := "ytjjakacpdofbbaa", sum := "31398c7dda35ba4175873ca215e6afa2ac77cc53b61064b33050cf04b7c8424d", func := "lampbearer/lampbearerkeep.NibBack", spec := "nibBack", apart := false }
def NibBackSaid : Prop := nibBackRow.holds Try.pinned (OpenSpec.ofChange nibBackSpec)

/-- ITS FALSE NEIGHBOUR: 'it returns false'. Refute it at one input. -/
def nibBackWrong : ChangeSpec := { name := "nibBack", fn := fun _ => fun
  | [d1, d2, d3] => { results := [.lit (.bool false)], args := [d1, d2, d3] }
  | _ => none }
def NibBackWrongFalsely : Prop := nibBackRow.holds Try.pinned (OpenSpec.ofChange nibBackWrong)

/-- 'lampbearerkeep.NibTagBack': WHATEVER THE INPUT: true; the input reads as it did. -/
def nibTagBackSpec : ChangeSpec := { name := "nibTagBack", fn := fun _ => fun
  | [d1, d2, d3] => { results := [.lit (.bool true)], args := [d1, d2, d3] }
  | _ => none }
def nibTagBackRow : OpenClaim := { program := "ytjjakacpdofbbaa", sum := "31398c7dda35ba4175873ca215e6afa2ac77cc53b61064b33050cf04b7c8424d", func := "lampbearer/lampbearerkeep.NibTagBack", spec := "nibTagBack", apart := false }
def NibTagBackSaid : Prop := nibTagBackRow.holds Try.pinned (OpenSpec.ofChange nibTagBackSpec)

/-- ITS FALSE NEIGHBOUR: 'it returns false'. Refute it at one input. -/
def nibTagBackWrong : ChangeSpec := { name := "nibTagBack", fn := fun _ => fun
  | [d1, d2, d3] => { results := [.lit (.bool false)], args := [d1, d2, d3] }
  | _ => none }
def NibTagBackWrongFalsely : Prop := nibTagBackRow.holds Try.pinned (OpenSpec.ofChange nibTagBackWrong)

/-- 'lampbearerkeep.NibMost': WHATEVER THE INPUT: true; the input reads as it did. -/
def nibMostSpec : ChangeSpec := { name := "nibMost", fn := fun _ => fun
  | [d1, d2] => { results := [.lit (.bool true)], args := [d1, d2] }
  | _ => none }
def nibMostRow : OpenClaim := { program := "ytjjakacpdofbbaa", sum := "31398c7dda35ba4175873ca215e6afa2ac77cc53b61064b33050cf04b7c8424d", func := "lampbearer/lampbearerkeep.NibMost", spec := "nibMost", apart := false }
def NibMostSaid : Prop := nibMostRow.holds Try.pinned (OpenSpec.ofChange nibMostSpec)

/-- ITS FALSE NEIGHBOUR: 'it returns false'. Refute it at one input. -/
def nibMostWrong : ChangeSpec := { name := "nibMost", fn := fun _ => fun
  | [d1, d2] => { results := [.lit (.bool false)], args := [d1, d2] }
  | _ => none }
def NibMostWrongFalsely : Prop := nibMostRow.holds Try.pinned (OpenSpec.ofChange nibMostWrong)

/-- 'lampbearerkeep.BloomNever': WHATEVER THE INPUT: true; the input reads as it did. -/
def bloomNeverSpec : ChangeSpec := { name := "bloomNever", fn := fun _ => fun
  | [d1, d2] => { results := [.lit (.bool true)], args := [d1, d2] }
  | _ => none }
def bloomNeverRow : OpenClaim := { program := "ytjjakacpdofbbaa", sum := "31398c7dda35ba4175873ca215e6afa2ac77cc53b61064b33050cf04b7c8424d", func := "lampbearer/lampbearerkeep.BloomNever", spec := "bloomNever", apart := false }
def BloomNeverSaid : Prop := bloomNeverRow.holds Try.pinned (OpenSpec.ofChange bloomNeverSpec)

/-- ITS FALSE NEIGHBOUR: 'it returns false'. Refute it at one input. -/
def bloomNeverWrong : ChangeSpec := { name := "bloomNever", fn := fun _ => fun
  | [d1, d2] => { results := [.lit (.bool false)], args := [d1, d2] }
  | _ => none }
def BloomNeverWrongFalsely : Prop := bloomNeverRow.holds Try.pinned (OpenSpec.ofChange bloomNeverWrong)

/-- 'lampbearerkeep.BloomWithin': WHATEVER THE INPUT: true; the input reads as it did. -/
def bloomWithinSpec : ChangeSpec := { name := "bloomWithin", fn := fun _ => fun
  | [d1, d2, d3] => { results := [.lit (.bool true)], args := [d1, d2, d3] }
  | _ => none }
def bloomWithinRow : OpenClaim := { program := "ytjjakacpdofbbaa", sum := "31398c7dda35ba4175873ca215e6afa2ac77cc53b61064b33050cf04b7c8424d", func := "lampbearer/lampbearerkeep.BloomWithin", spec := "bloomWithin", apart := false }
def BloomWithinSaid : Prop := bloomWithinRow.holds Try.pinned (OpenSpec.ofChange bloomWithinSpec)

/-- ITS FALSE NEIGHBOUR: 'it returns false'. Refute it at one input. -/
def bloomWithinWrong : ChangeSpec := { name := "bloomWithin", fn := fun _ => fun
  | [d1, d2, d3] => { results := [.lit (.bool false)], args := [d1, d2, d3] }
  | _ => none }
def BloomWithinWrongFalsely : Prop := bloomWithinRow.holds Try.pinned (OpenSpec.ofChange bloomWithinWrong)

/-- 'lampbearerkeep.BloomJoins': WHATEVER THE INPUT: true; the input reads as it did. -/
def bloomJoinsSpec : ChangeSpec := { name := "bloomJoins", fn := fun _ => fun
  | [d1, d2] => { results := [.lit (.bool true)], args := [d1, d2] }
  | _ => none }
def bloomJoinsRow : OpenClaim := { program := "ytjjakacpdofbbaa", sum := "31398c7dda35ba4175873ca215e6afa2ac77cc53b61064b33050cf04b7c8424d", func := "lampbearer/lampbearerkeep.BloomJoins", spec := "bloomJoins", apart := false }
def BloomJoinsSaid : Prop := bloomJoinsRow.holds Try.pinned (OpenSpec.ofChange bloomJoinsSpec)

/-- ITS FALSE NEIGHBOUR: 'it returns false'. Refute it at one input. -/
def bloomJoinsWrong : ChangeSpec := { name := "bloomJoins", fn := fun _ => fun
  | [d1, d2] => { results := [.lit (.bool false)], args := [d1, d2] }
  | _ => none }
def BloomJoinsWrongFalsely : Prop := bloomJoinsRow.holds Try.pinned (OpenSpec.ofChange bloomJoinsWrong)

/- THE SECOND FORM. 'bulk': how many values and letters a reading holds, each counted each time it is reached (what is shared counts as often as it is met; a slice's spare places count too). A statement '..UptoSaid' is the law's where the arguments, and the package variables that the reading takes, are together of bulk at most 1048576: NARROWER than '..Said'. Prove '..Said' where nothing that the law and all that it calls make is longer than what came in: it says more and counts as full. Else prove '..UptoSaid'. A law counts once. -/
mutual
def uptoBulk {H : Type} : DataW H → Nat
  | .lit (.string bytes) => bytes.length + 1
  | .lit _ => 1
  | .nil => 1
  | .ptr d => uptoBulk d + 1
  | .slice elems spare => uptoBulkAll elems + uptoBulkAll spare + 1
  | .agg parts => uptoBulkAll parts + 1
  | .iface _ d => uptoBulk d + 1
  | .map entries => uptoBulkEntries entries + 1
  | .held _ => 1
def uptoBulkAll {H : Type} : List (DataW H) → Nat
  | [] => 0
  | d :: r => uptoBulk d + uptoBulkAll r
def uptoBulkEntries {H : Type} : List (Lit × DataW H) → Nat
  | [] => 0
  | x :: r => uptoBulkEntry x + uptoBulkEntries r
def uptoBulkEntry {H : Type} : Lit × DataW H → Nat
  | (.string bytes, d) => bytes.length + uptoBulk d + 1
  | (_, d) => uptoBulk d + 1
 end
def uptoSmall : (H : Type) → List (DataW H) → Bool := fun _ ds => decide (uptoBulkAll ds ≤ 1048576)
def OpenSpec.upto (s : _root_.Go.ChangeSpec) : _root_.Go.OpenSpec := { _root_.Go.OpenSpec.ofChange s with cond := some uptoSmall }

/-- 'lampbearerkeep.NibBack', WHERE WHAT IT READS IS OF BULK AT MOST 1048576: true; the input reads as it did. -/
def nibBackUptoRow : OpenClaim := { program := "ytjjakacpdofbbaa", sum := "31398c7dda35ba4175873ca215e6afa2ac77cc53b61064b33050cf04b7c8424d", func := "lampbearer/lampbearerkeep.NibBack", spec := "nibBack", apart := false, narrowed := true }
def NibBackUptoSaid : Prop := nibBackUptoRow.holds Try.pinned (OpenSpec.upto nibBackSpec)

/-- 'lampbearerkeep.NibTagBack', WHERE WHAT IT READS IS OF BULK AT MOST 1048576: true; the input reads as it did. -/
def nibTagBackUptoRow : OpenClaim := { program := "ytjjakacpdofbbaa", sum := "31398c7dda35ba4175873ca215e6afa2ac77cc53b61064b33050cf04b7c8424d", func := "lampbearer/lampbearerkeep.NibTagBack", spec := "nibTagBack", apart := false, narrowed := true }
def NibTagBackUptoSaid : Prop := nibTagBackUptoRow.holds Try.pinned (OpenSpec.upto nibTagBackSpec)

/-- 'lampbearerkeep.NibMost', WHERE WHAT IT READS IS OF BULK AT MOST 1048576: true; the input reads as it did. -/
def nibMostUptoRow : OpenClaim := { program := "ytjjakacpdofbbaa", sum := "31398c7dda35ba4175873ca215e6afa2ac77cc53b61064b33050cf04b7c8424d", func := "lampbearer/lampbearerkeep.NibMost", spec := "nibMost", apart := false, narrowed := true }
def NibMostUptoSaid : Prop := nibMostUptoRow.holds Try.pinned (OpenSpec.upto nibMostSpec)

/-- 'lampbearerkeep.BloomNever', WHERE WHAT IT READS IS OF BULK AT MOST 1048576: true; the input reads as it did. -/
def bloomNeverUptoRow : OpenClaim := { program := "ytjjakacpdofbbaa", sum := "31398c7dda35ba4175873ca215e6afa2ac77cc53b61064b33050cf04b7c8424d", func := "lampbearer/lampbearerkeep.BloomNever", spec := "bloomNever", apart := false, narrowed := true }
def BloomNeverUptoSaid : Prop := bloomNeverUptoRow.holds Try.pinned (OpenSpec.upto bloomNeverSpec)

/-- 'lampbearerkeep.BloomWithin', WHERE WHAT IT READS IS OF BULK AT MOST 1048576: true; the input reads as it did. -/
def bloomWithinUptoRow : OpenClaim := { program := "ytjjakacpdofbbaa", sum := "31398c7dda35ba4175873ca215e6afa2ac77cc53b61064b33050cf04b7c8424d", func := "lampbearer/lampbearerkeep.BloomWithin", spec := "bloomWithin", apart := false, narrowed := true }
def BloomWithinUptoSaid : Prop := bloomWithinUptoRow.holds Try.pinned (OpenSpec.upto bloomWithinSpec)

/-- 'lampbearerkeep.BloomJoins', WHERE WHAT IT READS IS OF BULK AT MOST 1048576: true; the input reads as it did. -/
def bloomJoinsUptoRow : OpenClaim := { program := "ytjjakacpdofbbaa", sum := "31398c7dda35ba4175873ca215e6afa2ac77cc53b61064b33050cf04b7c8424d", func := "lampbearer/lampbearerkeep.BloomJoins", spec := "bloomJoins", apart := false, narrowed := true }
def BloomJoinsUptoSaid : Prop := bloomJoinsUptoRow.holds Try.pinned (OpenSpec.upto bloomJoinsSpec)

end Rows
end Go.Proofs.Ytjjakacpdofbbaa

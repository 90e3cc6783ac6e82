/-
  No cell of these rows narrows 'for every input' (looked for: loops, veiled, ifaces, maps, wideKeys, modest, calm, conditions, laid).
  DERIVED. THE GIVEN ROWS OF THIS SEAT. 9 by the template 'for every input the law returns true; each argument reads behind the call as it read before'; 0 by the template 'total and deterministic' (their statements: YtgjoecocahpfhaaTotals.lean).
  GIVEN WITH THE SEED: the statements are not yours to turn. If you find one false, say at which input.
  Laid BY PROGRAM, IN A SANDBOX (cutbox-rows.mjs): the forced cells as the released guide's own fill.sh prints them over the translation ce02bb9f225a92cc… (all of the seat's roots in one cut). By AI agents, Wed Nov 11 2026. No macro, syntax, notation, axiom, sorry.
-/
import Derived.Test.YtgjoecocahpfhaaChecked
import GoSem.Claim
import GoSem.ClaimJoined
import GoSem.ClaimMapViews
import Derived.JoinedTies
import Derived.KernelRfl
namespace Go.Proofs.Ytgjoecocahpfhaa
/- THE CELL 'sum', in the pinned program and in every row, IS THE sha256 OF THE DUMP (.gsa) THAT YtgjoecocahpfhaaProg.lean LOADS. Nothing in Lean hashes anything: it is a label: what it is worth is what the hold of that sum in a sandbox is worth. -/
noncomputable def Try.pinned : Pinned := { name := "ytgjoecocahpfhaa", sum := "ce02bb9f225a92cc7b1adafa788c1914eca2fab4205d4b785d91214821121e12", checked := Try.checked }
namespace Rows
def none {H : Type} : Left H := { results := [], args := [] }

/-- 'lampbearerkeep.ChainMore': WHATEVER THE INPUT: true; the input reads as it did. -/
def chainMoreSpec : ChangeSpec := { name := "chainMore", fn := fun _ => fun
  | [d1, d2, d3] => { results := [.lit (.bool true)], args := [d1, d2, d3] }
  | _ => none }
def chainMoreRow : OpenClaim := { program := "ytgjoecocahpfhaa", sum := "ce02bb9f225a92cc7b1adafa788c1914eca2fab4205d4b785d91214821121e12", func := "lampbearer/lampbearerkeep.ChainMore", spec := "chainMore", inPlace := ["internal/bytealg.Compare"], unfollowed := true, recurses := true, plainKeys := false, apart := false }
def ChainMoreSaid : Prop := chainMoreRow.holds Try.pinned (OpenSpec.ofChange chainMoreSpec)

/-- ITS FALSE NEIGHBOUR: 'it returns false'. Refute it at one input. -/
def chainMoreWrong : ChangeSpec := { name := "chainMore", fn := fun _ => fun
  | [d1, d2, d3] => { results := [.lit (.bool false)], args := [d1, d2, d3] }
  | _ => none }
def ChainMoreWrongFalsely : Prop := chainMoreRow.holds Try.pinned (OpenSpec.ofChange chainMoreWrong)

/-- 'lampbearerkeep.ChainTurned': WHATEVER THE INPUT: true; the input reads as it did. -/
def chainTurnedSpec : ChangeSpec := { name := "chainTurned", fn := fun _ => fun
  | [d1, d2] => { results := [.lit (.bool true)], args := [d1, d2] }
  | _ => none }
def chainTurnedRow : OpenClaim := { program := "ytgjoecocahpfhaa", sum := "ce02bb9f225a92cc7b1adafa788c1914eca2fab4205d4b785d91214821121e12", func := "lampbearer/lampbearerkeep.ChainTurned", spec := "chainTurned", inPlace := ["internal/bytealg.Compare"], unfollowed := true, recurses := true, plainKeys := false, apart := false }
def ChainTurnedSaid : Prop := chainTurnedRow.holds Try.pinned (OpenSpec.ofChange chainTurnedSpec)

/-- ITS FALSE NEIGHBOUR: 'it returns false'. Refute it at one input. -/
def chainTurnedWrong : ChangeSpec := { name := "chainTurned", fn := fun _ => fun
  | [d1, d2] => { results := [.lit (.bool false)], args := [d1, d2] }
  | _ => none }
def ChainTurnedWrongFalsely : Prop := chainTurnedRow.holds Try.pinned (OpenSpec.ofChange chainTurnedWrong)

/-- 'lampbearerkeep.ChainLinked': WHATEVER THE INPUT: true; the input reads as it did. -/
def chainLinkedSpec : ChangeSpec := { name := "chainLinked", fn := fun _ => fun
  | [d1, d2] => { results := [.lit (.bool true)], args := [d1, d2] }
  | _ => none }
def chainLinkedRow : OpenClaim := { program := "ytgjoecocahpfhaa", sum := "ce02bb9f225a92cc7b1adafa788c1914eca2fab4205d4b785d91214821121e12", func := "lampbearer/lampbearerkeep.ChainLinked", spec := "chainLinked", inPlace := ["internal/bytealg.Compare"], unfollowed := true, recurses := true, plainKeys := false, apart := false }
def ChainLinkedSaid : Prop := chainLinkedRow.holds Try.pinned (OpenSpec.ofChange chainLinkedSpec)

/-- ITS FALSE NEIGHBOUR: 'it returns false'. Refute it at one input. -/
def chainLinkedWrong : ChangeSpec := { name := "chainLinked", fn := fun _ => fun
  | [d1, d2] => { results := [.lit (.bool false)], args := [d1, d2] }
  | _ => none }
def ChainLinkedWrongFalsely : Prop := chainLinkedRow.holds Try.pinned (OpenSpec.ofChange chainLinkedWrong)

/-- 'lampbearerkeep.ChainLongest': WHATEVER THE INPUT: true; the input reads as it did. -/
def chainLongestSpec : ChangeSpec := { name := "chainLongest", fn := fun _ => fun
  | [d1, d2, d3] => { results := [.lit (.bool true)], args := [d1, d2, d3] }
  | _ => none }
def chainLongestRow : OpenClaim := { program := "ytgjoecocahpfhaa", sum := "ce02bb9f225a92cc7b1adafa788c1914eca2fab4205d4b785d91214821121e12", func := "lampbearer/lampbearerkeep.ChainLongest", spec := "chainLongest", inPlace := ["internal/bytealg.Compare"], unfollowed := true, recurses := true, plainKeys := false, apart := false }
def ChainLongestSaid : Prop := chainLongestRow.holds Try.pinned (OpenSpec.ofChange chainLongestSpec)

/-- ITS FALSE NEIGHBOUR: 'it returns false'. Refute it at one input. -/
def chainLongestWrong : ChangeSpec := { name := "chainLongest", fn := fun _ => fun
  | [d1, d2, d3] => { results := [.lit (.bool false)], args := [d1, d2, d3] }
  | _ => none }
def ChainLongestWrongFalsely : Prop := chainLongestRow.holds Try.pinned (OpenSpec.ofChange chainLongestWrong)

/-- 'lampbearerkeep.ChainOrder': WHATEVER THE INPUT: true; the input reads as it did. -/
def chainOrderSpec : ChangeSpec := { name := "chainOrder", fn := fun _ => fun
  | [d1, d2, d3] => { results := [.lit (.bool true)], args := [d1, d2, d3] }
  | _ => none }
def chainOrderRow : OpenClaim := { program := "ytgjoecocahpfhaa", sum := "ce02bb9f225a92cc7b1adafa788c1914eca2fab4205d4b785d91214821121e12", func := "lampbearer/lampbearerkeep.ChainOrder", spec := "chainOrder", inPlace := ["internal/bytealg.Compare"], unfollowed := true, recurses := true, plainKeys := false, apart := false }
def ChainOrderSaid : Prop := chainOrderRow.holds Try.pinned (OpenSpec.ofChange chainOrderSpec)

/-- ITS FALSE NEIGHBOUR: 'it returns false'. Refute it at one input. -/
def chainOrderWrong : ChangeSpec := { name := "chainOrder", fn := fun _ => fun
  | [d1, d2, d3] => { results := [.lit (.bool false)], args := [d1, d2, d3] }
  | _ => none }
def ChainOrderWrongFalsely : Prop := chainOrderRow.holds Try.pinned (OpenSpec.ofChange chainOrderWrong)

/-- 'lampbearerkeep.JournalSorted': WHATEVER THE INPUT: true; the input reads as it did. -/
def journalSortedSpec : ChangeSpec := { name := "journalSorted", fn := fun _ => fun
  | [d] => { results := [.lit (.bool true)], args := [d] }
  | _ => none }
def journalSortedRow : OpenClaim := { program := "ytgjoecocahpfhaa", sum := "ce02bb9f225a92cc7b1adafa788c1914eca2fab4205d4b785d91214821121e12", func := "lampbearer/lampbearerkeep.JournalSorted", spec := "journalSorted", unfollowed := true, recurses := true, plainKeys := false, apart := false }
def JournalSortedSaid : Prop := journalSortedRow.holds Try.pinned (OpenSpec.ofChange journalSortedSpec)

/-- ITS FALSE NEIGHBOUR: 'it returns false'. Refute it at one input. -/
def journalSortedWrong : ChangeSpec := { name := "journalSorted", fn := fun _ => fun
  | [d] => { results := [.lit (.bool false)], args := [d] }
  | _ => none }
def JournalSortedWrongFalsely : Prop := journalSortedRow.holds Try.pinned (OpenSpec.ofChange journalSortedWrong)

/-- 'lampbearerkeep.JournalRead': WHATEVER THE INPUT: true; the input reads as it did. -/
def journalReadSpec : ChangeSpec := { name := "journalRead", fn := fun _ => fun
  | [d1, d2, d3, d4] => { results := [.lit (.bool true)], args := [d1, d2, d3, d4] }
  | _ => none }
def journalReadRow : OpenClaim := { program := "ytgjoecocahpfhaa", sum := "ce02bb9f225a92cc7b1adafa788c1914eca2fab4205d4b785d91214821121e12", func := "lampbearer/lampbearerkeep.JournalRead", spec := "journalRead", unfollowed := true, recurses := true, plainKeys := false, apart := false }
def JournalReadSaid : Prop := journalReadRow.holds Try.pinned (OpenSpec.ofChange journalReadSpec)

/-- ITS FALSE NEIGHBOUR: 'it returns false'. Refute it at one input. -/
def journalReadWrong : ChangeSpec := { name := "journalRead", fn := fun _ => fun
  | [d1, d2, d3, d4] => { results := [.lit (.bool false)], args := [d1, d2, d3, d4] }
  | _ => none }
def JournalReadWrongFalsely : Prop := journalReadRow.holds Try.pinned (OpenSpec.ofChange journalReadWrong)

/-- 'lampbearerkeep.JournalBack': WHATEVER THE INPUT: true; the input reads as it did. -/
def journalBackSpec : ChangeSpec := { name := "journalBack", fn := fun _ => fun
  | [d1, d2, d3] => { results := [.lit (.bool true)], args := [d1, d2, d3] }
  | _ => none }
def journalBackRow : OpenClaim := { program := "ytgjoecocahpfhaa", sum := "ce02bb9f225a92cc7b1adafa788c1914eca2fab4205d4b785d91214821121e12", func := "lampbearer/lampbearerkeep.JournalBack", spec := "journalBack", unfollowed := true, recurses := true, plainKeys := false, apart := false }
def JournalBackSaid : Prop := journalBackRow.holds Try.pinned (OpenSpec.ofChange journalBackSpec)

/-- ITS FALSE NEIGHBOUR: 'it returns false'. Refute it at one input. -/
def journalBackWrong : ChangeSpec := { name := "journalBack", fn := fun _ => fun
  | [d1, d2, d3] => { results := [.lit (.bool false)], args := [d1, d2, d3] }
  | _ => none }
def JournalBackWrongFalsely : Prop := journalBackRow.holds Try.pinned (OpenSpec.ofChange journalBackWrong)

/-- 'lampbearerkeep.JournalKeep': WHATEVER THE INPUT: true; the input reads as it did. -/
def journalKeepSpec : ChangeSpec := { name := "journalKeep", fn := fun _ => fun
  | [d1, d2, d3] => { results := [.lit (.bool true)], args := [d1, d2, d3] }
  | _ => none }
def journalKeepRow : OpenClaim := { program := "ytgjoecocahpfhaa", sum := "ce02bb9f225a92cc7b1adafa788c1914eca2fab4205d4b785d91214821121e12", func := "lampbearer/lampbearerkeep.JournalKeep", spec := "journalKeep", unfollowed := true, recurses := true, plainKeys := false, apart := false }
def JournalKeepSaid : Prop := journalKeepRow.holds Try.pinned (OpenSpec.ofChange journalKeepSpec)

/-- ITS FALSE NEIGHBOUR: 'it returns false'. Refute it at one input. -/
def journalKeepWrong : ChangeSpec := { name := "journalKeep", fn := fun _ => fun
  | [d1, d2, d3] => { results := [.lit (.bool false)], args := [d1, d2, d3] }
  | _ => none }
def JournalKeepWrongFalsely : Prop := journalKeepRow.holds Try.pinned (OpenSpec.ofChange journalKeepWrong)

/- THE SECOND FORM. 'bulk': how many values and letters a reading holds, each counted each time it is reached (what is shared counts as often as it is met; a slice's spare places count too). A statement '..UptoSaid' is the law's where the arguments, and the package variables that the reading takes, are together of bulk at most 1048576: NARROWER than '..Said'. Prove '..Said' where nothing that the law and all that it calls make is longer than what came in: it says more and counts as full. Else prove '..UptoSaid'. A law counts once. -/
mutual
def uptoBulk {H : Type} : DataW H → Nat
  | .lit (.string bytes) => bytes.length + 1
  | .lit _ => 1
  | .nil => 1
  | .ptr d => uptoBulk d + 1
  | .slice elems spare => uptoBulkAll elems + uptoBulkAll spare + 1
  | .agg parts => uptoBulkAll parts + 1
  | .iface _ d => uptoBulk d + 1
  | .map entries => uptoBulkEntries entries + 1
  | .held _ => 1
def uptoBulkAll {H : Type} : List (DataW H) → Nat
  | [] => 0
  | d :: r => uptoBulk d + uptoBulkAll r
def uptoBulkEntries {H : Type} : List (Lit × DataW H) → Nat
  | [] => 0
  | x :: r => uptoBulkEntry x + uptoBulkEntries r
def uptoBulkEntry {H : Type} : Lit × DataW H → Nat
  | (.string bytes, d) => bytes.length + uptoBulk d + 1
  | (_, d) => uptoBulk d + 1
 end
def uptoSmall : (H : Type) → List (DataW H) → Bool := fun _ ds => decide (uptoBulkAll ds ≤ 1048576)
def OpenSpec.upto (s : _root_.Go.ChangeSpec) : _root_.Go.OpenSpec := { _root_.Go.OpenSpec.ofChange s with cond := some uptoSmall }

/-- 'lampbearerkeep.ChainMore', WHERE WHAT IT READS IS OF BULK AT MOST 1048576: true; the input reads as it did. -/
def chainMoreUptoRow : OpenClaim := { program := "ytgjoecocahpfhaa", sum := "ce02bb9f225a92cc7b1adafa788c1914eca2fab4205d4b785d91214821121e12", func := "lampbearer/lampbearerkeep.ChainMore", spec := "chainMore", inPlace := ["internal/bytealg.Compare"], unfollowed := true, recurses := true, plainKeys := false, apart := false, narrowed := true }
def ChainMoreUptoSaid : Prop := chainMoreUptoRow.holds Try.pinned (OpenSpec.upto chainMoreSpec)

/-- 'lampbearerkeep.ChainTurned', WHERE WHAT IT READS IS OF BULK AT MOST 1048576: true; the input reads as it did. -/
def chainTurnedUptoRow : OpenClaim := { program := "ytgjoecocahpfhaa", sum := "ce02bb9f225a92cc7b1adafa788c1914eca2fab4205d4b785d91214821121e12", func := "lampbearer/lampbearerkeep.ChainTurned", spec := "chainTurned", inPlace := ["internal/bytealg.Compare"], unfollowed := true, recurses := true, plainKeys := false, apart := false, narrowed := true }
def ChainTurnedUptoSaid : Prop := chainTurnedUptoRow.holds Try.pinned (OpenSpec.upto chainTurnedSpec)

/-- 'lampbearerkeep.ChainLinked', WHERE WHAT IT READS IS OF BULK AT MOST 1048576: true; the input reads as it did. -/
def chainLinkedUptoRow : OpenClaim := { program := "ytgjoecocahpfhaa", sum := "ce02bb9f225a92cc7b1adafa788c1914eca2fab4205d4b785d91214821121e12", func := "lampbearer/lampbearerkeep.ChainLinked", spec := "chainLinked", inPlace := ["internal/bytealg.Compare"], unfollowed := true, recurses := true, plainKeys := false, apart := false, narrowed := true }
def ChainLinkedUptoSaid : Prop := chainLinkedUptoRow.holds Try.pinned (OpenSpec.upto chainLinkedSpec)

/-- 'lampbearerkeep.ChainLongest', WHERE WHAT IT READS IS OF BULK AT MOST 1048576: true; the input reads as it did. -/
def chainLongestUptoRow : OpenClaim := { program := "ytgjoecocahpfhaa", sum := "ce02bb9f225a92cc7b1adafa788c1914eca2fab4205d4b785d91214821121e12", func := "lampbearer/lampbearerkeep.ChainLongest", spec := "chainLongest", inPlace := ["internal/bytealg.Compare"], unfollowed := true, recurses := true, plainKeys := false, apart := false, narrowed := true }
def ChainLongestUptoSaid : Prop := chainLongestUptoRow.holds Try.pinned (OpenSpec.upto chainLongestSpec)

/-- 'lampbearerkeep.ChainOrder', WHERE WHAT IT READS IS OF BULK AT MOST 1048576: true; the input reads as it did. -/
def chainOrderUptoRow : OpenClaim := { program := "ytgjoecocahpfhaa", sum := "ce02bb9f225a92cc7b1adafa788c1914eca2fab4205d4b785d91214821121e12", func := "lampbearer/lampbearerkeep.ChainOrder", spec := "chainOrder", inPlace := ["internal/bytealg.Compare"], unfollowed := true, recurses := true, plainKeys := false, apart := false, narrowed := true }
def ChainOrderUptoSaid : Prop := chainOrderUptoRow.holds Try.pinned (OpenSpec.upto chainOrderSpec)

/-- 'lampbearerkeep.JournalSorted', WHERE WHAT IT READS IS OF BULK AT MOST 1048576: true; the input reads as it did. -/
def journalSortedUptoRow : OpenClaim := { program := "ytgjoecocahpfhaa", sum := "ce02bb9f225a92cc7b1adafa788c1914eca2fab4205d4b785d91214821121e12", func := "lampbearer/lampbearerkeep.JournalSorted", spec := "journalSorted", unfollowed := true, recurses := true, plainKeys := false, apart := false, narrowed := true }
def JournalSortedUptoSaid : Prop := journalSortedUptoRow.holds Try.pinned (OpenSpec.upto journalSortedSpec)

/-- 'lampbearerkeep.JournalRead', WHERE WHAT IT READS IS OF BULK AT MOST 1048576: true; the input reads as it did. -/
def journalReadUptoRow : OpenClaim := { program := "ytgjoecocahpfhaa", sum := "ce02bb9f225a92cc7b1adafa788c1914eca2fab4205d4b785d91214821121e12", func := "lampbearer/lampbearerkeep.JournalRead", spec := "journalRead", unfollowed := true, recurses := true, plainKeys := false, apart := false, narrowed := true }
def JournalReadUptoSaid : Prop := journalReadUptoRow.holds Try.pinned (OpenSpec.upto journalReadSpec)

/-- 'lampbearerkeep.JournalBack', WHERE WHAT IT READS IS OF BULK AT MOST 1048576: true; the input reads as it did. -/
def journalBackUptoRow : OpenClaim := { program := "ytgjoecocahpfhaa", sum := "ce02bb9f225a92cc7b1adafa788c1914eca2fab4205d4b785d91214821121e12", func := "lampbearer/lampbearerkeep.JournalBack", spec := "journalBack", unfollowed := true, recurses := true, plainKeys := false, apart := false, narrowed := true }
def JournalBackUptoSaid : Prop := journalBackUptoRow.holds Try.pinned (OpenSpec.upto journalBackSpec)

/-- 'lampbearerkeep.JournalKeep', WHERE WHAT IT READS IS OF BULK AT MOST 1048576: true; the input reads as it did. -/
def journalKeepUptoRow : OpenClaim := { program := "ytgjoecocahpfhaa", sum := "ce02bb9f225a92cc7b1adafa788c1914eca2fab4205d4b785d91214821121e12", func := "lampbearer/lampbearerkeep.JournalKeep", spec := "journalKeep", unfollowed := true, recurses := true, plainKeys := false, apart := false, narrowed := true }
def JournalKeepUptoSaid : Prop := journalKeepUptoRow.holds Try.pinned (OpenSpec.upto journalKeepSpec)

end Rows
end Go.Proofs.Ytgjoecocahpfhaa

/-
  NARROWER THAN 'FOR EVERY INPUT', by the rows' own cells (each row's printed sentence says how): SeatsMeet: laid · SeatsMost: laid · SeatsBlame: laid · SeatsMore: laid · SeatsApart: laid.
  DERIVED. THE GIVEN ROWS OF THIS SEAT. 5 by the template 'for every input the law returns true; each argument reads behind the call as it read before'; 0 by the template 'total and deterministic' (their statements: YtgioofknlbdfjaaDoorTotals.lean).
  GIVEN WITH THE SEED: the statements are not yours to turn. If you find one false, say at which input.
  Laid BY PROGRAM, IN A SANDBOX (cutbox-rows.mjs): the forced cells as the released guide's own fill.sh prints them over the translation 43c01bd02b10378e… (all of the seat's roots in one cut). By AI agents, Wed Nov 11 2026. No macro, syntax, notation, axiom, sorry.
-/
import Derived.Test.YtgioofknlbdfjaaDoorChecked
import GoSem.Claim
import GoSem.ClaimJoined
import GoSem.ClaimMapViews
import Derived.JoinedTies
import Derived.KernelRfl
namespace Go.Proofs.YtgioofknlbdfjaaDoor
/- THE CELL 'sum', in the pinned program and in every row, IS THE sha256 OF THE DUMP (.gsa) THAT YtgioofknlbdfjaaDoorProg.lean LOADS. Nothing in Lean hashes anything: it is a label: what it is worth is what the hold of that sum in a sandbox is worth. -/
noncomputable def Tryd.pinned : Pinned := { name := "ytgioofknlbdfjaadoor", sum := "43c01bd02b10378e8a5b2971a865d11686a6d869059baa9d7fd9c9565f33e7b8", checked := Tryd.checked }
namespace Rows
def none {H : Type} : Left H := { results := [], args := [] }

/- WHAT THE LISTED PACKAGE-LEVEL VARIABLES READ AS WHEN THE CALL BEGINS. Each datum BY PROGRAM (the guide's laid-datum.mjs) off the statement by which the dump's own 'gosem.cut.vars' lays the variable. In a bare row this is a premise. The card (YtgioofknlbdfjaaDoorCards.lean) ties it to the program's text. -/
def laid_math_bits_deBruijn64tab {H : Type} : DataW H := .agg [.lit (.int .u8 0), .lit (.int .u8 1), .lit (.int .u8 56), .lit (.int .u8 2), .lit (.int .u8 57), .lit (.int .u8 49), .lit (.int .u8 28), .lit (.int .u8 3), .lit (.int .u8 61), .lit (.int .u8 58), .lit (.int .u8 42), .lit (.int .u8 50), .lit (.int .u8 38), .lit (.int .u8 29), .lit (.int .u8 17), .lit (.int .u8 4), .lit (.int .u8 62), .lit (.int .u8 47), .lit (.int .u8 59), .lit (.int .u8 36), .lit (.int .u8 45), .lit (.int .u8 43), .lit (.int .u8 51), .lit (.int .u8 22), .lit (.int .u8 53), .lit (.int .u8 39), .lit (.int .u8 33), .lit (.int .u8 30), .lit (.int .u8 24), .lit (.int .u8 18), .lit (.int .u8 12), .lit (.int .u8 5), .lit (.int .u8 63), .lit (.int .u8 55), .lit (.int .u8 48), .lit (.int .u8 27), .lit (.int .u8 60), .lit (.int .u8 41), .lit (.int .u8 37), .lit (.int .u8 16), .lit (.int .u8 46), .lit (.int .u8 35), .lit (.int .u8 44), .lit (.int .u8 21), .lit (.int .u8 52), .lit (.int .u8 32), .lit (.int .u8 23), .lit (.int .u8 11), .lit (.int .u8 54), .lit (.int .u8 26), .lit (.int .u8 40), .lit (.int .u8 15), .lit (.int .u8 34), .lit (.int .u8 20), .lit (.int .u8 31), .lit (.int .u8 10), .lit (.int .u8 25), .lit (.int .u8 14), .lit (.int .u8 19), .lit (.int .u8 9), .lit (.int .u8 13), .lit (.int .u8 8), .lit (.int .u8 7), .lit (.int .u8 6)]

/-- 'lampbearerkeep.SeatsMeet': WHATEVER THE INPUT: true; the input reads as it did. -/
def seatsMeetSpec : ChangeSpec := { name := "seatsMeet", fn := fun _ => fun
  | [d1, d2, d3] => { results := [.lit (.bool true)], args := [d1, d2, d3] }
  | _ => none }
def seatsMeetRow : OpenClaim := { program := "ytgioofknlbdfjaadoor", sum := "43c01bd02b10378e8a5b2971a865d11686a6d869059baa9d7fd9c9565f33e7b8", func := "lampbearer/lampbearerkeep.SeatsMeet", spec := "seatsMeet", named := ["math/bits.deBruijn64tab"], plainKeys := false, apart := false, laid := [("math/bits.deBruijn64tab", laid_math_bits_deBruijn64tab)] }
def SeatsMeetSaid : Prop := seatsMeetRow.holds Tryd.pinned (OpenSpec.ofChange seatsMeetSpec)

/-- ITS FALSE NEIGHBOUR: 'it returns false'. Refute it at one input. -/
def seatsMeetWrong : ChangeSpec := { name := "seatsMeet", fn := fun _ => fun
  | [d1, d2, d3] => { results := [.lit (.bool false)], args := [d1, d2, d3] }
  | _ => none }
def SeatsMeetWrongFalsely : Prop := seatsMeetRow.holds Tryd.pinned (OpenSpec.ofChange seatsMeetWrong)

/-- 'lampbearerkeep.SeatsMost': WHATEVER THE INPUT: true; the input reads as it did. -/
def seatsMostSpec : ChangeSpec := { name := "seatsMost", fn := fun _ => fun
  | [d1, d2, d3, d4] => { results := [.lit (.bool true)], args := [d1, d2, d3, d4] }
  | _ => none }
def seatsMostRow : OpenClaim := { program := "ytgioofknlbdfjaadoor", sum := "43c01bd02b10378e8a5b2971a865d11686a6d869059baa9d7fd9c9565f33e7b8", func := "lampbearer/lampbearerkeep.SeatsMost", spec := "seatsMost", named := ["math/bits.deBruijn64tab"], plainKeys := false, apart := false, laid := [("math/bits.deBruijn64tab", laid_math_bits_deBruijn64tab)] }
def SeatsMostSaid : Prop := seatsMostRow.holds Tryd.pinned (OpenSpec.ofChange seatsMostSpec)

/-- ITS FALSE NEIGHBOUR: 'it returns false'. Refute it at one input. -/
def seatsMostWrong : ChangeSpec := { name := "seatsMost", fn := fun _ => fun
  | [d1, d2, d3, d4] => { results := [.lit (.bool false)], args := [d1, d2, d3, d4] }
  | _ => none }
def SeatsMostWrongFalsely : Prop := seatsMostRow.holds Tryd.pinned (OpenSpec.ofChange seatsMostWrong)

/-- 'lampbearerkeep.SeatsBlame': WHATEVER THE INPUT: true; the input reads as it did. -/
def seatsBlameSpec : ChangeSpec := { name := "seatsBlame", fn := fun _ => fun
  | [d1, d2, d3, d4] => { results := [.lit (.bool true)], args := [d1, d2, d3, d4] }
  | _ => none }
def seatsBlameRow : OpenClaim := { program := "ytgioofknlbdfjaadoor", sum := "43c01bd02b10378e8a5b2971a865d11686a6d869059baa9d7fd9c9565f33e7b8", func := "lampbearer/lampbearerkeep.SeatsBlame", spec := "seatsBlame", named := ["math/bits.deBruijn64tab"], plainKeys := false, apart := false, laid := [("math/bits.deBruijn64tab", laid_math_bits_deBruijn64tab)] }
def SeatsBlameSaid : Prop := seatsBlameRow.holds Tryd.pinned (OpenSpec.ofChange seatsBlameSpec)

/-- ITS FALSE NEIGHBOUR: 'it returns false'. Refute it at one input. -/
def seatsBlameWrong : ChangeSpec := { name := "seatsBlame", fn := fun _ => fun
  | [d1, d2, d3, d4] => { results := [.lit (.bool false)], args := [d1, d2, d3, d4] }
  | _ => none }
def SeatsBlameWrongFalsely : Prop := seatsBlameRow.holds Tryd.pinned (OpenSpec.ofChange seatsBlameWrong)

/-- 'lampbearerkeep.SeatsMore': WHATEVER THE INPUT: true; the input reads as it did. -/
def seatsMoreSpec : ChangeSpec := { name := "seatsMore", fn := fun _ => fun
  | [d1, d2, d3, d4, d5] => { results := [.lit (.bool true)], args := [d1, d2, d3, d4, d5] }
  | _ => none }
def seatsMoreRow : OpenClaim := { program := "ytgioofknlbdfjaadoor", sum := "43c01bd02b10378e8a5b2971a865d11686a6d869059baa9d7fd9c9565f33e7b8", func := "lampbearer/lampbearerkeep.SeatsMore", spec := "seatsMore", named := ["math/bits.deBruijn64tab"], plainKeys := false, apart := false, laid := [("math/bits.deBruijn64tab", laid_math_bits_deBruijn64tab)] }
def SeatsMoreSaid : Prop := seatsMoreRow.holds Tryd.pinned (OpenSpec.ofChange seatsMoreSpec)

/-- ITS FALSE NEIGHBOUR: 'it returns false'. Refute it at one input. -/
def seatsMoreWrong : ChangeSpec := { name := "seatsMore", fn := fun _ => fun
  | [d1, d2, d3, d4, d5] => { results := [.lit (.bool false)], args := [d1, d2, d3, d4, d5] }
  | _ => none }
def SeatsMoreWrongFalsely : Prop := seatsMoreRow.holds Tryd.pinned (OpenSpec.ofChange seatsMoreWrong)

/-- 'lampbearerkeep.SeatsApart': WHATEVER THE INPUT: true; the input reads as it did. -/
def seatsApartSpec : ChangeSpec := { name := "seatsApart", fn := fun _ => fun
  | [d1, d2] => { results := [.lit (.bool true)], args := [d1, d2] }
  | _ => none }
def seatsApartRow : OpenClaim := { program := "ytgioofknlbdfjaadoor", sum := "43c01bd02b10378e8a5b2971a865d11686a6d869059baa9d7fd9c9565f33e7b8", func := "lampbearer/lampbearerkeep.SeatsApart", spec := "seatsApart", recurses := true, named := ["math/bits.deBruijn64tab"], plainKeys := false, apart := false, laid := [("math/bits.deBruijn64tab", laid_math_bits_deBruijn64tab)] }
def SeatsApartSaid : Prop := seatsApartRow.holds Tryd.pinned (OpenSpec.ofChange seatsApartSpec)

/-- ITS FALSE NEIGHBOUR: 'it returns false'. Refute it at one input. -/
def seatsApartWrong : ChangeSpec := { name := "seatsApart", fn := fun _ => fun
  | [d1, d2] => { results := [.lit (.bool false)], args := [d1, d2] }
  | _ => none }
def SeatsApartWrongFalsely : Prop := seatsApartRow.holds Tryd.pinned (OpenSpec.ofChange seatsApartWrong)

/- THE SECOND FORM. 'bulk': how many values and letters a reading holds, each counted each time it is reached (what is shared counts as often as it is met; a slice's spare places count too). A statement '..UptoSaid' is the law's where the arguments, and the package variables that the reading takes, are together of bulk at most 1048576: NARROWER than '..Said'. Prove '..Said' where nothing that the law and all that it calls make is longer than what came in: it says more and counts as full. Else prove '..UptoSaid'. A law counts once. -/
mutual
def uptoBulk {H : Type} : DataW H → Nat
  | .lit (.string bytes) => bytes.length + 1
  | .lit _ => 1
  | .nil => 1
  | .ptr d => uptoBulk d + 1
  | .slice elems spare => uptoBulkAll elems + uptoBulkAll spare + 1
  | .agg parts => uptoBulkAll parts + 1
  | .iface _ d => uptoBulk d + 1
  | .map entries => uptoBulkEntries entries + 1
  | .held _ => 1
def uptoBulkAll {H : Type} : List (DataW H) → Nat
  | [] => 0
  | d :: r => uptoBulk d + uptoBulkAll r
def uptoBulkEntries {H : Type} : List (Lit × DataW H) → Nat
  | [] => 0
  | x :: r => uptoBulkEntry x + uptoBulkEntries r
def uptoBulkEntry {H : Type} : Lit × DataW H → Nat
  | (.string bytes, d) => bytes.length + uptoBulk d + 1
  | (_, d) => uptoBulk d + 1
 end
def uptoSmall : (H : Type) → List (DataW H) → Bool := fun _ ds => decide (uptoBulkAll ds ≤ 1048576)
def OpenSpec.upto (s : _root_.Go.ChangeSpec) : _root_.Go.OpenSpec := { _root_.Go.OpenSpec.ofChange s with cond := some uptoSmall }

/-- 'lampbearerkeep.SeatsMeet', WHERE WHAT IT READS IS OF BULK AT MOST 1048576: true; the input reads as it did. -/
def seatsMeetUptoRow : OpenClaim := { program := "ytgioofknlbdfjaadoor", sum := "43c01bd02b10378e8a5b2971a865d11686a6d869059baa9d7fd9c9565f33e7b8", func := "lampbearer/lampbearerkeep.SeatsMeet", spec := "seatsMeet", named := ["math/bits.deBruijn64tab"], plainKeys := false, apart := false, laid := [("math/bits.deBruijn64tab", laid_math_bits_deBruijn64tab)], narrowed := true }
def SeatsMeetUptoSaid : Prop := seatsMeetUptoRow.holds Tryd.pinned (OpenSpec.upto seatsMeetSpec)

/-- 'lampbearerkeep.SeatsMost', WHERE WHAT IT READS IS OF BULK AT MOST 1048576: true; the input reads as it did. -/
def seatsMostUptoRow : OpenClaim := { program := "ytgioofknlbdfjaadoor", sum := "43c01bd02b10378e8a5b2971a865d11686a6d869059baa9d7fd9c9565f33e7b8", func := "lampbearer/lampbearerkeep.SeatsMost", spec := "seatsMost", named := ["math/bits.deBruijn64tab"], plainKeys := false, apart := false, laid := [("math/bits.deBruijn64tab", laid_math_bits_deBruijn64tab)], narrowed := true }
def SeatsMostUptoSaid : Prop := seatsMostUptoRow.holds Tryd.pinned (OpenSpec.upto seatsMostSpec)

/-- 'lampbearerkeep.SeatsBlame', WHERE WHAT IT READS IS OF BULK AT MOST 1048576: true; the input reads as it did. -/
def seatsBlameUptoRow : OpenClaim := { program := "ytgioofknlbdfjaadoor", sum := "43c01bd02b10378e8a5b2971a865d11686a6d869059baa9d7fd9c9565f33e7b8", func := "lampbearer/lampbearerkeep.SeatsBlame", spec := "seatsBlame", named := ["math/bits.deBruijn64tab"], plainKeys := false, apart := false, laid := [("math/bits.deBruijn64tab", laid_math_bits_deBruijn64tab)], narrowed := true }
def SeatsBlameUptoSaid : Prop := seatsBlameUptoRow.holds Tryd.pinned (OpenSpec.upto seatsBlameSpec)

/-- 'lampbearerkeep.SeatsMore', WHERE WHAT IT READS IS OF BULK AT MOST 1048576: true; the input reads as it did. -/
def seatsMoreUptoRow : OpenClaim := { program := "ytgioofknlbdfjaadoor", sum := "43c01bd02b10378e8a5b2971a865d11686a6d869059baa9d7fd9c9565f33e7b8", func := "lampbearer/lampbearerkeep.SeatsMore", spec := "seatsMore", named := ["math/bits.deBruijn64tab"], plainKeys := false, apart := false, laid := [("math/bits.deBruijn64tab", laid_math_bits_deBruijn64tab)], narrowed := true }
def SeatsMoreUptoSaid : Prop := seatsMoreUptoRow.holds Tryd.pinned (OpenSpec.upto seatsMoreSpec)

/-- 'lampbearerkeep.SeatsApart', WHERE WHAT IT READS IS OF BULK AT MOST 1048576: true; the input reads as it did. -/
def seatsApartUptoRow : OpenClaim := { program := "ytgioofknlbdfjaadoor", sum := "43c01bd02b10378e8a5b2971a865d11686a6d869059baa9d7fd9c9565f33e7b8", func := "lampbearer/lampbearerkeep.SeatsApart", spec := "seatsApart", recurses := true, named := ["math/bits.deBruijn64tab"], plainKeys := false, apart := false, laid := [("math/bits.deBruijn64tab", laid_math_bits_deBruijn64tab)], narrowed := true }
def SeatsApartUptoSaid : Prop := seatsApartUptoRow.holds Tryd.pinned (OpenSpec.upto seatsApartSpec)

end Rows
end Go.Proofs.YtgioofknlbdfjaaDoor

/- A part of the proof: texts joined. -/
import Derived.Test.YtffaobngpbaklaaGreatDoorQ1026c12c
set_option linter.unusedVariables false
set_option linter.unusedSimpArgs false
namespace Go.Proofs.YtffaobngpbaklaaGreatDoor
open Wm Ar
set_option maxRecDepth 100000
namespace Co
def key (l : List UInt8) : Nat := l.foldl (fun k x => k * 256 + x.toNat) 0
def apart : List Nat → Bool
 | [] => true
 | x :: l => (Nat.beq x 0 || l.all fun y => !(Nat.beq x y)) && apart l
theorem toNat_lt (b : UInt8) : b.toNat < 256 := b.toNat_lt
end Co
end Go.Proofs.YtffaobngpbaklaaGreatDoor

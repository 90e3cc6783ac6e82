/- A part of the proof: texts joined. -/
import Derived.Test.YtffaobngpbaklaaGreatDoorQ23c0c8fd
namespace Go.Proofs.YtffaobngpbaklaaGreatDoor
open Wm Ar
set_option maxRecDepth 100000
namespace Co
def key (l : List UInt8) : Nat := l.foldl (fun k x => k * 256 + x.toNat) 0
def apart : List Nat → Bool
 | [] => true
 | x :: l => (Nat.beq x 0 || l.all fun y => !(Nat.beq x y)) && apart l
theorem apart_spec : ∀ {l : List Nat}, apart l = true → List.Pairwise (fun x y => x = 0 ∨ x ≠ y) l
 | [], _ => .nil
 | x :: l, h => by
  simp only [apart, Bool.and_eq_true, Bool.or_eq_true] at h
  refine .cons (fun y hy => ?_) (apart_spec h.2)
  rcases h.1 with h1 | h1
  ·exact .inl (Nat.eq_of_beq_eq_true h1)
  ·have := List.all_eq_true.1 h1 y hy
   refine .inr fun e => ?_
   subst e
   rw [Nat.beq_refl] at this
   cases this
theorem toNat_lt (b : UInt8) : b.toNat < 256 := b.toNat_lt
end Co
end Go.Proofs.YtffaobngpbaklaaGreatDoor

/- The laws of package pack: what is alive; PackApart, PackBack, PackOnly. -/
import Derived.Test.YtgeccggkdgpkiaaPk8
namespace Go.Proofs.Ytgeccggkdgpkiaa
open Go.RowKit Rg Wm Ar
set_option maxRecDepth 100000
namespace Lf
open Pk
theorem eqS (a b : List UInt8) : arithS .eql ⟨a.toArray⟩ ⟨b.toArray⟩ = some (.bool (decide (a = b))) := by
  simp only [arithS, ByteArray.toList_mk]
  by_cases h : a = b
  · subst h; simp
  · simp [h]
def k12 : Itm := .mk true [] [.mk false [1] [], .mk false [2] []]
theorem k12_enc : enc k12 = [194, 1, 2] := by simp [k12, enc, encL, Pk.head]
theorem k12_rd : rd [194, 1, 2, 3] = some (k12, [3]) := by
  have := rd_enc k12 [3] (by rw [k12_enc]; decide)
  rw [k12_enc] at this
  exact this
theorem k12_V : itV k12 = .a [.k (.bool true), .s none [], .s none [.a [.k (.bool false), bV [1], .s none []], .a [.k (.bool false), bV [2], .s none []]]] := by
  simp only [k12, itV, itC_eq, List.map_cons, List.map_nil]
  rfl
theorem num300 : numL 300 = [1, 44] := (numL_uniq (l := [1, 44]) (by decide) (by decide)).symm
namespace Pw
set_option maxHeartbeats 1000000 in
theorem alive5 : LF Try.prog 30 [] (fun _ => .k (.bool true)) none := by
  have c1 := Split_ok [194, 1, 2, 3] [3] k12 (by decide) k12_rd
  have c2 := Encode 100 k12 (by decide) (by decide)
  have c3 := Wo.IntW 300 (by unfold m64; decide)
  have c4 := Num 300
  rw [show 300 % M256 = 300 from Nat.mod_eq_of_lt (by unfold M256 m64; decide), num300] at c4
  rw [k12_enc] at c2
  rw [k12_V] at c1 c2
  refine LFx.mk' tt Try.func30 rfl rfl rfl (by kernel_rfl) rfl rfl fun F => ?_
  exact wk trueW trueW trueW
end Pw
end Lf
end Go.Proofs.Ytgeccggkdgpkiaa

/- A part of the proof: texts joined. -/
import Derived.Test.YtkbimhccaacobaaQ125a37dd
namespace Go.Proofs.Ytkbimhccaacobaa
open Go.RowKit Rg Rp Go.WideShapes Go.ChangeShapes Wm Ar
set_option linter.unusedVariables false
set_option maxRecDepth 100000
namespace Lf
open Tr
section
variable {H : Type} {enc : TypeId × Value → H} {W : World}
theorem sum_sizesN (ks : List Rn) : (ks.map fun k => k.size + 2).sum = Rn.sizeL ks + ks.length := by
  induction ks with
  | nil => rfl
  | cons k r ih => simp only [List.map_cons, List.sum_cons, ih, Rn.sizeL, List.length_cons]; omega
theorem opnNode : ∀ n : Nat, Opn enc Try.prog W n 37 rnC (fun _ => True) (fun x => x.size + 2) := by
  intro n
  induction n using Nat.strongRecOn with
  | _ n ih =>
    cases n with
    | zero => exact Opn.zero
    | succ n =>
      have hk : Opn enc Try.prog W (n - 1) 37 rnC (fun _ => True) (fun x => x.size + 2) := ih (n - 1) (by omega)
      have h1 : Opn enc Try.prog W n 35 (fun l : List Rn => [.s none (l.map rnV)]) (fun l => ∀ a ∈ l, True) (fun l => (l.map fun x => x.size + 2).sum + 1) :=
        Opn.sl (e := 37) (k := 4) rnV (by kernel_rfl) (by kernel_rfl) (by decide) (fun _ => rfl) hk
      have h2 := Opn.st (T := 37) (n := n + 1) (P := Try.prog) (enc := enc) (W := W) (fs := #[⟨"Kind", 3, 0, false, "", "", 0⟩, ⟨"Path", 22, 1, false, "", "", 8⟩, ⟨"Value", 22, 2, false, "", "", 32⟩, ⟨"Kids", 35, 3, false, "", "", 56⟩]) (by kernel_rfl) (by kernel_rfl)
        (OpnFs.cons (Opn.i64 (by kernel_rfl)) (OpnFs.cons (Opn.bytes (e := 5) (by kernel_rfl) (by kernel_rfl) (by kernel_rfl)) (OpnFs.cons (Opn.bytes (e := 5) (by kernel_rfl) (by kernel_rfl) (by kernel_rfl)) (OpnFs.cons h1 OpnFs.nil))))
      refine h2.map (fun x => .mk x.1 x.2.1 x.2.2.1 x.2.2.2.1) (fun x _ => ?_) (fun _ _ => trivial) (fun x _ => ?_)
      · rw [rnC_eq]; rfl
      · have := sum_sizesN x.2.2.2.1
        simp only [Rn.size]
        omega
end
def psA : List Pr := [([1, 2], [97]), ([1], [98])]
def nA : Rn := ofN (ofP psA)
theorem psA_ok : ∀ p ∈ psA, prOk p := by
  intro p hp
  simp only [psA, List.mem_cons, List.not_mem_nil, or_false] at hp
  rcases hp with rfl | rfl <;> exact ⟨by decide, by decide⟩
theorem nA_right : rt nA 0 = true := rt_of _ _ (ofP_right psA_ok)
theorem nA_toN : toN nA = ofP psA := toN_of _
theorem nA_kind : nA.kind = 2 := by rfl
theorem nA_size : nA.size < 50000000 := by
  have : nA.size ≤ 1000 := by decide
  omega
attribute [irreducible] nA
namespace Te
end Te
end Lf
set_option maxRecDepth 100000
namespace Lf
open Tr
def wt : Nd → Nat
  | .no => 1
  | .leaf p v => 1 + p.length + v.length
  | .road p k => 2 + p.length + wt k
  | .fork ks v => 1 + v.length + ((List.finRange 16).map fun i => wt (ks i) + 1).sum
def wts (ks : Fin 16 → Nd) : Nat := ((List.finRange 16).map fun i => wt (ks i) + 1).sum
theorem wt_fork (ks : Fin 16 → Nd) (v : List UInt8) : wt (.fork ks v) = 1 + v.length + wts ks := by rw [wt]; rfl
theorem sizeL_map {α : Type} (f : α → Rn) : ∀ l : List α, Rn.sizeL (l.map f) = (l.map fun a => (f a).size + 1).sum
  | [] => by simp [Rn.sizeL]
  | a :: r => by simp only [List.map_cons, List.sum_cons, Rn.sizeL, sizeL_map f r]
theorem size_of : ∀ n : Nd, (ofN n).size = wt n
  | .no => by simp [ofN, Rn.size, Rn.sizeL, wt]
  | .leaf p v => by simp [ofN, Rn.size, Rn.sizeL, wt, pB_len]
  | .road p k => by simp only [ofN, Rn.size, Rn.sizeL, wt, pB_len, size_of k, List.length_nil]; omega
  | .fork ks v => by
    simp only [ofN, Rn.size, wt, sizeL_map, List.length_nil, Nat.add_zero]
    congr 2
    apply List.map_congr_left
    intro i _
    rw [size_of (ks i)]
end Lf
end Go.Proofs.Ytkbimhccaacobaa

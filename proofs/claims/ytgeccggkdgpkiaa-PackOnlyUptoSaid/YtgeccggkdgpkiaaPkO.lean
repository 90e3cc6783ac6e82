/- What the given statement tells of an item, of a word. -/
import Derived.Test.YtgeccggkdgpkiaaPk3
import Derived.Test.YtgeccggkdgpkiaaLa
namespace Go.Proofs.Ytgeccggkdgpkiaa
open Go.RowKit Rg Rp Go.WideShapes Go.ChangeShapes Wm Ar
namespace Lf
open Pk
section
variable {H : Type} {enc : TypeId × Value → H} {W : World}
theorem sum_sizes (ks : List Itm) : (ks.map fun k => k.size + 2).sum = Itm.sizeL ks + ks.length := by
  induction ks with
  | nil => rfl
  | cons k r ih => simp only [List.map_cons, List.sum_cons, ih, Itm.sizeL, List.length_cons]; omega
theorem opnItem : ∀ n : Nat, Opn enc Try.prog W n 48 itC (fun _ => True) (fun x => x.size + 2) := by
  intro n
  induction n using Nat.strongRecOn with
  | _ n ih =>
    cases n with
    | zero => exact Opn.zero
    | succ n =>
      have hk : Opn enc Try.prog W (n - 1) 48 itC (fun _ => True) (fun x => x.size + 2) := ih (n - 1) (by omega)
      have h1 : Opn enc Try.prog W n 46 (fun l : List Itm => [.s none (l.map itV)]) (fun l => ∀ a ∈ l, True) (fun l => (l.map fun x => x.size + 2).sum + 1) :=
        Opn.sl (e := 48) (k := 3) itV (by kernel_rfl) (by kernel_rfl) (by decide) (fun _ => rfl) hk
      have h2 := Opn.st (T := 48) (n := n + 1) (P := Try.prog) (enc := enc) (W := W) (fs := #[⟨"List", 4, 0, false, "", "", 0⟩, ⟨"Text", 28, 1, false, "", "", 8⟩, ⟨"Kids", 46, 2, false, "", "", 32⟩]) (by kernel_rfl) (by kernel_rfl)
        (OpnFs.cons (Opn.bool (by kernel_rfl)) (OpnFs.cons (Opn.bytes (e := 5) (by kernel_rfl) (by kernel_rfl) (by kernel_rfl)) (OpnFs.cons h1 OpnFs.nil)))
      refine h2.map (fun x => .mk x.1 x.2.1 x.2.2.1) (fun x _ => ?_) (fun _ _ => trivial) (fun x _ => ?_)
      · rw [itC_eq]; rfl
      · have := sum_sizes x.2.2.1
        simp only [Itm.size]
        omega
theorem opnWord (n : Nat) : Opn enc Try.prog W n 61 (fun x : Nat => (limbs x).map uK) (fun x => x < M256) (fun _ => 5) :=
  (Opn.arr64 (m := 4) (e := 22) (by kernel_rfl) (by kernel_rfl) (by kernel_rfl)).map (fun l => numOf (l.map UInt64.toNat)) (fun l h => by
    rw [limbs_num (by simp [h]) (fun a ha => by obtain ⟨y, _, rfl⟩ := List.mem_map.1 ha; exact y.toNat_lt), List.map_map]
    rfl) (fun l h => numOf_lt (by simp [h]) (fun a ha => by obtain ⟨y, _, rfl⟩ := List.mem_map.1 ha; exact y.toNat_lt)) (fun l h => by omega)
end
end Lf
end Go.Proofs.Ytgeccggkdgpkiaa

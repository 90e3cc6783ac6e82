/- Package pack: the reader. -/
import Derived.Test.YtgeccggkdgpkiaaPk3
namespace Go.Proofs.Ytgeccggkdgpkiaa
open Go.RowKit Rg Wm Ar
set_option maxRecDepth 100000
namespace Lf
open Pk
abbrev misV : V := .i 80 (.a [])
namespace Pw
set_option maxHeartbeats 1000000 in
theorem take_ok (l : List UInt8) (n : Nat) (hn : n ≤ l.length) (hl : l.length < 1073741824) (i : Nat) : LM Try.prog 53 [.p i 0, uK n] [(i, .b [bV l])] fun o m => o = .ret (bV (l.take n)) ∧ m = [(i, .b [bV (l.drop n)])] := by
  refine LM.box1 (fun k => [.p k 0, uK n]) (fun _ _ => rfl) rfl rfl rfl ?_ i
  refine LM.enter tt Try.func53 rfl rfl rfl (by kernel_rfl) rfl rfl rfl (fun o mo h => by rw [h.2]; rfl) fun F _ => ?_
  exact wk trueW trueW trueW
theorem LM.box1P {P : Program} {f : Nat} (A : Nat → List V) {cs cs' : List V} {v : V} (hA : ∀ (ρ : Nat → Nat) k, (A k).map (V.ren ρ) = A (ρ k)) (h1 : V.refs.go [] cs = true) (h2 : V.refs.go [] cs' = true) (hv : v.refs [] = true)
    (h : LM P f (A 1000) [(1000, .b cs)] fun o m => o = .pan v ∧ m = [(1000, .b cs')]) (i : Nat) : LM P f (A i) [(i, .b cs)] fun o m => o = .pan v ∧ m = [(i, .b cs')] :=
  LM.gen [1000] [i] (by simp) (by simp) rfl h fun ρ hρ => by
    simp at hρ
    refine ⟨by rw [hA, hρ], ?_, ?_, ?_⟩
    · simp [Mem.ren, M.ren, hρ, ren_cells h1]
    · simp [Out.ren, ren_refs v hv]
    · simp [Mem.ren, M.ren, hρ, ren_cells h2]
set_option maxHeartbeats 1000000 in
theorem take_no (l : List UInt8) (n : Nat) (hn : l.length < n) (hl : l.length < 1073741824) (i : Nat) : LM Try.prog 53 [.p i 0, uK n] [(i, .b [bV l])] fun o m => o = .pan misV ∧ m = [(i, .b [bV l])] := by
  refine LM.box1P (fun k => [.p k 0, uK n]) (fun _ _ => rfl) rfl rfl rfl ?_ i
  refine LM.enter tt Try.func53 rfl rfl rfl (by kernel_rfl) rfl rfl rfl (fun o mo h => by rw [h.2]; rfl) fun F _ => ?_
  exact wk trueW trueW trueW
end Pw
end Lf
end Go.Proofs.Ytgeccggkdgpkiaa

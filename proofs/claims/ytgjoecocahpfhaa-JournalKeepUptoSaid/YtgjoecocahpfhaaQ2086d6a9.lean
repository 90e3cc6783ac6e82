/- A part of the proof: texts joined. -/
import Derived.Test.YtgjoecocahpfhaaQ19e515c9
namespace Go.Proofs.Ytgjoecocahpfhaa
open Go.RowKit Rg Rp
set_option linter.unusedVariables false
set_option maxRecDepth 100000
namespace Lf
namespace Jw
open Jn
set_option maxHeartbeats 4000000 in
theorem alive14_ : LF Try.prog 24 [] (fun _ => .k (.bool true)) none := by
  have c1 := Play_ [⟨1, 1, 2⟩, ⟨3, 0, 0⟩, ⟨1, 1, 3⟩, ⟨2, 1, 0⟩, ⟨4, 0, 0⟩] (by decide) (by unfold OpsOk B64; decide)
  rw [show jrun S0 [⟨1, 1, 2⟩, ⟨3, 0, 0⟩, ⟨1, 1, 3⟩, ⟨2, 1, 0⟩, ⟨4, 0, 0⟩] = (⟨[(1, 2)], [(1, 0, false)], []⟩, [⟨0, 0⟩, ⟨0, 1⟩, ⟨0, 0⟩, ⟨0, 3⟩, ⟨0, 0⟩]) from by kernel_rfl, show fin [(1, 2)] = [(1, 2)] from by unfold fin srt keys; simp [val, lku]] at c1
  refine LFx.mk' tt Try.func24 rfl rfl rfl (by kernel_rfl) rfl rfl fun F => ?_
  have he : (pV (1, 2)).cells = List.take 1 ((ofC (Value.int IntKind.u64 1)).cells ++ List.drop (ofC (Value.int IntKind.u64 1)).cells.length [V.k (Value.int IntKind.u64 0), V.k (Value.int IntKind.u64 0)]) ++ ((ofC (Value.int IntKind.u64 2)).cells ++ List.drop (1 + (ofC (Value.int IntKind.u64 2)).cells.length) ((ofC (Value.int IntKind.u64 1)).cells ++ List.drop (ofC (Value.int IntKind.u64 1)).cells.length [V.k (Value.int IntKind.u64 0), V.k (Value.int IntKind.u64 0)])) := rfl
  exact wk trueW trueW trueW
theorem fin_len (l : KV) : (fin l).length = l.length := by
  unfold fin
  rw [List.length_map, (srt_perm _).length_eq]
  exact List.length_map _
end Jw
end Lf
open Go.RowKit Rg Rp Go.WideShapes Go.ChangeShapes
set_option maxRecDepth 100000
namespace Lf
open Jn Jw
section
variable {H : Type} {enc : TypeId × Value → H} {W : World}
abbrev jopC (o : Jop) : List V := [.k (.int .i64 o.kind), uK o.key, uK o.val]
def jopOk (o : Jop) : Prop := o.key < 18446744073709551616 ∧ o.val < 18446744073709551616
theorem opnJop (n : Nat) : Opn enc Try.prog W n 59 jopC jopOk (fun _ => 1) := by
  have h := Opn.st (T := 59) (n := n) (P := Try.prog) (enc := enc) (W := W) (fs := #[⟨"Kind", 3, 0, false, "", "", 0⟩, ⟨"Key", 24, 1, false, "", "", 8⟩, ⟨"Value", 24, 2, false, "", "", 16⟩]) (by kernel_rfl) (by kernel_rfl)
    (OpnFs.cons (Opn.i64 (by kernel_rfl)) (OpnFs.cons (opnU64 (by kernel_rfl)) (OpnFs.cons (opnU64 (by kernel_rfl)) OpnFs.nil)))
  refine h.map (fun x => ⟨x.1, x.2.1, x.2.2.1⟩) (fun x _ => ?_) (fun x hx => ?_) (fun x _ => ?_)
  · simp only [jopC, List.append_nil, List.cons_append, List.nil_append]
  · exact ⟨hx.2.1, hx.2.2.1⟩
  · omega
theorem opnJops (n : Nat) : Opn enc Try.prog W n 49 (fun l : List Jop => [.s none (l.map opV)]) (fun l => ∀ o ∈ l, jopOk o) (fun l => (l.map fun _ => 1).sum + 1) :=
  Opn.sl (e := 59) (k := 3) opV (by kernel_rfl) (by kernel_rfl) (by decide) (fun _ => rfl) (opnJop _)
end
theorem jones_sum : ∀ l : List Jop, (l.map fun _ => 1).sum = l.length
  | [] => rfl
  | _ :: r => by rw [List.map_cons, List.sum_cons, jones_sum r, List.length_cons]; omega
theorem jops_ok {l : List Jop} (h : ∀ o ∈ l, jopOk o) : OpsOk B64 l := h
end Lf
end Go.Proofs.Ytgjoecocahpfhaa

/- A part of the proof: texts joined. -/
import Derived.Test.YtpaafpmofhajfaaGreatDoorQ2332c7ae
set_option linter.unusedVariables false
set_option linter.unusedSimpArgs false
namespace Go.Proofs.YtpaafpmofhajfaaGreatDoor
open Go.RowKit Rg Rp Go.WideShapes Go.ChangeShapes
namespace Lf
section
variable {H : Type} {enc : TypeId × Value → H} {W : World}
theorem opnU64s (n : Nat) : Opn enc Tryz.prog W n 41 (fun l : List Nat => [.s none (l.map uK)]) (fun l => ∀ x ∈ l, x < 18446744073709551616) (fun l => l.length + 1) :=
 (Opn.sl (e := 24) (k := 1) uK (by kernel_rfl) (by kernel_rfl) (by decide) (fun _ => rfl) (opnU64 (by kernel_rfl))).map id (fun _ _ => rfl) (fun _ h => h) fun l _ => by rw [sum_map_one]; exact Nat.le_refl _
theorem opnHash (n : Nat) : Opn enc Tryz.prog W n 38 (fun l : List UInt8 => l.map bK) (fun l => l.length = 32) (fun l => l.length + 1) :=
 Opn.arr8 (m := 32) (e := 5) (by kernel_rfl) (by kernel_rfl) (by kernel_rfl)
theorem opnAddr (n : Nat) : Opn enc Tryz.prog W n 23 (fun l : List UInt8 => l.map bK) (fun l => l.length = 8) (fun l => l.length + 1) :=
 Opn.arr8 (m := 8) (e := 5) (by kernel_rfl) (by kernel_rfl) (by kernel_rfl)
theorem opnHdr (n : Nat) : Opn enc Tryz.prog W n 40 hdrC Hdr.ok (fun _ => 1) := by
 have h := Opn.st (T := 40) (n := n) (P := Tryz.prog) (enc := enc) (W := W) (fs := #[⟨"Parent", 38, 0, false, "", "", 0⟩, ⟨"Number", 24, 32, false, "", "", 32⟩, ⟨"Time", 24, 33, false, "", "", 40⟩, ⟨"Keeper", 23, 34, false, "", "", 48⟩, ⟨"Limit", 24, 42, false, "", "", 56⟩, ⟨"Used", 24, 43, false, "", "", 64⟩, ⟨"Bloom", 38, 44, false, "", "", 72⟩, ⟨"State", 38, 76, false, "", "", 104⟩, ⟨"Txs", 38, 108, false, "", "", 136⟩, ⟨"Receipts", 38, 140, false, "", "", 168⟩, ⟨"Next", 38, 172, false, "", "", 200⟩]) (by kernel_rfl) (by kernel_rfl)
  (OpnFs.cons (opnHash _) (OpnFs.cons (opnU64 (by kernel_rfl)) (OpnFs.cons (opnU64 (by kernel_rfl)) (OpnFs.cons (opnAddr _) (OpnFs.cons (opnU64 (by kernel_rfl)) (OpnFs.cons (opnU64 (by kernel_rfl)) (OpnFs.cons (opnHash _) (OpnFs.cons (opnHash _) (OpnFs.cons (opnHash _) (OpnFs.cons (opnHash _) (OpnFs.cons (opnHash _) OpnFs.nil)))))))))))
 refine h.map (fun x => ⟨x.1, x.2.1, x.2.2.1, x.2.2.2.1, x.2.2.2.2.1, x.2.2.2.2.2.1, x.2.2.2.2.2.2.1, x.2.2.2.2.2.2.2.1, x.2.2.2.2.2.2.2.2.1, x.2.2.2.2.2.2.2.2.2.1, x.2.2.2.2.2.2.2.2.2.2.1⟩) (fun x _ => ?_) (fun x hx => ?_) (fun x _ => ?_)
 ·simp only [hdrC_eq, List.append_nil, List.cons_append, List.nil_append]
 ·obtain ⟨h1, h2, h3, h4, h5, h6, h7, h8, h9, h10, h11, _⟩ := hx
  exact ⟨h1, h2, h3, h4, h5, h6, h7, h8, h9, h10, h11⟩
 ·omega
theorem opnStore (n : Nat) : Opn enc Tryz.prog W n 43 storeC (fun s => s.hdr.ok ∧ seats64 s.seats ∧ seats64 s.next) (fun s => s.seats.length + s.next.length + 1) := by
 have h := Opn.st (T := 43) (n := n) (P := Tryz.prog) (enc := enc) (W := W) (fs := #[⟨"Header", 40, 0, false, "", "", 0⟩, ⟨"Seats", 41, 204, false, "", "", 232⟩, ⟨"Next", 41, 205, false, "", "", 256⟩]) (by kernel_rfl) (by kernel_rfl)
  (OpnFs.cons (opnHdr _) (OpnFs.cons (opnU64s _) (OpnFs.cons (opnU64s _) OpnFs.nil)))
 refine h.map (fun x => ⟨x.1, x.2.1, x.2.2.1⟩) (fun x _ => ?_) (fun x hx => ?_) (fun x _ => ?_)
 ·simp only [storeC, hx_eq, List.append_nil, List.cons_append, List.nil_append]
 ·exact ⟨hx.1, hx.2.1, hx.2.2.1⟩
 ·show x.2.1.length + x.2.2.1.length + 1 ≤ _
  omega
end
end Lf
end Go.Proofs.YtpaafpmofhajfaaGreatDoor

/- A part of the proof: texts joined. -/
import Derived.Test.YtpaafpmofhajfaaGreatDoorQ11561bcd
set_option linter.unusedVariables false
set_option linter.unusedSimpArgs false
namespace Go.Proofs.YtpaafpmofhajfaaGreatDoor
open Go.RowKit Rg Wm Ar
set_option linter.unusedVariables false
set_option maxRecDepth 100000
namespace Lf
open Pk
abbrev misV : V := .i 181 (.a [])
namespace Pw
set_option maxHeartbeats 1000000 in
theorem take_ok (l : List UInt8) (n : Nat) (hn : n ≤ l.length) (hl : l.length < 1073741824) (i : Nat) : LM Tryz.prog 105 [.p i 0, uK n] [(i, .b [bV l])] fun o m => o = .ret (bV (l.take n)) ∧ m = [(i, .b [bV (l.drop n)])] := by
 refine LM.box1 (fun k => [.p k 0, uK n]) (fun _ _ => rfl) rfl rfl rfl ?_ i
 refine LM.enter tt Tryz.func105 rfl rfl rfl (by kernel_rfl) rfl rfl rfl (fun o mo h => by rw [h.2]; rfl) fun F _ => ?_
 exact wk trueW trueW trueW
theorem LM.box1P {P : Program} {f : Nat} (A : Nat → List V) {cs cs' : List V} {v : V} (hA : ∀ (ρ : Nat → Nat) k, (A k).map (V.ren ρ) = A (ρ k)) (h1 : V.refs.go [] cs = true) (h2 : V.refs.go [] cs' = true) (hv : v.refs [] = true)
  (h : LM P f (A 1000) [(1000, .b cs)] fun o m => o = .pan v ∧ m = [(1000, .b cs')]) (i : Nat) : LM P f (A i) [(i, .b cs)] fun o m => o = .pan v ∧ m = [(i, .b cs')] :=
 LM.gen [1000] [i] (by simp) (by simp) rfl h fun ρ hρ => by
  simp at hρ
  refine ⟨by rw [hA, hρ], ?_, ?_, ?_⟩
  ·simp [Mem.ren, M.ren, hρ, ren_cells h1]
  ·simp [Out.ren, ren_refs v hv]
  ·simp [Mem.ren, M.ren, hρ, ren_cells h2]
set_option maxHeartbeats 1000000 in
theorem take_no (l : List UInt8) (n : Nat) (hn : l.length < n) (hl : l.length < 1073741824) (i : Nat) : LM Tryz.prog 105 [.p i 0, uK n] [(i, .b [bV l])] fun o m => o = .pan misV ∧ m = [(i, .b [bV l])] := by
 refine LM.box1P (fun k => [.p k 0, uK n]) (fun _ _ => rfl) rfl rfl rfl ?_ i
 refine LM.enter tt Tryz.func105 rfl rfl rfl (by kernel_rfl) rfl rfl rfl (fun o mo h => by rw [h.2]; rfl) fun F _ => ?_
 exact wk trueW trueW trueW
end Pw
end Lf
open Go.RowKit Rg Wm Ar
set_option linter.unusedVariables false
set_option maxRecDepth 100000
namespace Lf
open Pk
theorem len_eq (c b : Nat) (l : List UInt8) (h : ¬ c < b + 48) : lenR c b l = if c - b - 48 + 1 ≤ l.length then (if (l.take (c - b - 48 + 1)).head? = some 0 ∨ 8 < (l.take (c - b - 48 + 1)).length then none else if Ps.beN (l.take (c - b - 48 + 1)) < 48 then none else some (Ps.beN (l.take (c - b - 48 + 1)), l.drop (c - b - 48 + 1))) else none := by
 unfold lenR take?
 rw [if_neg h]
 by_cases h2 : c - b - 48 + 1 ≤ l.length
 ·rw [if_pos h2, if_pos h2]
 ·rw [if_neg h2, if_neg h2]
theorem limb0 {x : Nat} (h : x < 18446744073709551616) : (limbs x).getD 0 default = x := by
 rw [limbs_get x (by decide)]
 unfold limb m64
 omega
theorem head0 {h : List UInt8} (h0 : 0 < h.length) : (h.head? = some 0 ↔ ((h.getD 0 default).toNat : Int) = 0) := by
 cases h with
 | nil => simp at h0
 | cons a r =>
  simp only [List.head?_cons, Option.some.injEq, List.getD_cons_zero]
  constructor
  ·rintro rfl; rfl
  ·intro e; exact u8_zero (by omega)
namespace Pw
set_option maxHeartbeats 2000000 in
theorem length_ (c b : UInt8) (hb : b.toNat = 128 ∨ b.toNat = 192) (hcb : b.toNat ≤ c.toNat) (hc : c.toNat < b.toNat + 64) (l : List UInt8) (hl : l.length < 1073741824) (i : Nat) :
  (∀ n r, lenR c.toNat b.toNat l = some (n, r) → LM Tryz.prog 106 [.p i 0, bK c, bK b] [(i, .b [bV l])] fun o m => o = .ret (uK n) ∧ m = [(i, .b [bV r])]) ∧
  (lenR c.toNat b.toNat l = none → ∃ r, LM Tryz.prog 106 [.p i 0, bK c, bK b] [(i, .b [bV l])] fun o m => o = .pan misV ∧ m = [(i, .b [bV r])]) := by
 have hcl := c.toNat_lt
 by_cases h1 : c.toNat < b.toNat + 48
 ·have e : lenR c.toNat b.toNat l = some (c.toNat - b.toNat, l) := by unfold lenR; rw [if_pos h1]
  rw [e]
  refine ⟨fun n r h => ?_, fun h => by cases h⟩
  cases h
  have hv1 : V.k (.int .u64 ((c.toNat : Int) - (b.toNat : Int))) = uK (c.toNat - b.toNat) := by unfold uK; rw [Int.natCast_sub hcb]
  clear e
  refine LM.box1 (fun k => [.p k 0, bK c, bK b]) (fun _ _ => rfl) rfl rfl rfl ?_ i
  refine LM.enter tt Tryz.func106 rfl rfl rfl (by kernel_rfl) rfl rfl rfl (fun o mo h => by rw [h.2]; rfl) fun F _ => ?_
  exact wk trueW trueW trueW
 ·rw [len_eq _ _ _ h1]
  have hx : IntKind.u64.wrap ((c.toNat : Int) - (b.toNat : Int) - 48 + 1) = ((c.toNat - b.toNat - 48 + 1 : Nat) : Int) := by rw [wrap_u64 (by omega)]; omega
  generalize hn0 : c.toNat - b.toNat - 48 + 1 = n0 at *
  have hn1 : 1 ≤ n0 := by omega
  by_cases h2 : n0 ≤ l.length
  ·rw [if_pos h2]
   have c1 := take_ok l n0 h2 hl
   have hlen : (l.take n0).length = n0 := by rw [List.length_take]; omega
   generalize l.take n0 = h at *
   generalize l.drop n0 = r at *
   have hz := head0 (h := h) (by omega)
   by_cases h3 : h.head? = some 0
   ·rw [if_pos (.inl h3)]
    refine ⟨fun n r h => (by cases h), fun _ => ⟨r, ?_⟩⟩
    have hz2 := hz.1 h3
    clear hz h3
    refine LM.box1P (fun k => [.p k 0, bK c, bK b]) (fun _ _ => rfl) rfl rfl rfl ?_ i
    refine LM.enter tt Tryz.func106 rfl rfl rfl (by kernel_rfl) rfl rfl rfl (fun o mo h => by rw [h.2]; rfl) fun F _ => ?_
    exact wk trueW trueW trueW
   ·have hz2 : ¬ ((h.getD 0 default).toNat : Int) = 0 := fun e => h3 (hz.2 e)
    by_cases h4 : 8 < h.length
    ·rw [if_pos (.inr h4)]
     refine ⟨fun n r h => (by cases h), fun _ => ⟨r, ?_⟩⟩
     clear hz h3
     refine LM.box1P (fun k => [.p k 0, bK c, bK b]) (fun _ _ => rfl) rfl rfl rfl ?_ i
     refine LM.enter tt Tryz.func106 rfl rfl rfl (by kernel_rfl) rfl rfl rfl (fun o mo h => by rw [h.2]; rfl) fun F _ => ?_
     exact wk trueW trueW trueW
    ·rw [if_neg (by intro e; rcases e with e | e; exact h3 e; exact h4 e)]
     have hlt : Ps.beN h < 18446744073709551616 := by
      have k1 := Ps.beN_lt h
      have k2 : 256 ^ h.length ≤ 256 ^ 8 := Nat.pow_le_pow_right (by decide) (by omega)
      have k3 : (256 : Nat) ^ 8 = 18446744073709551616 := by decide
      omega
     have c2 := Wo.Read h (by omega)
     have hq := limb0 hlt
     have hl4 := limbs_len (Ps.beN h)
     clear hz h3 hlt
     generalize Ps.beN h = x at *
     by_cases h5 : x < 48
     ·rw [if_pos h5]
      refine ⟨fun n r h => (by cases h), fun _ => ⟨r, ?_⟩⟩
      refine LM.box1P (fun k => [.p k 0, bK c, bK b]) (fun _ _ => rfl) rfl rfl rfl ?_ i
      refine LM.enter tt Tryz.func106 rfl rfl rfl (by kernel_rfl) rfl rfl rfl (fun o mo h => by rw [h.2]; rfl) fun F _ => ?_
      exact wk trueW trueW trueW
     ·rw [if_neg h5]
      refine ⟨fun n r' h => ?_, fun h => by cases h⟩
      cases h
      have hv1 : uK ((limbs x).getD 0 default) = uK x := by rw [hq]
      refine LM.box1 (fun k => [.p k 0, bK c, bK b]) (fun _ _ => rfl) rfl rfl rfl ?_ i
      refine LM.enter tt Tryz.func106 rfl rfl rfl (by kernel_rfl) rfl rfl rfl (fun o mo h => by rw [h.2]; rfl) fun F _ => ?_
      exact wk trueW trueW trueW
  ·rw [if_neg h2]
   refine ⟨fun n r h => (by cases h), fun _ => ⟨l, ?_⟩⟩
   have p1 := take_no l n0 (by omega) hl
   have hp1 : PanIn 3 7 := ⟨trivial⟩
   refine LM.box1P (fun k => [.p k 0, bK c, bK b]) (fun _ _ => rfl) rfl rfl rfl ?_ i
   refine LM.enter tt Tryz.func106 rfl rfl rfl (by kernel_rfl) rfl rfl rfl (fun o mo h => by rw [h.2]; rfl) fun F _ => ?_
   exact wk trueW trueW trueW
end Pw
end Lf
end Go.Proofs.YtpaafpmofhajfaaGreatDoor

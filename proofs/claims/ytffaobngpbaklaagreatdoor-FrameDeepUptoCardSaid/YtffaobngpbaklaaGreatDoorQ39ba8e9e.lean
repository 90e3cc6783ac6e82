/- A part of the proof: texts joined. -/
import Derived.Test.YtffaobngpbaklaaGreatDoorQ3642c50a
set_option linter.unusedVariables false
set_option linter.unusedSimpArgs false
namespace Go.Proofs.YtffaobngpbaklaaGreatDoor
open Go.RowKit Rg Wm Ar
set_option linter.unusedVariables false
set_option maxRecDepth 100000
namespace Lf
open Fm FrP Fw
def wd2 (n a b : Nat) : Option Nat :=
 if n = 1 then some (a + b)
 else if n = 2 then some (a * b)
 else if n = 3 then some (dif a b)
 else if n = 4 then some (qW a b)
 else if n = 6 then some (rW a b)
 else if n = 5 then some (sqW a b)
 else if n = 7 then some (srW a b)
 else if n = 10 then some (a ^ (b % M256))
 else if n = 11 then some (extW a b)
 else if n = 16 then some (flag (decide (Wd.cmp a b < 0)))
 else if n = 19 then some (flag (decide (scmp a b > 0)))
 else if n = 24 then some (a ^^^ b)
 else if n = 27 then some (b * 2 ^ (a % M256))
 else if n = 29 then some (sarW a b)
 else none
theorem wd2_cases {n a b x : Nat} (h : wd2 n a b = some x) : (n = 1 ∧ x = a + b) ∨ (n = 2 ∧ x = a * b) ∨ (n = 3 ∧ x = dif a b) ∨ (n = 4 ∧ x = qW a b) ∨ (n = 6 ∧ x = rW a b) ∨ (n = 5 ∧ x = sqW a b) ∨ (n = 7 ∧ x = srW a b) ∨ (n = 10 ∧ x = a ^ (b % M256)) ∨ (n = 11 ∧ x = extW a b) ∨ (n = 16 ∧ x = flag (decide (Wd.cmp a b < 0))) ∨ (n = 19 ∧ x = flag (decide (scmp a b > 0))) ∨ (n = 24 ∧ x = a ^^^ b) ∨ (n = 27 ∧ x = b * 2 ^ (a % M256)) ∨ (n = 29 ∧ x = sarW a b) := by
 unfold wd2 at h
 by_cases h1 : n = 1
 ·rw [if_pos h1] at h
  exact .inl ⟨h1, (Option.some.inj h).symm⟩
 rw [if_neg h1] at h
 refine .inr ?_
 by_cases h2 : n = 2
 ·rw [if_pos h2] at h
  exact .inl ⟨h2, (Option.some.inj h).symm⟩
 rw [if_neg h2] at h
 refine .inr ?_
 by_cases h3 : n = 3
 ·rw [if_pos h3] at h
  exact .inl ⟨h3, (Option.some.inj h).symm⟩
 rw [if_neg h3] at h
 refine .inr ?_
 by_cases h4 : n = 4
 ·rw [if_pos h4] at h
  exact .inl ⟨h4, (Option.some.inj h).symm⟩
 rw [if_neg h4] at h
 refine .inr ?_
 by_cases h6 : n = 6
 ·rw [if_pos h6] at h
  exact .inl ⟨h6, (Option.some.inj h).symm⟩
 rw [if_neg h6] at h
 refine .inr ?_
 by_cases h5 : n = 5
 ·rw [if_pos h5] at h
  exact .inl ⟨h5, (Option.some.inj h).symm⟩
 rw [if_neg h5] at h
 refine .inr ?_
 by_cases h7 : n = 7
 ·rw [if_pos h7] at h
  exact .inl ⟨h7, (Option.some.inj h).symm⟩
 rw [if_neg h7] at h
 refine .inr ?_
 by_cases h10 : n = 10
 ·rw [if_pos h10] at h
  exact .inl ⟨h10, (Option.some.inj h).symm⟩
 rw [if_neg h10] at h
 refine .inr ?_
 by_cases h11 : n = 11
 ·rw [if_pos h11] at h
  exact .inl ⟨h11, (Option.some.inj h).symm⟩
 rw [if_neg h11] at h
 refine .inr ?_
 by_cases h16 : n = 16
 ·rw [if_pos h16] at h
  exact .inl ⟨h16, (Option.some.inj h).symm⟩
 rw [if_neg h16] at h
 refine .inr ?_
 by_cases h19 : n = 19
 ·rw [if_pos h19] at h
  exact .inl ⟨h19, (Option.some.inj h).symm⟩
 rw [if_neg h19] at h
 refine .inr ?_
 by_cases h24 : n = 24
 ·rw [if_pos h24] at h
  exact .inl ⟨h24, (Option.some.inj h).symm⟩
 rw [if_neg h24] at h
 refine .inr ?_
 by_cases h27 : n = 27
 ·rw [if_pos h27] at h
  exact .inl ⟨h27, (Option.some.inj h).symm⟩
 rw [if_neg h27] at h
 refine .inr ?_
 by_cases h29 : n = 29
 ·rw [if_pos h29] at h
  exact ⟨h29, (Option.some.inj h).symm⟩
 rw [if_neg h29] at h
 cases h
theorem wd2_none {n a b : Nat} (h : wd2 n a b = none) : n ≠ 1 ∧ n ≠ 2 ∧ n ≠ 3 ∧ n ≠ 4 ∧ n ≠ 6 ∧ n ≠ 5 ∧ n ≠ 7 ∧ n ≠ 10 ∧ n ≠ 11 ∧ n ≠ 16 ∧ n ≠ 19 ∧ n ≠ 24 ∧ n ≠ 27 ∧ n ≠ 29 := by
 unfold wd2 at h
 by_cases h1 : n = 1
 ·rw [if_pos h1] at h
  cases h
 rw [if_neg h1] at h
 refine ⟨h1, ?_⟩
 by_cases h2 : n = 2
 ·rw [if_pos h2] at h
  cases h
 rw [if_neg h2] at h
 refine ⟨h2, ?_⟩
 by_cases h3 : n = 3
 ·rw [if_pos h3] at h
  cases h
 rw [if_neg h3] at h
 refine ⟨h3, ?_⟩
 by_cases h4 : n = 4
 ·rw [if_pos h4] at h
  cases h
 rw [if_neg h4] at h
 refine ⟨h4, ?_⟩
 by_cases h6 : n = 6
 ·rw [if_pos h6] at h
  cases h
 rw [if_neg h6] at h
 refine ⟨h6, ?_⟩
 by_cases h5 : n = 5
 ·rw [if_pos h5] at h
  cases h
 rw [if_neg h5] at h
 refine ⟨h5, ?_⟩
 by_cases h7 : n = 7
 ·rw [if_pos h7] at h
  cases h
 rw [if_neg h7] at h
 refine ⟨h7, ?_⟩
 by_cases h10 : n = 10
 ·rw [if_pos h10] at h
  cases h
 rw [if_neg h10] at h
 refine ⟨h10, ?_⟩
 by_cases h11 : n = 11
 ·rw [if_pos h11] at h
  cases h
 rw [if_neg h11] at h
 refine ⟨h11, ?_⟩
 by_cases h16 : n = 16
 ·rw [if_pos h16] at h
  cases h
 rw [if_neg h16] at h
 refine ⟨h16, ?_⟩
 by_cases h19 : n = 19
 ·rw [if_pos h19] at h
  cases h
 rw [if_neg h19] at h
 refine ⟨h19, ?_⟩
 by_cases h24 : n = 24
 ·rw [if_pos h24] at h
  cases h
 rw [if_neg h24] at h
 refine ⟨h24, ?_⟩
 by_cases h27 : n = 27
 ·rw [if_pos h27] at h
  cases h
 rw [if_neg h27] at h
 refine ⟨h27, ?_⟩
 by_cases h29 : n = 29
 ·rw [if_pos h29] at h
  cases h
 rw [if_neg h29] at h
 exact h29
namespace Fw
theorem yes (x : Bool) : LF Tryz.prog 28 [.k (.bool x)] (fun _ => wV (flag x)) none := by
 have hl := limbs_len (flag x)
 cases x
 ·have c1 : LF Tryz.prog 29 [.k (.int .u64 0)] (fun _ => wV (flag false)) none := Wo.IntW 0 (by decide)
  generalize flag false = X at *
  refine LFx.mk' tt Tryz.func28 rfl rfl rfl (by kernel_rfl) rfl rfl fun F => ?_
  exact wk trueW trueW trueW
 ·have c1 : LF Tryz.prog 29 [.k (.int .u64 1)] (fun _ => wV (flag true)) none := Wo.IntW 1 (by decide)
  generalize flag true = X at *
  refine LFx.mk' tt Tryz.func28 rfl rfl rfl (by kernel_rfl) rfl rfl fun F => ?_
  exact wk trueW trueW trueW
set_option maxHeartbeats 8000000 in
theorem words_at (n a b x : Nat) (h : wd2 n a b = some x) : LF Tryz.prog 19 [.k (.int .u8 ((n : Nat) : Int)), wV a, wV b] (fun _ => .t [wV x, .k (.bool true)]) none := by
 have c1 := Wo.DivMod a b
 have c2 := Tw.SDivMod a b
 have hla := limbs_len a
 have hlb := limbs_len b
 have q1 := limbs_len (qW a b)
 have q2 := limbs_len (rW a b)
 have q3 := limbs_len (sqW a b)
 have q4 := limbs_len (srW a b)
 have hx := limbs_len x
 rcases wd2_cases h with ⟨rfl, rfl⟩ | ⟨rfl, rfl⟩ | ⟨rfl, rfl⟩ | ⟨rfl, rfl⟩ | ⟨rfl, rfl⟩ | ⟨rfl, rfl⟩ | ⟨rfl, rfl⟩ | ⟨rfl, rfl⟩ | ⟨rfl, rfl⟩ | ⟨rfl, rfl⟩ | ⟨rfl, rfl⟩ | ⟨rfl, rfl⟩ | ⟨rfl, rfl⟩ | ⟨rfl, rfl⟩
 ·clear h
  have c3 := Wo.Add a b
  generalize qW a b = Q at *
  generalize rW a b = R at *
  generalize sqW a b = SQ at *
  generalize srW a b = SR at *
  generalize a + b = X at *
  refine LFx.mk' tt Tryz.func19 rfl rfl rfl (by kernel_rfl) rfl rfl fun F => ?_
  exact wk trueW trueW trueW
 ·clear h
  have c3 := Wo.Mul a b
  generalize qW a b = Q at *
  generalize rW a b = R at *
  generalize sqW a b = SQ at *
  generalize srW a b = SR at *
  generalize a * b = X at *
  refine LFx.mk' tt Tryz.func19 rfl rfl rfl (by kernel_rfl) rfl rfl fun F => ?_
  exact wk trueW trueW trueW
 ·clear h
  have c3 := Wo.Sub a b
  generalize qW a b = Q at *
  generalize rW a b = R at *
  generalize sqW a b = SQ at *
  generalize srW a b = SR at *
  generalize dif a b = X at *
  refine LFx.mk' tt Tryz.func19 rfl rfl rfl (by kernel_rfl) rfl rfl fun F => ?_
  exact wk trueW trueW trueW
 ·clear h
  generalize qW a b = Q at *
  generalize rW a b = R at *
  generalize sqW a b = SQ at *
  generalize srW a b = SR at *
  refine LFx.mk' tt Tryz.func19 rfl rfl rfl (by kernel_rfl) rfl rfl fun F => ?_
  exact wk trueW trueW trueW
 ·clear h
  generalize qW a b = Q at *
  generalize rW a b = R at *
  generalize sqW a b = SQ at *
  generalize srW a b = SR at *
  refine LFx.mk' tt Tryz.func19 rfl rfl rfl (by kernel_rfl) rfl rfl fun F => ?_
  exact wk trueW trueW trueW
 ·clear h
  generalize qW a b = Q at *
  generalize rW a b = R at *
  generalize sqW a b = SQ at *
  generalize srW a b = SR at *
  refine LFx.mk' tt Tryz.func19 rfl rfl rfl (by kernel_rfl) rfl rfl fun F => ?_
  exact wk trueW trueW trueW
 ·clear h
  generalize qW a b = Q at *
  generalize rW a b = R at *
  generalize sqW a b = SQ at *
  generalize srW a b = SR at *
  refine LFx.mk' tt Tryz.func19 rfl rfl rfl (by kernel_rfl) rfl rfl fun F => ?_
  exact wk trueW trueW trueW
 ·clear h
  have c3 := Wo.Exp a b
  generalize qW a b = Q at *
  generalize rW a b = R at *
  generalize sqW a b = SQ at *
  generalize srW a b = SR at *
  generalize a ^ (b % M256) = X at *
  refine LFx.mk' tt Tryz.func19 rfl rfl rfl (by kernel_rfl) rfl rfl fun F => ?_
  exact wk trueW trueW trueW
 ·clear h
  have c3 := Tw.Extend a b
  generalize qW a b = Q at *
  generalize rW a b = R at *
  generalize sqW a b = SQ at *
  generalize srW a b = SR at *
  generalize extW a b = X at *
  refine LFx.mk' tt Tryz.func19 rfl rfl rfl (by kernel_rfl) rfl rfl fun F => ?_
  exact wk trueW trueW trueW
 ·clear h
  have c3 := Wo.Cmp a b
  have c4 := yes (decide (Wd.cmp a b < 0))
  generalize qW a b = Q at *
  generalize rW a b = R at *
  generalize sqW a b = SQ at *
  generalize srW a b = SR at *
  generalize flag (decide (Wd.cmp a b < 0)) = X at *
  refine LFx.mk' tt Tryz.func19 rfl rfl rfl (by kernel_rfl) rfl rfl fun F => ?_
  exact wk trueW trueW trueW
 ·clear h
  have c3 := Tw.SCmp a b
  have c4 := yes (decide (scmp a b > 0))
  generalize qW a b = Q at *
  generalize rW a b = R at *
  generalize sqW a b = SQ at *
  generalize srW a b = SR at *
  generalize flag (decide (scmp a b > 0)) = X at *
  refine LFx.mk' tt Tryz.func19 rfl rfl rfl (by kernel_rfl) rfl rfl fun F => ?_
  exact wk trueW trueW trueW
 ·clear h
  have c3 := Tw.Xor a b
  generalize qW a b = Q at *
  generalize rW a b = R at *
  generalize sqW a b = SQ at *
  generalize srW a b = SR at *
  generalize a ^^^ b = X at *
  refine LFx.mk' tt Tryz.func19 rfl rfl rfl (by kernel_rfl) rfl rfl fun F => ?_
  exact wk trueW trueW trueW
 ·clear h
  have c3 := Tw.Shl a b
  generalize qW a b = Q at *
  generalize rW a b = R at *
  generalize sqW a b = SQ at *
  generalize srW a b = SR at *
  generalize b * 2 ^ (a % M256) = X at *
  refine LFx.mk' tt Tryz.func19 rfl rfl rfl (by kernel_rfl) rfl rfl fun F => ?_
  exact wk trueW trueW trueW
 ·clear h
  have c3 := Tw.Sar a b
  generalize qW a b = Q at *
  generalize rW a b = R at *
  generalize sqW a b = SQ at *
  generalize srW a b = SR at *
  generalize sarW a b = X at *
  refine LFx.mk' tt Tryz.func19 rfl rfl rfl (by kernel_rfl) rfl rfl fun F => ?_
  exact wk trueW trueW trueW
set_option maxHeartbeats 8000000 in
theorem words_no (n a b : Nat) (hn : n < 256) (h : wd2 n a b = none) : LF Tryz.prog 19 [.k (.int .u8 ((n : Nat) : Int)), wV a, wV b] (fun _ => .t [.a [uK 0, uK 0, uK 0, uK 0], .k (.bool false)]) none := by
 have c1 := Wo.DivMod a b
 have c2 := Tw.SDivMod a b
 have hla := limbs_len a
 have hlb := limbs_len b
 have q1 := limbs_len (qW a b)
 have q2 := limbs_len (rW a b)
 have q3 := limbs_len (sqW a b)
 have q4 := limbs_len (srW a b)
 obtain ⟨h1, h2, h3, h4, h6, h5, h7, h10, h11, h16, h19, h24, h27, h29⟩ := wd2_none h
 clear h
 generalize qW a b = Q at *
 generalize rW a b = R at *
 generalize sqW a b = SQ at *
 generalize srW a b = SR at *
 refine LFx.mk' tt Tryz.func19 rfl rfl rfl (by kernel_rfl) rfl rfl fun F => ?_
 exact wk trueW trueW trueW
end Fw
end Lf
open Go.RowKit Rg Rp Go.WideShapes Go.ChangeShapes Wm Ar
namespace Lf
section
variable {H : Type} {enc : TypeId × Value → H} {W : World}
theorem opnWord (n : Nat) : Opn enc Tryz.prog W n 36 (fun x : Nat => (limbs x).map uK) (fun x => x < M256) (fun _ => 5) :=
 (Opn.arr64 (m := 4) (e := 23) (by kernel_rfl) (by kernel_rfl) (by kernel_rfl)).map (fun l => numOf (l.map UInt64.toNat)) (fun l h => by
  rw [limbs_num ((List.length_map _).trans h) (fun a ha => by obtain ⟨y, _, rfl⟩ := List.mem_map.1 ha; exact y.toNat_lt), List.map_map]
  rfl) (fun l h => numOf_lt ((List.length_map _).trans h) (fun a ha => by obtain ⟨y, _, rfl⟩ := List.mem_map.1 ha; exact y.toNat_lt)) (fun l h => by omega)
end
end Lf
end Go.Proofs.YtffaobngpbaklaaGreatDoor

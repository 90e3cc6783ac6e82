/- A part of the proof: texts joined. -/
import Derived.Test.YtffaobngpbaklaaGreatDoorQ42002da0
set_option linter.unusedVariables false
set_option linter.unusedSimpArgs false
namespace Go.Proofs.YtffaobngpbaklaaGreatDoor
open Go.RowKit Rg Wm Ar
set_option linter.unusedVariables false
set_option maxRecDepth 100000
namespace Lf
open Fm FrP Fw
namespace By
theorem Repeat_0 (a : UInt8) : LF Tryz.prog 22 [.s none [.k (.int .u8 96), bK a], .k (.int .i64 0)] (fun _ => .s none []) none := by
 refine LFx.mk' tt Tryz.func22 rfl rfl rfl (by kernel_rfl) rfl rfl fun F => ?_
 exact wk trueW trueW trueW
theorem Rep2 (n : Nat) (a : UInt8) (hn : n < 201) : LF Tryz.prog 22 [.s none [.k (.int .u8 96), bK a], .k (.int .i64 (n : Int))] (fun _ => .s none ((pat a (2 * n)).map bK)) none := by
 rcases Nat.eq_zero_or_pos n with h | h
 ·subst h; exact Repeat_0 a
 ·exact Repeat n a hn h
end By
namespace Fw
set_option maxHeartbeats 4000000 in
theorem FrameDeep (n : Int) (a : UInt8) (hlo : -9223372036854775808 ≤ n) (hhi : n ≤ 9223372036854775807) : LF Tryz.prog 10 [.k (.int .i64 n), bK a] (fun _ => .k (.bool true)) none := by
 have c1 := alive16
 rcases Int.lt_or_le n 0 with h | h
 ·refine LFx.mk' tt Tryz.func10 rfl rfl rfl (by kernel_rfl) rfl rfl fun F => ?_
  exact wk trueW trueW trueW
 ·rcases Int.lt_or_le 200 n with h2 | h2
  ·refine LFx.mk' tt Tryz.func10 rfl rfl rfl (by kernel_rfl) rfl rfl fun F => ?_
   exact wk trueW trueW trueW
  ·obtain ⟨k, rfl⟩ : ∃ k : Nat, n = (k : Int) := ⟨n.toNat, by omega⟩
   have c2 := By.Rep2 k a (by omega)
   have hr := deep_run a k
   have hw : IntKind.u64.wrap (k : Int) = (k : Int) := by rw [IntKind.wrap_u64]; omega
   have hw2 : IntKind.u64.wrap (3 * (k : Int)) = ((3 * k : Nat) : Int) := by rw [IntKind.wrap_u64]; omega
   have hw3 : IntKind.u64.wrap ((1000 : Int) - ((3 * k : Nat) : Int)) = ((1000 - 3 * k : Nat) : Int) := by rw [IntKind.wrap_u64]; omega
   by_cases h3 : k ≤ 64
   ·rw [if_pos h3] at hr
    have c3 := Run (pat a (2 * k)) [] 1000 (by rw [pat_len]; omega) (by decide) (by decide) _ hr
    clear hr
    generalize pat a (2 * k) = C at *
    refine LFx.mk' tt Tryz.func10 rfl rfl rfl (by kernel_rfl) rfl rfl fun F => ?_
    exact wk trueW trueW trueW
   ·rw [if_neg h3] at hr
    have c3 := Run (pat a (2 * k)) [] 1000 (by rw [pat_len]; omega) (by decide) (by decide) _ hr
    clear hr
    generalize pat a (2 * k) = C at *
    refine LFx.mk' tt Tryz.func10 rfl rfl rfl (by kernel_rfl) rfl rfl fun F => ?_
    exact wk trueW trueW trueW
end Fw
end Lf
end Go.Proofs.YtffaobngpbaklaaGreatDoor

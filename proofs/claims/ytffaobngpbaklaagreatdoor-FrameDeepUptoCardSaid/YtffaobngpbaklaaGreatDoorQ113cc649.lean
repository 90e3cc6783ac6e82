/- A part of the proof: texts joined. -/
import Derived.Test.YtffaobngpbaklaaGreatDoorQ1026c12c
set_option linter.unusedVariables false
set_option linter.unusedSimpArgs false
namespace Go.Proofs.YtffaobngpbaklaaGreatDoor
open Go.RowKit Rg
set_option linter.unusedVariables false
set_option maxRecDepth 100000
namespace Pr
def rangesN (n : Nat) : Nat := if 160 ≤ n ∧ n ≤ 162 then 50 * (n - 160 + 1) else if (96 ≤ n ∧ n < 160) ∨ (0 < n ∧ n ≤ 29 ∧ n ≠ 12 ∧ n ≠ 13 ∧ n ≠ 14 ∧ n ≠ 15) then 3 else if n = 52 ∨ n = 54 ∨ n = 57 ∨ n = 81 ∨ n = 82 ∨ n = 83 then 3 else 0
def opN (n : Nat) : Nat := if n = 0 then 0 else if n = 242 then 0 else if n = 253 then 0 else if n = 91 then 1 else if n = 80 then 2 else if n = 88 then 2 else if n = 89 then 2 else if n = 90 then 2 else if n = 48 then 2 else if n = 50 then 2 else if n = 51 then 2 else if n = 53 then 2 else if n = 55 then 2 else if n = 56 then 2 else if n = 64 then 2 else if n = 65 then 2 else if n = 66 then 2 else if n = 2 then 5 else if n = 4 then 5 else if n = 5 then 5 else if n = 6 then 5 else if n = 7 then 5 else if n = 11 then 5 else if n = 8 then 8 else if n = 9 then 8 else if n = 86 then 8 else if n = 87 then 10 else if n = 10 then 10 else if n = 32 then 30 else if n = 84 then 50 else if n = 49 then 100 else if n = 85 then 100 else if n = 241 then 200 else if n = 243 then 200 else if n = 244 then 200 else if n = 240 then 500 else rangesN n
end Pr
namespace Lf
namespace Prw
set_option maxHeartbeats 4000000 in
theorem ranges (n : Nat) (hn : n < 256) : LF Tryz.prog 40 [.k (.int .u8 ((n : Nat) : Int))] (fun _ => uK (Pr.rangesN n)) none := by
 by_cases h1 : 160 ≤ n ∧ n ≤ 162
 ·obtain ⟨a, b⟩ := h1
  have e : Pr.rangesN n = 50 * (n - 160 + 1) := if_pos ⟨a, b⟩
  rw [e]
  have hw : IntKind.u8.wrap ((n : Int) - 160) = ((n - 160 : Nat) : Int) := by rw [wrap_u8 (by omega)]; omega
  refine LFx.mk' tt Tryz.func40 rfl rfl rfl (by kernel_rfl) rfl rfl fun F => ?_
  exact wk trueW trueW trueW
 by_cases h2 : (96 ≤ n ∧ n < 160) ∨ (0 < n ∧ n ≤ 29 ∧ n ≠ 12 ∧ n ≠ 13 ∧ n ≠ 14 ∧ n ≠ 15)
 ·have e : Pr.rangesN n = 3 := (if_neg h1).trans (if_pos h2)
  rw [e]
  rcases h2 with ⟨a, b⟩ | ⟨a, b, c, d, f, g⟩
  ·clear h1
   refine LFx.mk' tt Tryz.func40 rfl rfl rfl (by kernel_rfl) rfl rfl fun F => ?_
   exact wk trueW trueW trueW
  ·clear h1
   refine LFx.mk' tt Tryz.func40 rfl rfl rfl (by kernel_rfl) rfl rfl fun F => ?_
   exact wk trueW trueW trueW
 by_cases h3 : n = 52 ∨ n = 54 ∨ n = 57 ∨ n = 81 ∨ n = 82 ∨ n = 83
 ·have e : Pr.rangesN n = 3 := (if_neg h1).trans ((if_neg h2).trans (if_pos h3))
  rw [e]
  clear h1 h2
  rcases h3 with rfl | rfl | rfl | rfl | rfl | rfl
  ·refine LFx.mk' tt Tryz.func40 rfl rfl rfl (by kernel_rfl) rfl rfl fun F => ?_
   exact wk trueW trueW trueW
  ·refine LFx.mk' tt Tryz.func40 rfl rfl rfl (by kernel_rfl) rfl rfl fun F => ?_
   exact wk trueW trueW trueW
  ·refine LFx.mk' tt Tryz.func40 rfl rfl rfl (by kernel_rfl) rfl rfl fun F => ?_
   exact wk trueW trueW trueW
  ·refine LFx.mk' tt Tryz.func40 rfl rfl rfl (by kernel_rfl) rfl rfl fun F => ?_
   exact wk trueW trueW trueW
  ·refine LFx.mk' tt Tryz.func40 rfl rfl rfl (by kernel_rfl) rfl rfl fun F => ?_
   exact wk trueW trueW trueW
  ·refine LFx.mk' tt Tryz.func40 rfl rfl rfl (by kernel_rfl) rfl rfl fun F => ?_
   exact wk trueW trueW trueW
 have e : Pr.rangesN n = 0 := (if_neg h1).trans ((if_neg h2).trans (if_neg h3))
 rw [e]
 have k52 : ¬ (n : Int) = 52 := by omega
 have k54 : ¬ (n : Int) = 54 := by omega
 have k57 : ¬ (n : Int) = 57 := by omega
 have k81 : ¬ (n : Int) = 81 := by omega
 have k82 : ¬ (n : Int) = 82 := by omega
 have k83 : ¬ (n : Int) = 83 := by omega
 by_cases h4 : n ≤ 29
 ·have h5 : n = 0 ∨ n = 12 ∨ n = 13 ∨ n = 14 ∨ n = 15 := by omega
  clear h1 h2 h3
  rcases h5 with rfl | rfl | rfl | rfl | rfl
  ·refine LFx.mk' tt Tryz.func40 rfl rfl rfl (by kernel_rfl) rfl rfl fun F => ?_
   exact wk trueW trueW trueW
  ·refine LFx.mk' tt Tryz.func40 rfl rfl rfl (by kernel_rfl) rfl rfl fun F => ?_
   exact wk trueW trueW trueW
  ·refine LFx.mk' tt Tryz.func40 rfl rfl rfl (by kernel_rfl) rfl rfl fun F => ?_
   exact wk trueW trueW trueW
  ·refine LFx.mk' tt Tryz.func40 rfl rfl rfl (by kernel_rfl) rfl rfl fun F => ?_
   exact wk trueW trueW trueW
  ·refine LFx.mk' tt Tryz.func40 rfl rfl rfl (by kernel_rfl) rfl rfl fun F => ?_
   exact wk trueW trueW trueW
 by_cases h6 : n < 96
 ·clear h1 h2 h3
  refine LFx.mk' tt Tryz.func40 rfl rfl rfl (by kernel_rfl) rfl rfl fun F => ?_
  exact wk trueW trueW trueW
 ·have h7 : 162 < n := by omega
  clear h1 h2 h3 h6
  refine LFx.mk' tt Tryz.func40 rfl rfl rfl (by kernel_rfl) rfl rfl fun F => ?_
  exact wk trueW trueW trueW
end Prw
end Lf
end Go.Proofs.YtffaobngpbaklaaGreatDoor

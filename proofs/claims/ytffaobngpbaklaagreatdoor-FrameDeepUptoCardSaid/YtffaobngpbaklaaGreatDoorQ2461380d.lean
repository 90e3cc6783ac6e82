/- A part of the proof: texts joined. -/
import Derived.Test.YtffaobngpbaklaaGreatDoorQ1026c12c
set_option linter.unusedVariables false
set_option linter.unusedSimpArgs false
namespace Go.Proofs.YtffaobngpbaklaaGreatDoor
open Go.RowKit Rg
set_option linter.unusedVariables false
set_option maxRecDepth 100000
namespace Lf
namespace Cw
set_option maxHeartbeats 2000000 in
theorem small (n : Nat) (hn : n < 100) : LF Tryz.prog 109 [.k (.int .i64 ((n : Nat) : Int))] (fun _ => sK (Cn.itoa n)) none := by
 have h1 : Cn.digs.length = 36 := by decide
 have h2 : Cn.digs2.length = 200 := by decide
 by_cases h : n < 10
 ·have e : Cn.itoa n = (Cn.digs.drop n).take (n + 1 - n) := if_pos h
  rw [e]
  refine LFx.mk' tt Tryz.func109 rfl rfl rfl (by kernel_rfl) rfl rfl fun F => ?_
  exact wk trueW trueW trueW
 ·have e : Cn.itoa n = (Cn.digs2.drop (n * 2)).take (n * 2 + 2 - n * 2) := if_neg h
  rw [e]
  have hb : n * 2 + 2 ≤ Cn.digs2.length := by omega
  refine LFx.mk' tt Tryz.func109 rfl rfl rfl (by kernel_rfl) rfl rfl fun F => ?_
  exact wk trueW trueW trueW
theorem Itoa (n : Nat) (hn : n < 100) : LF Tryz.prog 89 [.k (.int .i64 ((n : Nat) : Int))] (fun _ => sK (Cn.itoa n)) none := by
 have c1 := small n hn
 have q1 : LF Tryz.prog 104 [.k (.int .i64 ((n : Nat) : Int)), .k (.int .i64 10)] (fun _ => sK (Cn.itoa n)) none := by
  generalize Cn.itoa n = s at *
  refine LFx.mk' tt Tryz.func104 rfl rfl rfl (by kernel_rfl) rfl rfl fun F => ?_
  exact wk trueW trueW trueW
 clear c1
 have c1 := q1
 have q2 : LF Tryz.prog 98 [.k (.int .i64 ((n : Nat) : Int))] (fun _ => sK (Cn.itoa n)) none := by
  generalize Cn.itoa n = s at *
  refine LFx.mk' tt Tryz.func98 rfl rfl rfl (by kernel_rfl) rfl rfl fun F => ?_
  exact wk trueW trueW trueW
 clear c1 q1
 have c1 := q2
 generalize Cn.itoa n = s at *
 refine LFx.mk' tt Tryz.func89 rfl rfl rfl (by kernel_rfl) rfl rfl fun F => ?_
 exact wk trueW trueW trueW
theorem pushed (n : Nat) (hn : n < 256) : LF Tryz.prog 45 [.k (.int .u8 ((n : Nat) : Int))] (fun _ => .k (.int .i64 ((Cn.pushed n : Nat) : Int))) none := by
 by_cases h : 96 ≤ n ∧ n < 128
 ·have e : Cn.pushed n = n - 96 + 1 := (if_pos h).trans (by omega)
  rw [e]
  obtain ⟨a, b⟩ := h
  refine LFx.mk' tt Tryz.func45 rfl rfl rfl (by kernel_rfl) rfl rfl fun F => ?_
  exact wk trueW trueW trueW
 ·have e : Cn.pushed n = 0 := if_neg h
  rw [e]
  by_cases a : n < 96
  ·clear h
   refine LFx.mk' tt Tryz.func45 rfl rfl rfl (by kernel_rfl) rfl rfl fun F => ?_
   exact wk trueW trueW trueW
  ·have b : 128 ≤ n := by omega
   clear h
   refine LFx.mk' tt Tryz.func45 rfl rfl rfl (by kernel_rfl) rfl rfl fun F => ?_
   exact wk trueW trueW trueW
end Cw
end Lf
end Go.Proofs.YtffaobngpbaklaaGreatDoor

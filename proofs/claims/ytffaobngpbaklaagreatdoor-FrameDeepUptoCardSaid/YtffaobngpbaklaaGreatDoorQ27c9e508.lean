/- A part of the proof: texts joined. -/
import Derived.Test.YtffaobngpbaklaaGreatDoorQ2461380d
import Derived.Test.YtffaobngpbaklaaGreatDoorQ2509f104
import Derived.Test.YtffaobngpbaklaaGreatDoorQ2674291f
set_option linter.unusedVariables false
set_option linter.unusedSimpArgs false
namespace Go.Proofs.YtffaobngpbaklaaGreatDoor
open Go.RowKit Rg
set_option linter.unusedVariables false
set_option maxRecDepth 100000
namespace Lf
namespace Cw
set_option maxHeartbeats 8000000 in
theorem Name (n : Nat) (hn : n < 256) : LF Tryz.prog 73 [.k (.int .u8 ((n : Nat) : Int))] (fun _ => sK (Cn.name n)) none := by
 have c1 := pushed n hn
 have c3 := reckoning n hn
 have c4 := other n hn
 by_cases h1 : 96 ≤ n ∧ n < 128
 ·have e : Cn.name n = [112, 117, 115, 104] ++ Cn.itoa (n - 96 + 1) := if_pos h1
  rw [e]
  have e2 : Cn.pushed n = n - 96 + 1 := (if_pos h1).trans (by omega)
  rw [e2] at c1
  obtain ⟨a, b⟩ := h1
  have c2 := Itoa (n - 96 + 1) (by omega)
  have hl := (Cn.itoa_len (n := n - 96 + 1) (by omega)).1
  clear c3 c4 e e2
  have hm : 0 < n - 96 + 1 := by omega
  generalize Cn.itoa (n - 96 + 1) = s at *
  generalize n - 96 + 1 = m at *
  refine LFx.mk' tt Tryz.func73 rfl rfl rfl (by kernel_rfl) rfl rfl fun F => ?_
  exact wk trueW trueW trueW
 have e2 : Cn.pushed n = 0 := if_neg h1
 rw [e2] at c1
 by_cases h2 : 128 ≤ n ∧ n < 144
 ·have e : Cn.name n = [100, 117, 112] ++ Cn.itoa (n - 128 + 1) := (if_neg h1).trans (if_pos h2)
  rw [e]
  obtain ⟨a, b⟩ := h2
  have c2 := Itoa (n - 128 + 1) (by omega)
  have hl := (Cn.itoa_len (n := n - 128 + 1) (by omega)).1
  clear c3 c4 e e2 h1
  generalize Cn.itoa (n - 128 + 1) = s at *
  refine LFx.mk' tt Tryz.func73 rfl rfl rfl (by kernel_rfl) rfl rfl fun F => ?_
  exact wk trueW trueW trueW
 by_cases h3 : 144 ≤ n ∧ n < 160
 ·have e : Cn.name n = [115, 119, 97, 112] ++ Cn.itoa (n - 144 + 1) := (if_neg h1).trans ((if_neg h2).trans (if_pos h3))
  rw [e]
  obtain ⟨a, b⟩ := h3
  have c2 := Itoa (n - 144 + 1) (by omega)
  have hl := (Cn.itoa_len (n := n - 144 + 1) (by omega)).1
  clear c3 c4 e e2 h1 h2
  generalize Cn.itoa (n - 144 + 1) = s at *
  refine LFx.mk' tt Tryz.func73 rfl rfl rfl (by kernel_rfl) rfl rfl fun F => ?_
  exact wk trueW trueW trueW
 by_cases h4 : 160 ≤ n ∧ n ≤ 162
 ·have e : Cn.name n = [108, 111, 103] ++ Cn.itoa (n - 160) := (if_neg h1).trans ((if_neg h2).trans ((if_neg h3).trans (if_pos h4)))
  rw [e]
  obtain ⟨a, b⟩ := h4
  have c2 := Itoa (n - 160) (by omega)
  have hl := (Cn.itoa_len (n := n - 160) (by omega)).1
  clear c3 c4 e e2 h1 h2 h3
  generalize Cn.itoa (n - 160) = s at *
  refine LFx.mk' tt Tryz.func73 rfl rfl rfl (by kernel_rfl) rfl rfl fun F => ?_
  exact wk trueW trueW trueW
 by_cases h5 : n < 32
 ·have e : Cn.name n = Cn.rkN n := (if_neg h1).trans ((if_neg h2).trans ((if_neg h3).trans ((if_neg h4).trans (if_pos h5))))
  rw [e]
  clear c4 e e2 h1 h2 h3 h4
  generalize Cn.rkN n = s at *
  refine LFx.mk' tt Tryz.func73 rfl rfl rfl (by kernel_rfl) rfl rfl fun F => ?_
  exact wk trueW trueW trueW
 have e : Cn.name n = Cn.otN n := (if_neg h1).trans ((if_neg h2).trans ((if_neg h3).trans ((if_neg h4).trans (if_neg h5))))
 rw [e]
 clear c3 e e2
 generalize Cn.otN n = s at *
 by_cases h6 : n < 96
 ·clear h1 h2 h3 h4
  refine LFx.mk' tt Tryz.func73 rfl rfl rfl (by kernel_rfl) rfl rfl fun F => ?_
  exact wk trueW trueW trueW
 ·have h7 : 162 < n := by omega
  clear h1 h2 h3 h4 h6
  refine LFx.mk' tt Tryz.func73 rfl rfl rfl (by kernel_rfl) rfl rfl fun F => ?_
  exact wk trueW trueW trueW
end Cw
end Lf
end Go.Proofs.YtffaobngpbaklaaGreatDoor

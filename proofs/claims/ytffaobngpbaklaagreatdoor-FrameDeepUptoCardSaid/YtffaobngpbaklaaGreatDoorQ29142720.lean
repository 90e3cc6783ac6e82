/- A part of the proof: texts joined. -/
import Derived.Test.YtffaobngpbaklaaGreatDoorQ27c9e508
import Derived.Test.YtffaobngpbaklaaGreatDoorQ28fed3d0
set_option linter.unusedVariables false
set_option linter.unusedSimpArgs false
namespace Go.Proofs.YtffaobngpbaklaaGreatDoor
open Go.RowKit Rg Wm Ar
set_option linter.unusedVariables false
set_option maxRecDepth 100000
namespace Lf
abbrev iN (n : Nat) : V := .k (.int .i64 ((n : Nat) : Int))
namespace Cw
theorem pushedB (b : UInt8) : LF Tryz.prog 45 [bK b] (fun _ => iN (Co.psh b)) none := pushed b.toNat b.toNat_lt
theorem Next (c : List UInt8) (p : Nat) (hp : p < c.length) (hl : c.length < 1000000000) : LF Tryz.prog 24 [.s none (c.map bK), iN p] (fun _ => iN (Co.nxt c p)) none := by
 have c1 := pushedB (c.getD p default)
 have hb := Co.psh_le (c.getD p default)
 have hm : (if (c.length : Int) < ((p + 1 + Co.psh (c.getD p default) : Nat) : Int) then (c.length : Int) else ((p + 1 + Co.psh (c.getD p default) : Nat) : Int)) = ((Co.nxt c p : Nat) : Int) := by
  unfold Co.nxt
  split <;> omega
 generalize Co.psh (c.getD p default) = q at *
 generalize Co.nxt c p = r at *
 refine LFx.mk' tt Tryz.func24 rfl rfl rfl (by kernel_rfl) rfl rfl fun F => ?_
 exact wk trueW trueW trueW
set_option maxHeartbeats 2000000 in
theorem Landings (c : List UInt8) (hl : c.length < 1000000000) : LF Tryz.prog 13 [.s none (c.map bK)] (fun _ => .s none ((Co.lands c).map iN)) none := by
 refine LFx.mk' tt Tryz.func13 rfl rfl rfl (by kernel_rfl) rfl rfl fun F => ?_
 refine wk ?_ trueW trueW
 refine LC.nilrow 3 60 3 1 rfl rfl rfl ?_
 refine LC.loop2 (fun p S => [(0, .s none (c.map bK)), (3, .s (some 60) (S.map iN)), (4, .k (.int .i64 ((p : Nat) : Int)))]) (fun p S => [(60, .r 3 1 S.length)]) (fun p S => p ≤ c.length ∧ S.length ≤ p ∧ Co.lands c = S ++ (Co.plc c p).filter (fun p => c.getD p default == 91)) ((c.length - ·)) (0) ([]) ⟨Nat.zero_le _, Nat.le_refl _, rfl⟩ ⟨rfl, rfl, rfl, trivial⟩ ⟨rfl, trivial⟩ rfl rfW rfW ?_
 rintro p S ⟨hp, hSl, hS⟩
 rcases Nat.lt_or_ge p c.length with h | h
 ·have c1 := Next c p h hl
  have hg := Co.nxt_gt h
  have hle := Co.nxt_le c p
  rw [Co.plc_at h, List.filter_cons] at hS
  by_cases hx : c.getD p default = 91
  ·rw [hx, if_pos (by decide)] at hS
   have hok : Co.nxt c p ≤ c.length ∧ (S ++ [p]).length ≤ Co.nxt c p ∧ Co.lands c = (S ++ [p]) ++ (Co.plc c (Co.nxt c p)).filter (fun p => c.getD p default == 91) := ⟨hle, by rw [List.length_append, List.length_singleton]; omega, by rw [hS, List.append_assoc]; rfl⟩
   have hx2 : ((c.getD p default).toNat : Int) = 91 := by rw [hx]; rfl
   clear hS
   generalize Co.nxt c p = r at *
   exact wk trueW trueW trueW
  ·rw [if_neg (by rw [beq_iff_eq]; exact hx)] at hS
   have hok : Co.nxt c p ≤ c.length ∧ S.length ≤ Co.nxt c p ∧ Co.lands c = S ++ (Co.plc c (Co.nxt c p)).filter (fun p => c.getD p default == 91) := ⟨hle, by omega, hS⟩
   have hx2 : ¬ ((c.getD p default).toNat : Int) = 91 := fun e => hx (UInt8.toNat_inj.1 (by rw [show (91 : UInt8).toNat = 91 from rfl]; omega))
   clear hS
   generalize Co.nxt c p = r at *
   exact wk trueW trueW trueW
 ·rw [Co.plc_end h, List.filter_nil, List.append_nil] at hS
  rw [hS]
  clear hS
  exact wk trueW trueW trueW
end Cw
end Lf
end Go.Proofs.YtffaobngpbaklaaGreatDoor

/- A part of the proof: texts joined. -/
import Derived.Test.YtffaobngpbaklaaGreatDoorQ1026c12c
set_option linter.unusedVariables false
set_option linter.unusedSimpArgs false
namespace Go.Proofs.YtffaobngpbaklaaGreatDoor
open Go.RowKit Rg
set_option linter.unusedVariables false
set_option maxRecDepth 100000
namespace Lf
namespace Cw
theorem reckoning_0 : LF Tryz.prog 90 [.k (.int .u8 ((0 : Nat) : Int))] (fun _ => sK [115, 116, 111, 112]) none := by
 refine LFx.mk' tt Tryz.func90 rfl rfl rfl (by kernel_rfl) rfl rfl fun F => ?_
 exact wk trueW trueW trueW
theorem reckoning_1 : LF Tryz.prog 90 [.k (.int .u8 ((1 : Nat) : Int))] (fun _ => sK [97, 100, 100]) none := by
 refine LFx.mk' tt Tryz.func90 rfl rfl rfl (by kernel_rfl) rfl rfl fun F => ?_
 exact wk trueW trueW trueW
theorem reckoning_2 : LF Tryz.prog 90 [.k (.int .u8 ((2 : Nat) : Int))] (fun _ => sK [109, 117, 108]) none := by
 refine LFx.mk' tt Tryz.func90 rfl rfl rfl (by kernel_rfl) rfl rfl fun F => ?_
 exact wk trueW trueW trueW
theorem reckoning_3 : LF Tryz.prog 90 [.k (.int .u8 ((3 : Nat) : Int))] (fun _ => sK [115, 117, 98]) none := by
 refine LFx.mk' tt Tryz.func90 rfl rfl rfl (by kernel_rfl) rfl rfl fun F => ?_
 exact wk trueW trueW trueW
theorem reckoning_4 : LF Tryz.prog 90 [.k (.int .u8 ((4 : Nat) : Int))] (fun _ => sK [100, 105, 118]) none := by
 refine LFx.mk' tt Tryz.func90 rfl rfl rfl (by kernel_rfl) rfl rfl fun F => ?_
 exact wk trueW trueW trueW
theorem reckoning_5 : LF Tryz.prog 90 [.k (.int .u8 ((5 : Nat) : Int))] (fun _ => sK [115, 100, 105, 118]) none := by
 refine LFx.mk' tt Tryz.func90 rfl rfl rfl (by kernel_rfl) rfl rfl fun F => ?_
 exact wk trueW trueW trueW
theorem reckoning_6 : LF Tryz.prog 90 [.k (.int .u8 ((6 : Nat) : Int))] (fun _ => sK [109, 111, 100]) none := by
 refine LFx.mk' tt Tryz.func90 rfl rfl rfl (by kernel_rfl) rfl rfl fun F => ?_
 exact wk trueW trueW trueW
theorem reckoning_7 : LF Tryz.prog 90 [.k (.int .u8 ((7 : Nat) : Int))] (fun _ => sK [115, 109, 111, 100]) none := by
 refine LFx.mk' tt Tryz.func90 rfl rfl rfl (by kernel_rfl) rfl rfl fun F => ?_
 exact wk trueW trueW trueW
theorem reckoning_8 : LF Tryz.prog 90 [.k (.int .u8 ((8 : Nat) : Int))] (fun _ => sK [97, 100, 100, 109, 111, 100]) none := by
 refine LFx.mk' tt Tryz.func90 rfl rfl rfl (by kernel_rfl) rfl rfl fun F => ?_
 exact wk trueW trueW trueW
theorem reckoning_9 : LF Tryz.prog 90 [.k (.int .u8 ((9 : Nat) : Int))] (fun _ => sK [109, 117, 108, 109, 111, 100]) none := by
 refine LFx.mk' tt Tryz.func90 rfl rfl rfl (by kernel_rfl) rfl rfl fun F => ?_
 exact wk trueW trueW trueW
theorem reckoning_10 : LF Tryz.prog 90 [.k (.int .u8 ((10 : Nat) : Int))] (fun _ => sK [101, 120, 112]) none := by
 refine LFx.mk' tt Tryz.func90 rfl rfl rfl (by kernel_rfl) rfl rfl fun F => ?_
 exact wk trueW trueW trueW
theorem reckoning_11 : LF Tryz.prog 90 [.k (.int .u8 ((11 : Nat) : Int))] (fun _ => sK [101, 120, 116, 101, 110, 100]) none := by
 refine LFx.mk' tt Tryz.func90 rfl rfl rfl (by kernel_rfl) rfl rfl fun F => ?_
 exact wk trueW trueW trueW
theorem reckoning_16 : LF Tryz.prog 90 [.k (.int .u8 ((16 : Nat) : Int))] (fun _ => sK [108, 116]) none := by
 refine LFx.mk' tt Tryz.func90 rfl rfl rfl (by kernel_rfl) rfl rfl fun F => ?_
 exact wk trueW trueW trueW
theorem reckoning_17 : LF Tryz.prog 90 [.k (.int .u8 ((17 : Nat) : Int))] (fun _ => sK [103, 116]) none := by
 refine LFx.mk' tt Tryz.func90 rfl rfl rfl (by kernel_rfl) rfl rfl fun F => ?_
 exact wk trueW trueW trueW
theorem reckoning_18 : LF Tryz.prog 90 [.k (.int .u8 ((18 : Nat) : Int))] (fun _ => sK [115, 108, 116]) none := by
 refine LFx.mk' tt Tryz.func90 rfl rfl rfl (by kernel_rfl) rfl rfl fun F => ?_
 exact wk trueW trueW trueW
theorem reckoning_19 : LF Tryz.prog 90 [.k (.int .u8 ((19 : Nat) : Int))] (fun _ => sK [115, 103, 116]) none := by
 refine LFx.mk' tt Tryz.func90 rfl rfl rfl (by kernel_rfl) rfl rfl fun F => ?_
 exact wk trueW trueW trueW
theorem reckoning_20 : LF Tryz.prog 90 [.k (.int .u8 ((20 : Nat) : Int))] (fun _ => sK [101, 113]) none := by
 refine LFx.mk' tt Tryz.func90 rfl rfl rfl (by kernel_rfl) rfl rfl fun F => ?_
 exact wk trueW trueW trueW
theorem reckoning_21 : LF Tryz.prog 90 [.k (.int .u8 ((21 : Nat) : Int))] (fun _ => sK [122, 101, 114, 111]) none := by
 refine LFx.mk' tt Tryz.func90 rfl rfl rfl (by kernel_rfl) rfl rfl fun F => ?_
 exact wk trueW trueW trueW
theorem reckoning_22 : LF Tryz.prog 90 [.k (.int .u8 ((22 : Nat) : Int))] (fun _ => sK [97, 110, 100]) none := by
 refine LFx.mk' tt Tryz.func90 rfl rfl rfl (by kernel_rfl) rfl rfl fun F => ?_
 exact wk trueW trueW trueW
theorem reckoning_23 : LF Tryz.prog 90 [.k (.int .u8 ((23 : Nat) : Int))] (fun _ => sK [111, 114]) none := by
 refine LFx.mk' tt Tryz.func90 rfl rfl rfl (by kernel_rfl) rfl rfl fun F => ?_
 exact wk trueW trueW trueW
theorem reckoning_24 : LF Tryz.prog 90 [.k (.int .u8 ((24 : Nat) : Int))] (fun _ => sK [120, 111, 114]) none := by
 refine LFx.mk' tt Tryz.func90 rfl rfl rfl (by kernel_rfl) rfl rfl fun F => ?_
 exact wk trueW trueW trueW
theorem reckoning_25 : LF Tryz.prog 90 [.k (.int .u8 ((25 : Nat) : Int))] (fun _ => sK [110, 111, 116]) none := by
 refine LFx.mk' tt Tryz.func90 rfl rfl rfl (by kernel_rfl) rfl rfl fun F => ?_
 exact wk trueW trueW trueW
theorem reckoning_26 : LF Tryz.prog 90 [.k (.int .u8 ((26 : Nat) : Int))] (fun _ => sK [98, 121, 116, 101]) none := by
 refine LFx.mk' tt Tryz.func90 rfl rfl rfl (by kernel_rfl) rfl rfl fun F => ?_
 exact wk trueW trueW trueW
theorem reckoning_27 : LF Tryz.prog 90 [.k (.int .u8 ((27 : Nat) : Int))] (fun _ => sK [115, 104, 108]) none := by
 refine LFx.mk' tt Tryz.func90 rfl rfl rfl (by kernel_rfl) rfl rfl fun F => ?_
 exact wk trueW trueW trueW
theorem reckoning_28 : LF Tryz.prog 90 [.k (.int .u8 ((28 : Nat) : Int))] (fun _ => sK [115, 104, 114]) none := by
 refine LFx.mk' tt Tryz.func90 rfl rfl rfl (by kernel_rfl) rfl rfl fun F => ?_
 exact wk trueW trueW trueW
theorem reckoning_29 : LF Tryz.prog 90 [.k (.int .u8 ((29 : Nat) : Int))] (fun _ => sK [115, 97, 114]) none := by
 refine LFx.mk' tt Tryz.func90 rfl rfl rfl (by kernel_rfl) rfl rfl fun F => ?_
 exact wk trueW trueW trueW
set_option maxHeartbeats 8000000 in
theorem reckoning (n : Nat) (hn : n < 256) : LF Tryz.prog 90 [.k (.int .u8 ((n : Nat) : Int))] (fun _ => sK (Cn.rkN n)) none := by
 by_cases h0 : n = 0
 ·subst h0; exact reckoning_0
 by_cases h1 : n = 1
 ·subst h1; exact reckoning_1
 by_cases h2 : n = 2
 ·subst h2; exact reckoning_2
 by_cases h3 : n = 3
 ·subst h3; exact reckoning_3
 by_cases h4 : n = 4
 ·subst h4; exact reckoning_4
 by_cases h5 : n = 5
 ·subst h5; exact reckoning_5
 by_cases h6 : n = 6
 ·subst h6; exact reckoning_6
 by_cases h7 : n = 7
 ·subst h7; exact reckoning_7
 by_cases h8 : n = 8
 ·subst h8; exact reckoning_8
 by_cases h9 : n = 9
 ·subst h9; exact reckoning_9
 by_cases h10 : n = 10
 ·subst h10; exact reckoning_10
 by_cases h11 : n = 11
 ·subst h11; exact reckoning_11
 by_cases h16 : n = 16
 ·subst h16; exact reckoning_16
 by_cases h17 : n = 17
 ·subst h17; exact reckoning_17
 by_cases h18 : n = 18
 ·subst h18; exact reckoning_18
 by_cases h19 : n = 19
 ·subst h19; exact reckoning_19
 by_cases h20 : n = 20
 ·subst h20; exact reckoning_20
 by_cases h21 : n = 21
 ·subst h21; exact reckoning_21
 by_cases h22 : n = 22
 ·subst h22; exact reckoning_22
 by_cases h23 : n = 23
 ·subst h23; exact reckoning_23
 by_cases h24 : n = 24
 ·subst h24; exact reckoning_24
 by_cases h25 : n = 25
 ·subst h25; exact reckoning_25
 by_cases h26 : n = 26
 ·subst h26; exact reckoning_26
 by_cases h27 : n = 27
 ·subst h27; exact reckoning_27
 by_cases h28 : n = 28
 ·subst h28; exact reckoning_28
 by_cases h29 : n = 29
 ·subst h29; exact reckoning_29
 have e : Cn.rkN n = [] := by unfold Cn.rkN; rw [if_neg h0, if_neg h1, if_neg h2, if_neg h3, if_neg h4, if_neg h5, if_neg h6, if_neg h7, if_neg h8, if_neg h9, if_neg h10, if_neg h11, if_neg h16, if_neg h17, if_neg h18, if_neg h19, if_neg h20, if_neg h21, if_neg h22, if_neg h23, if_neg h24, if_neg h25, if_neg h26, if_neg h27, if_neg h28, if_neg h29]
 rw [e]
 have k0 : NE (n : Int) 0 := fun e => h0 (by omega)
 have k1 : NE (n : Int) 1 := fun e => h1 (by omega)
 have k2 : NE (n : Int) 2 := fun e => h2 (by omega)
 have k3 : NE (n : Int) 3 := fun e => h3 (by omega)
 have k4 : NE (n : Int) 4 := fun e => h4 (by omega)
 have k5 : NE (n : Int) 5 := fun e => h5 (by omega)
 have k6 : NE (n : Int) 6 := fun e => h6 (by omega)
 have k7 : NE (n : Int) 7 := fun e => h7 (by omega)
 have k8 : NE (n : Int) 8 := fun e => h8 (by omega)
 have k9 : NE (n : Int) 9 := fun e => h9 (by omega)
 have k10 : NE (n : Int) 10 := fun e => h10 (by omega)
 have k11 : NE (n : Int) 11 := fun e => h11 (by omega)
 have k16 : NE (n : Int) 16 := fun e => h16 (by omega)
 have k17 : NE (n : Int) 17 := fun e => h17 (by omega)
 have k18 : NE (n : Int) 18 := fun e => h18 (by omega)
 have k19 : NE (n : Int) 19 := fun e => h19 (by omega)
 have k20 : NE (n : Int) 20 := fun e => h20 (by omega)
 have k21 : NE (n : Int) 21 := fun e => h21 (by omega)
 have k22 : NE (n : Int) 22 := fun e => h22 (by omega)
 have k23 : NE (n : Int) 23 := fun e => h23 (by omega)
 have k24 : NE (n : Int) 24 := fun e => h24 (by omega)
 have k25 : NE (n : Int) 25 := fun e => h25 (by omega)
 have k26 : NE (n : Int) 26 := fun e => h26 (by omega)
 have k27 : NE (n : Int) 27 := fun e => h27 (by omega)
 have k28 : NE (n : Int) 28 := fun e => h28 (by omega)
 have k29 : NE (n : Int) 29 := fun e => h29 (by omega)
 clear h0 h1 h2 h3 h4 h5 h6 h7 h8 h9 h10 h11 h16 h17 h18 h19 h20 h21 h22 h23 h24 h25 h26 h27 h28 h29 e
 refine LFx.mk' tt Tryz.func90 rfl rfl rfl (by kernel_rfl) rfl rfl fun F => ?_
 exact wk trueW trueW trueW
end Cw
end Lf
end Go.Proofs.YtffaobngpbaklaaGreatDoor

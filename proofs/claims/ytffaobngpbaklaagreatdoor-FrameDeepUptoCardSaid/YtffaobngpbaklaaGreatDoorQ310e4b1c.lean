/- A part of the proof: texts joined. -/
import Derived.Test.YtffaobngpbaklaaGreatDoorQ303fbd78
set_option linter.unusedVariables false
set_option linter.unusedSimpArgs false
namespace Go.Proofs.YtffaobngpbaklaaGreatDoor
open Go.RowKit Rg
set_option linter.unusedVariables false
set_option maxRecDepth 100000
namespace Lf
namespace Prw
theorem Op_86 : LF Tryz.prog 21 [.k (.int .u8 ((86 : Nat) : Int))] (fun _ => uK 8) none := by
 refine LFx.mk' tt Tryz.func21 rfl rfl rfl (by kernel_rfl) rfl rfl fun F => ?_
 exact wk trueW trueW trueW
theorem Op_87 : LF Tryz.prog 21 [.k (.int .u8 ((87 : Nat) : Int))] (fun _ => uK 10) none := by
 refine LFx.mk' tt Tryz.func21 rfl rfl rfl (by kernel_rfl) rfl rfl fun F => ?_
 exact wk trueW trueW trueW
theorem Op_10 : LF Tryz.prog 21 [.k (.int .u8 ((10 : Nat) : Int))] (fun _ => uK 10) none := by
 refine LFx.mk' tt Tryz.func21 rfl rfl rfl (by kernel_rfl) rfl rfl fun F => ?_
 exact wk trueW trueW trueW
theorem Op_32 : LF Tryz.prog 21 [.k (.int .u8 ((32 : Nat) : Int))] (fun _ => uK 30) none := by
 refine LFx.mk' tt Tryz.func21 rfl rfl rfl (by kernel_rfl) rfl rfl fun F => ?_
 exact wk trueW trueW trueW
theorem Op_84 : LF Tryz.prog 21 [.k (.int .u8 ((84 : Nat) : Int))] (fun _ => uK 50) none := by
 refine LFx.mk' tt Tryz.func21 rfl rfl rfl (by kernel_rfl) rfl rfl fun F => ?_
 exact wk trueW trueW trueW
theorem Op_49 : LF Tryz.prog 21 [.k (.int .u8 ((49 : Nat) : Int))] (fun _ => uK 100) none := by
 refine LFx.mk' tt Tryz.func21 rfl rfl rfl (by kernel_rfl) rfl rfl fun F => ?_
 exact wk trueW trueW trueW
theorem Op_85 : LF Tryz.prog 21 [.k (.int .u8 ((85 : Nat) : Int))] (fun _ => uK 100) none := by
 refine LFx.mk' tt Tryz.func21 rfl rfl rfl (by kernel_rfl) rfl rfl fun F => ?_
 exact wk trueW trueW trueW
theorem Op_241 : LF Tryz.prog 21 [.k (.int .u8 ((241 : Nat) : Int))] (fun _ => uK 200) none := by
 refine LFx.mk' tt Tryz.func21 rfl rfl rfl (by kernel_rfl) rfl rfl fun F => ?_
 exact wk trueW trueW trueW
theorem Op_243 : LF Tryz.prog 21 [.k (.int .u8 ((243 : Nat) : Int))] (fun _ => uK 200) none := by
 refine LFx.mk' tt Tryz.func21 rfl rfl rfl (by kernel_rfl) rfl rfl fun F => ?_
 exact wk trueW trueW trueW
theorem Op_244 : LF Tryz.prog 21 [.k (.int .u8 ((244 : Nat) : Int))] (fun _ => uK 200) none := by
 refine LFx.mk' tt Tryz.func21 rfl rfl rfl (by kernel_rfl) rfl rfl fun F => ?_
 exact wk trueW trueW trueW
theorem Op_240 : LF Tryz.prog 21 [.k (.int .u8 ((240 : Nat) : Int))] (fun _ => uK 500) none := by
 refine LFx.mk' tt Tryz.func21 rfl rfl rfl (by kernel_rfl) rfl rfl fun F => ?_
 exact wk trueW trueW trueW
set_option maxHeartbeats 8000000 in
theorem Op (n : Nat) (hn : n < 256) : LF Tryz.prog 21 [.k (.int .u8 ((n : Nat) : Int))] (fun _ => uK (Pr.opN n)) none := by
 have c1 := ranges n hn
 by_cases h0 : n = 0
 ·subst h0; exact Op_0
 by_cases h242 : n = 242
 ·subst h242; exact Op_242
 by_cases h253 : n = 253
 ·subst h253; exact Op_253
 by_cases h91 : n = 91
 ·subst h91; exact Op_91
 by_cases h80 : n = 80
 ·subst h80; exact Op_80
 by_cases h88 : n = 88
 ·subst h88; exact Op_88
 by_cases h89 : n = 89
 ·subst h89; exact Op_89
 by_cases h90 : n = 90
 ·subst h90; exact Op_90
 by_cases h48 : n = 48
 ·subst h48; exact Op_48
 by_cases h50 : n = 50
 ·subst h50; exact Op_50
 by_cases h51 : n = 51
 ·subst h51; exact Op_51
 by_cases h53 : n = 53
 ·subst h53; exact Op_53
 by_cases h55 : n = 55
 ·subst h55; exact Op_55
 by_cases h56 : n = 56
 ·subst h56; exact Op_56
 by_cases h64 : n = 64
 ·subst h64; exact Op_64
 by_cases h65 : n = 65
 ·subst h65; exact Op_65
 by_cases h66 : n = 66
 ·subst h66; exact Op_66
 by_cases h2 : n = 2
 ·subst h2; exact Op_2
 by_cases h4 : n = 4
 ·subst h4; exact Op_4
 by_cases h5 : n = 5
 ·subst h5; exact Op_5
 by_cases h6 : n = 6
 ·subst h6; exact Op_6
 by_cases h7 : n = 7
 ·subst h7; exact Op_7
 by_cases h11 : n = 11
 ·subst h11; exact Op_11
 by_cases h8 : n = 8
 ·subst h8; exact Op_8
 by_cases h9 : n = 9
 ·subst h9; exact Op_9
 by_cases h86 : n = 86
 ·subst h86; exact Op_86
 by_cases h87 : n = 87
 ·subst h87; exact Op_87
 by_cases h10 : n = 10
 ·subst h10; exact Op_10
 by_cases h32 : n = 32
 ·subst h32; exact Op_32
 by_cases h84 : n = 84
 ·subst h84; exact Op_84
 by_cases h49 : n = 49
 ·subst h49; exact Op_49
 by_cases h85 : n = 85
 ·subst h85; exact Op_85
 by_cases h241 : n = 241
 ·subst h241; exact Op_241
 by_cases h243 : n = 243
 ·subst h243; exact Op_243
 by_cases h244 : n = 244
 ·subst h244; exact Op_244
 by_cases h240 : n = 240
 ·subst h240; exact Op_240
 have e : Pr.opN n = Pr.rangesN n := by unfold Pr.opN; rw [if_neg h0, if_neg h242, if_neg h253, if_neg h91, if_neg h80, if_neg h88, if_neg h89, if_neg h90, if_neg h48, if_neg h50, if_neg h51, if_neg h53, if_neg h55, if_neg h56, if_neg h64, if_neg h65, if_neg h66, if_neg h2, if_neg h4, if_neg h5, if_neg h6, if_neg h7, if_neg h11, if_neg h8, if_neg h9, if_neg h86, if_neg h87, if_neg h10, if_neg h32, if_neg h84, if_neg h49, if_neg h85, if_neg h241, if_neg h243, if_neg h244, if_neg h240]
 rw [e]
 have k0 : NE (n : Int) 0 := fun e => h0 (by omega)
 have k242 : NE (n : Int) 242 := fun e => h242 (by omega)
 have k253 : NE (n : Int) 253 := fun e => h253 (by omega)
 have k91 : NE (n : Int) 91 := fun e => h91 (by omega)
 have k80 : NE (n : Int) 80 := fun e => h80 (by omega)
 have k88 : NE (n : Int) 88 := fun e => h88 (by omega)
 have k89 : NE (n : Int) 89 := fun e => h89 (by omega)
 have k90 : NE (n : Int) 90 := fun e => h90 (by omega)
 have k48 : NE (n : Int) 48 := fun e => h48 (by omega)
 have k50 : NE (n : Int) 50 := fun e => h50 (by omega)
 have k51 : NE (n : Int) 51 := fun e => h51 (by omega)
 have k53 : NE (n : Int) 53 := fun e => h53 (by omega)
 have k55 : NE (n : Int) 55 := fun e => h55 (by omega)
 have k56 : NE (n : Int) 56 := fun e => h56 (by omega)
 have k64 : NE (n : Int) 64 := fun e => h64 (by omega)
 have k65 : NE (n : Int) 65 := fun e => h65 (by omega)
 have k66 : NE (n : Int) 66 := fun e => h66 (by omega)
 have k2 : NE (n : Int) 2 := fun e => h2 (by omega)
 have k4 : NE (n : Int) 4 := fun e => h4 (by omega)
 have k5 : NE (n : Int) 5 := fun e => h5 (by omega)
 have k6 : NE (n : Int) 6 := fun e => h6 (by omega)
 have k7 : NE (n : Int) 7 := fun e => h7 (by omega)
 have k11 : NE (n : Int) 11 := fun e => h11 (by omega)
 have k8 : NE (n : Int) 8 := fun e => h8 (by omega)
 have k9 : NE (n : Int) 9 := fun e => h9 (by omega)
 have k86 : NE (n : Int) 86 := fun e => h86 (by omega)
 have k87 : NE (n : Int) 87 := fun e => h87 (by omega)
 have k10 : NE (n : Int) 10 := fun e => h10 (by omega)
 have k32 : NE (n : Int) 32 := fun e => h32 (by omega)
 have k84 : NE (n : Int) 84 := fun e => h84 (by omega)
 have k49 : NE (n : Int) 49 := fun e => h49 (by omega)
 have k85 : NE (n : Int) 85 := fun e => h85 (by omega)
 have k241 : NE (n : Int) 241 := fun e => h241 (by omega)
 have k243 : NE (n : Int) 243 := fun e => h243 (by omega)
 have k244 : NE (n : Int) 244 := fun e => h244 (by omega)
 have k240 : NE (n : Int) 240 := fun e => h240 (by omega)
 clear h0 h242 h253 h91 h80 h88 h89 h90 h48 h50 h51 h53 h55 h56 h64 h65 h66 h2 h4 h5 h6 h7 h11 h8 h9 h86 h87 h10 h32 h84 h49 h85 h241 h243 h244 h240 e
 generalize Pr.rangesN n = r at *
 refine LFx.mk' tt Tryz.func21 rfl rfl rfl (by kernel_rfl) rfl rfl fun F => ?_
 exact wk trueW trueW trueW
end Prw
end Lf
end Go.Proofs.YtffaobngpbaklaaGreatDoor

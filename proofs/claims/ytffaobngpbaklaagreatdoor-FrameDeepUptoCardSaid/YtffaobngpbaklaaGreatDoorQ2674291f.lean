/- A part of the proof: texts joined. -/
import Derived.Test.YtffaobngpbaklaaGreatDoorQ1026c12c
set_option linter.unusedVariables false
set_option linter.unusedSimpArgs false
namespace Go.Proofs.YtffaobngpbaklaaGreatDoor
open Go.RowKit Rg
set_option linter.unusedVariables false
set_option maxRecDepth 100000
namespace Lf
namespace Cw
theorem other_32 : LF Tryz.prog 91 [.k (.int .u8 ((32 : Nat) : Int))] (fun _ => sK [115, 117, 109]) none := by
 refine LFx.mk' tt Tryz.func91 rfl rfl rfl (by kernel_rfl) rfl rfl fun F => ?_
 exact wk trueW trueW trueW
theorem other_48 : LF Tryz.prog 91 [.k (.int .u8 ((48 : Nat) : Int))] (fun _ => sK [115, 101, 108, 102]) none := by
 refine LFx.mk' tt Tryz.func91 rfl rfl rfl (by kernel_rfl) rfl rfl fun F => ?_
 exact wk trueW trueW trueW
theorem other_49 : LF Tryz.prog 91 [.k (.int .u8 ((49 : Nat) : Int))] (fun _ => sK [109, 111, 110, 101, 121]) none := by
 refine LFx.mk' tt Tryz.func91 rfl rfl rfl (by kernel_rfl) rfl rfl fun F => ?_
 exact wk trueW trueW trueW
theorem other_50 : LF Tryz.prog 91 [.k (.int .u8 ((50 : Nat) : Int))] (fun _ => sK [99, 97, 108, 108, 101, 114]) none := by
 refine LFx.mk' tt Tryz.func91 rfl rfl rfl (by kernel_rfl) rfl rfl fun F => ?_
 exact wk trueW trueW trueW
theorem other_51 : LF Tryz.prog 91 [.k (.int .u8 ((51 : Nat) : Int))] (fun _ => sK [118, 97, 108, 117, 101]) none := by
 refine LFx.mk' tt Tryz.func91 rfl rfl rfl (by kernel_rfl) rfl rfl fun F => ?_
 exact wk trueW trueW trueW
theorem other_52 : LF Tryz.prog 91 [.k (.int .u8 ((52 : Nat) : Int))] (fun _ => sK [105, 110, 119, 111, 114, 100]) none := by
 refine LFx.mk' tt Tryz.func91 rfl rfl rfl (by kernel_rfl) rfl rfl fun F => ?_
 exact wk trueW trueW trueW
theorem other_53 : LF Tryz.prog 91 [.k (.int .u8 ((53 : Nat) : Int))] (fun _ => sK [105, 110, 115, 105, 122, 101]) none := by
 refine LFx.mk' tt Tryz.func91 rfl rfl rfl (by kernel_rfl) rfl rfl fun F => ?_
 exact wk trueW trueW trueW
theorem other_54 : LF Tryz.prog 91 [.k (.int .u8 ((54 : Nat) : Int))] (fun _ => sK [105, 110, 99, 111, 112, 121]) none := by
 refine LFx.mk' tt Tryz.func91 rfl rfl rfl (by kernel_rfl) rfl rfl fun F => ?_
 exact wk trueW trueW trueW
theorem other_55 : LF Tryz.prog 91 [.k (.int .u8 ((55 : Nat) : Int))] (fun _ => sK [99, 111, 100, 101, 115, 105, 122, 101]) none := by
 refine LFx.mk' tt Tryz.func91 rfl rfl rfl (by kernel_rfl) rfl rfl fun F => ?_
 exact wk trueW trueW trueW
theorem other_56 : LF Tryz.prog 91 [.k (.int .u8 ((56 : Nat) : Int))] (fun _ => sK [98, 97, 99, 107, 115, 105, 122, 101]) none := by
 refine LFx.mk' tt Tryz.func91 rfl rfl rfl (by kernel_rfl) rfl rfl fun F => ?_
 exact wk trueW trueW trueW
theorem other_57 : LF Tryz.prog 91 [.k (.int .u8 ((57 : Nat) : Int))] (fun _ => sK [98, 97, 99, 107, 99, 111, 112, 121]) none := by
 refine LFx.mk' tt Tryz.func91 rfl rfl rfl (by kernel_rfl) rfl rfl fun F => ?_
 exact wk trueW trueW trueW
theorem other_64 : LF Tryz.prog 91 [.k (.int .u8 ((64 : Nat) : Int))] (fun _ => sK [116, 105, 109, 101]) none := by
 refine LFx.mk' tt Tryz.func91 rfl rfl rfl (by kernel_rfl) rfl rfl fun F => ?_
 exact wk trueW trueW trueW
theorem other_65 : LF Tryz.prog 91 [.k (.int .u8 ((65 : Nat) : Int))] (fun _ => sK [110, 117, 109, 98, 101, 114]) none := by
 refine LFx.mk' tt Tryz.func91 rfl rfl rfl (by kernel_rfl) rfl rfl fun F => ?_
 exact wk trueW trueW trueW
theorem other_66 : LF Tryz.prog 91 [.k (.int .u8 ((66 : Nat) : Int))] (fun _ => sK [107, 101, 101, 112, 101, 114]) none := by
 refine LFx.mk' tt Tryz.func91 rfl rfl rfl (by kernel_rfl) rfl rfl fun F => ?_
 exact wk trueW trueW trueW
theorem other_80 : LF Tryz.prog 91 [.k (.int .u8 ((80 : Nat) : Int))] (fun _ => sK [112, 111, 112]) none := by
 refine LFx.mk' tt Tryz.func91 rfl rfl rfl (by kernel_rfl) rfl rfl fun F => ?_
 exact wk trueW trueW trueW
theorem other_81 : LF Tryz.prog 91 [.k (.int .u8 ((81 : Nat) : Int))] (fun _ => sK [108, 111, 97, 100]) none := by
 refine LFx.mk' tt Tryz.func91 rfl rfl rfl (by kernel_rfl) rfl rfl fun F => ?_
 exact wk trueW trueW trueW
theorem other_82 : LF Tryz.prog 91 [.k (.int .u8 ((82 : Nat) : Int))] (fun _ => sK [115, 116, 111, 114, 101]) none := by
 refine LFx.mk' tt Tryz.func91 rfl rfl rfl (by kernel_rfl) rfl rfl fun F => ?_
 exact wk trueW trueW trueW
theorem other_83 : LF Tryz.prog 91 [.k (.int .u8 ((83 : Nat) : Int))] (fun _ => sK [115, 116, 111, 114, 101, 56]) none := by
 refine LFx.mk' tt Tryz.func91 rfl rfl rfl (by kernel_rfl) rfl rfl fun F => ?_
 exact wk trueW trueW trueW
theorem other_84 : LF Tryz.prog 91 [.k (.int .u8 ((84 : Nat) : Int))] (fun _ => sK [115, 108, 111, 116]) none := by
 refine LFx.mk' tt Tryz.func91 rfl rfl rfl (by kernel_rfl) rfl rfl fun F => ?_
 exact wk trueW trueW trueW
theorem other_85 : LF Tryz.prog 91 [.k (.int .u8 ((85 : Nat) : Int))] (fun _ => sK [107, 101, 101, 112]) none := by
 refine LFx.mk' tt Tryz.func91 rfl rfl rfl (by kernel_rfl) rfl rfl fun F => ?_
 exact wk trueW trueW trueW
theorem other_86 : LF Tryz.prog 91 [.k (.int .u8 ((86 : Nat) : Int))] (fun _ => sK [106, 117, 109, 112]) none := by
 refine LFx.mk' tt Tryz.func91 rfl rfl rfl (by kernel_rfl) rfl rfl fun F => ?_
 exact wk trueW trueW trueW
theorem other_87 : LF Tryz.prog 91 [.k (.int .u8 ((87 : Nat) : Int))] (fun _ => sK [98, 114, 97, 110, 99, 104]) none := by
 refine LFx.mk' tt Tryz.func91 rfl rfl rfl (by kernel_rfl) rfl rfl fun F => ?_
 exact wk trueW trueW trueW
theorem other_88 : LF Tryz.prog 91 [.k (.int .u8 ((88 : Nat) : Int))] (fun _ => sK [112, 99]) none := by
 refine LFx.mk' tt Tryz.func91 rfl rfl rfl (by kernel_rfl) rfl rfl fun F => ?_
 exact wk trueW trueW trueW
theorem other_89 : LF Tryz.prog 91 [.k (.int .u8 ((89 : Nat) : Int))] (fun _ => sK [115, 105, 122, 101]) none := by
 refine LFx.mk' tt Tryz.func91 rfl rfl rfl (by kernel_rfl) rfl rfl fun F => ?_
 exact wk trueW trueW trueW
theorem other_90 : LF Tryz.prog 91 [.k (.int .u8 ((90 : Nat) : Int))] (fun _ => sK [103, 97, 115]) none := by
 refine LFx.mk' tt Tryz.func91 rfl rfl rfl (by kernel_rfl) rfl rfl fun F => ?_
 exact wk trueW trueW trueW
theorem other_91 : LF Tryz.prog 91 [.k (.int .u8 ((91 : Nat) : Int))] (fun _ => sK [108, 97, 110, 100]) none := by
 refine LFx.mk' tt Tryz.func91 rfl rfl rfl (by kernel_rfl) rfl rfl fun F => ?_
 exact wk trueW trueW trueW
theorem other_240 : LF Tryz.prog 91 [.k (.int .u8 ((240 : Nat) : Int))] (fun _ => sK [109, 97, 107, 101]) none := by
 refine LFx.mk' tt Tryz.func91 rfl rfl rfl (by kernel_rfl) rfl rfl fun F => ?_
 exact wk trueW trueW trueW
theorem other_241 : LF Tryz.prog 91 [.k (.int .u8 ((241 : Nat) : Int))] (fun _ => sK [99, 97, 108, 108]) none := by
 refine LFx.mk' tt Tryz.func91 rfl rfl rfl (by kernel_rfl) rfl rfl fun F => ?_
 exact wk trueW trueW trueW
theorem other_242 : LF Tryz.prog 91 [.k (.int .u8 ((242 : Nat) : Int))] (fun _ => sK [114, 101, 116, 117, 114, 110]) none := by
 refine LFx.mk' tt Tryz.func91 rfl rfl rfl (by kernel_rfl) rfl rfl fun F => ?_
 exact wk trueW trueW trueW
theorem other_243 : LF Tryz.prog 91 [.k (.int .u8 ((243 : Nat) : Int))] (fun _ => sK [108, 111, 111, 107]) none := by
 refine LFx.mk' tt Tryz.func91 rfl rfl rfl (by kernel_rfl) rfl rfl fun F => ?_
 exact wk trueW trueW trueW
theorem other_244 : LF Tryz.prog 91 [.k (.int .u8 ((244 : Nat) : Int))] (fun _ => sK [108, 101, 110, 100]) none := by
 refine LFx.mk' tt Tryz.func91 rfl rfl rfl (by kernel_rfl) rfl rfl fun F => ?_
 exact wk trueW trueW trueW
theorem other_253 : LF Tryz.prog 91 [.k (.int .u8 ((253 : Nat) : Int))] (fun _ => sK [114, 101, 118, 101, 114, 116]) none := by
 refine LFx.mk' tt Tryz.func91 rfl rfl rfl (by kernel_rfl) rfl rfl fun F => ?_
 exact wk trueW trueW trueW
set_option maxHeartbeats 8000000 in
theorem other (n : Nat) (hn : n < 256) : LF Tryz.prog 91 [.k (.int .u8 ((n : Nat) : Int))] (fun _ => sK (Cn.otN n)) none := by
 by_cases h32 : n = 32
 ·subst h32; exact other_32
 by_cases h48 : n = 48
 ·subst h48; exact other_48
 by_cases h49 : n = 49
 ·subst h49; exact other_49
 by_cases h50 : n = 50
 ·subst h50; exact other_50
 by_cases h51 : n = 51
 ·subst h51; exact other_51
 by_cases h52 : n = 52
 ·subst h52; exact other_52
 by_cases h53 : n = 53
 ·subst h53; exact other_53
 by_cases h54 : n = 54
 ·subst h54; exact other_54
 by_cases h55 : n = 55
 ·subst h55; exact other_55
 by_cases h56 : n = 56
 ·subst h56; exact other_56
 by_cases h57 : n = 57
 ·subst h57; exact other_57
 by_cases h64 : n = 64
 ·subst h64; exact other_64
 by_cases h65 : n = 65
 ·subst h65; exact other_65
 by_cases h66 : n = 66
 ·subst h66; exact other_66
 by_cases h80 : n = 80
 ·subst h80; exact other_80
 by_cases h81 : n = 81
 ·subst h81; exact other_81
 by_cases h82 : n = 82
 ·subst h82; exact other_82
 by_cases h83 : n = 83
 ·subst h83; exact other_83
 by_cases h84 : n = 84
 ·subst h84; exact other_84
 by_cases h85 : n = 85
 ·subst h85; exact other_85
 by_cases h86 : n = 86
 ·subst h86; exact other_86
 by_cases h87 : n = 87
 ·subst h87; exact other_87
 by_cases h88 : n = 88
 ·subst h88; exact other_88
 by_cases h89 : n = 89
 ·subst h89; exact other_89
 by_cases h90 : n = 90
 ·subst h90; exact other_90
 by_cases h91 : n = 91
 ·subst h91; exact other_91
 by_cases h240 : n = 240
 ·subst h240; exact other_240
 by_cases h241 : n = 241
 ·subst h241; exact other_241
 by_cases h242 : n = 242
 ·subst h242; exact other_242
 by_cases h243 : n = 243
 ·subst h243; exact other_243
 by_cases h244 : n = 244
 ·subst h244; exact other_244
 by_cases h253 : n = 253
 ·subst h253; exact other_253
 have e : Cn.otN n = [] := by unfold Cn.otN; rw [if_neg h32, if_neg h48, if_neg h49, if_neg h50, if_neg h51, if_neg h52, if_neg h53, if_neg h54, if_neg h55, if_neg h56, if_neg h57, if_neg h64, if_neg h65, if_neg h66, if_neg h80, if_neg h81, if_neg h82, if_neg h83, if_neg h84, if_neg h85, if_neg h86, if_neg h87, if_neg h88, if_neg h89, if_neg h90, if_neg h91, if_neg h240, if_neg h241, if_neg h242, if_neg h243, if_neg h244, if_neg h253]
 rw [e]
 have k32 : NE (n : Int) 32 := fun e => h32 (by omega)
 have k48 : NE (n : Int) 48 := fun e => h48 (by omega)
 have k49 : NE (n : Int) 49 := fun e => h49 (by omega)
 have k50 : NE (n : Int) 50 := fun e => h50 (by omega)
 have k51 : NE (n : Int) 51 := fun e => h51 (by omega)
 have k52 : NE (n : Int) 52 := fun e => h52 (by omega)
 have k53 : NE (n : Int) 53 := fun e => h53 (by omega)
 have k54 : NE (n : Int) 54 := fun e => h54 (by omega)
 have k55 : NE (n : Int) 55 := fun e => h55 (by omega)
 have k56 : NE (n : Int) 56 := fun e => h56 (by omega)
 have k57 : NE (n : Int) 57 := fun e => h57 (by omega)
 have k64 : NE (n : Int) 64 := fun e => h64 (by omega)
 have k65 : NE (n : Int) 65 := fun e => h65 (by omega)
 have k66 : NE (n : Int) 66 := fun e => h66 (by omega)
 have k80 : NE (n : Int) 80 := fun e => h80 (by omega)
 have k81 : NE (n : Int) 81 := fun e => h81 (by omega)
 have k82 : NE (n : Int) 82 := fun e => h82 (by omega)
 have k83 : NE (n : Int) 83 := fun e => h83 (by omega)
 have k84 : NE (n : Int) 84 := fun e => h84 (by omega)
 have k85 : NE (n : Int) 85 := fun e => h85 (by omega)
 have k86 : NE (n : Int) 86 := fun e => h86 (by omega)
 have k87 : NE (n : Int) 87 := fun e => h87 (by omega)
 have k88 : NE (n : Int) 88 := fun e => h88 (by omega)
 have k89 : NE (n : Int) 89 := fun e => h89 (by omega)
 have k90 : NE (n : Int) 90 := fun e => h90 (by omega)
 have k91 : NE (n : Int) 91 := fun e => h91 (by omega)
 have k240 : NE (n : Int) 240 := fun e => h240 (by omega)
 have k241 : NE (n : Int) 241 := fun e => h241 (by omega)
 have k242 : NE (n : Int) 242 := fun e => h242 (by omega)
 have k243 : NE (n : Int) 243 := fun e => h243 (by omega)
 have k244 : NE (n : Int) 244 := fun e => h244 (by omega)
 have k253 : NE (n : Int) 253 := fun e => h253 (by omega)
 clear h32 h48 h49 h50 h51 h52 h53 h54 h55 h56 h57 h64 h65 h66 h80 h81 h82 h83 h84 h85 h86 h87 h88 h89 h90 h91 h240 h241 h242 h243 h244 h253 e
 refine LFx.mk' tt Tryz.func91 rfl rfl rfl (by kernel_rfl) rfl rfl fun F => ?_
 exact wk trueW trueW trueW
end Cw
end Lf
end Go.Proofs.YtffaobngpbaklaaGreatDoor

/- A part of the proof: texts joined. -/
import Derived.Test.YtffaobngpbaklaaGreatDoorQ113cc649
set_option linter.unusedVariables false
set_option linter.unusedSimpArgs false
namespace Go.Proofs.YtffaobngpbaklaaGreatDoor
open Go.RowKit Rg
set_option linter.unusedVariables false
set_option maxRecDepth 100000
namespace Lf
namespace Prw
theorem Op_0 : LF Tryz.prog 21 [.k (.int .u8 ((0 : Nat) : Int))] (fun _ => uK 0) none := by
 refine LFx.mk' tt Tryz.func21 rfl rfl rfl (by kernel_rfl) rfl rfl fun F => ?_
 exact wk trueW trueW trueW
theorem Op_242 : LF Tryz.prog 21 [.k (.int .u8 ((242 : Nat) : Int))] (fun _ => uK 0) none := by
 refine LFx.mk' tt Tryz.func21 rfl rfl rfl (by kernel_rfl) rfl rfl fun F => ?_
 exact wk trueW trueW trueW
theorem Op_253 : LF Tryz.prog 21 [.k (.int .u8 ((253 : Nat) : Int))] (fun _ => uK 0) none := by
 refine LFx.mk' tt Tryz.func21 rfl rfl rfl (by kernel_rfl) rfl rfl fun F => ?_
 exact wk trueW trueW trueW
theorem Op_91 : LF Tryz.prog 21 [.k (.int .u8 ((91 : Nat) : Int))] (fun _ => uK 1) none := by
 refine LFx.mk' tt Tryz.func21 rfl rfl rfl (by kernel_rfl) rfl rfl fun F => ?_
 exact wk trueW trueW trueW
theorem Op_80 : LF Tryz.prog 21 [.k (.int .u8 ((80 : Nat) : Int))] (fun _ => uK 2) none := by
 refine LFx.mk' tt Tryz.func21 rfl rfl rfl (by kernel_rfl) rfl rfl fun F => ?_
 exact wk trueW trueW trueW
theorem Op_88 : LF Tryz.prog 21 [.k (.int .u8 ((88 : Nat) : Int))] (fun _ => uK 2) none := by
 refine LFx.mk' tt Tryz.func21 rfl rfl rfl (by kernel_rfl) rfl rfl fun F => ?_
 exact wk trueW trueW trueW
theorem Op_89 : LF Tryz.prog 21 [.k (.int .u8 ((89 : Nat) : Int))] (fun _ => uK 2) none := by
 refine LFx.mk' tt Tryz.func21 rfl rfl rfl (by kernel_rfl) rfl rfl fun F => ?_
 exact wk trueW trueW trueW
theorem Op_90 : LF Tryz.prog 21 [.k (.int .u8 ((90 : Nat) : Int))] (fun _ => uK 2) none := by
 refine LFx.mk' tt Tryz.func21 rfl rfl rfl (by kernel_rfl) rfl rfl fun F => ?_
 exact wk trueW trueW trueW
theorem Op_48 : LF Tryz.prog 21 [.k (.int .u8 ((48 : Nat) : Int))] (fun _ => uK 2) none := by
 refine LFx.mk' tt Tryz.func21 rfl rfl rfl (by kernel_rfl) rfl rfl fun F => ?_
 exact wk trueW trueW trueW
theorem Op_50 : LF Tryz.prog 21 [.k (.int .u8 ((50 : Nat) : Int))] (fun _ => uK 2) none := by
 refine LFx.mk' tt Tryz.func21 rfl rfl rfl (by kernel_rfl) rfl rfl fun F => ?_
 exact wk trueW trueW trueW
theorem Op_51 : LF Tryz.prog 21 [.k (.int .u8 ((51 : Nat) : Int))] (fun _ => uK 2) none := by
 refine LFx.mk' tt Tryz.func21 rfl rfl rfl (by kernel_rfl) rfl rfl fun F => ?_
 exact wk trueW trueW trueW
theorem Op_53 : LF Tryz.prog 21 [.k (.int .u8 ((53 : Nat) : Int))] (fun _ => uK 2) none := by
 refine LFx.mk' tt Tryz.func21 rfl rfl rfl (by kernel_rfl) rfl rfl fun F => ?_
 exact wk trueW trueW trueW
theorem Op_55 : LF Tryz.prog 21 [.k (.int .u8 ((55 : Nat) : Int))] (fun _ => uK 2) none := by
 refine LFx.mk' tt Tryz.func21 rfl rfl rfl (by kernel_rfl) rfl rfl fun F => ?_
 exact wk trueW trueW trueW
theorem Op_56 : LF Tryz.prog 21 [.k (.int .u8 ((56 : Nat) : Int))] (fun _ => uK 2) none := by
 refine LFx.mk' tt Tryz.func21 rfl rfl rfl (by kernel_rfl) rfl rfl fun F => ?_
 exact wk trueW trueW trueW
theorem Op_64 : LF Tryz.prog 21 [.k (.int .u8 ((64 : Nat) : Int))] (fun _ => uK 2) none := by
 refine LFx.mk' tt Tryz.func21 rfl rfl rfl (by kernel_rfl) rfl rfl fun F => ?_
 exact wk trueW trueW trueW
theorem Op_65 : LF Tryz.prog 21 [.k (.int .u8 ((65 : Nat) : Int))] (fun _ => uK 2) none := by
 refine LFx.mk' tt Tryz.func21 rfl rfl rfl (by kernel_rfl) rfl rfl fun F => ?_
 exact wk trueW trueW trueW
theorem Op_66 : LF Tryz.prog 21 [.k (.int .u8 ((66 : Nat) : Int))] (fun _ => uK 2) none := by
 refine LFx.mk' tt Tryz.func21 rfl rfl rfl (by kernel_rfl) rfl rfl fun F => ?_
 exact wk trueW trueW trueW
theorem Op_2 : LF Tryz.prog 21 [.k (.int .u8 ((2 : Nat) : Int))] (fun _ => uK 5) none := by
 refine LFx.mk' tt Tryz.func21 rfl rfl rfl (by kernel_rfl) rfl rfl fun F => ?_
 exact wk trueW trueW trueW
theorem Op_4 : LF Tryz.prog 21 [.k (.int .u8 ((4 : Nat) : Int))] (fun _ => uK 5) none := by
 refine LFx.mk' tt Tryz.func21 rfl rfl rfl (by kernel_rfl) rfl rfl fun F => ?_
 exact wk trueW trueW trueW
theorem Op_5 : LF Tryz.prog 21 [.k (.int .u8 ((5 : Nat) : Int))] (fun _ => uK 5) none := by
 refine LFx.mk' tt Tryz.func21 rfl rfl rfl (by kernel_rfl) rfl rfl fun F => ?_
 exact wk trueW trueW trueW
theorem Op_6 : LF Tryz.prog 21 [.k (.int .u8 ((6 : Nat) : Int))] (fun _ => uK 5) none := by
 refine LFx.mk' tt Tryz.func21 rfl rfl rfl (by kernel_rfl) rfl rfl fun F => ?_
 exact wk trueW trueW trueW
theorem Op_7 : LF Tryz.prog 21 [.k (.int .u8 ((7 : Nat) : Int))] (fun _ => uK 5) none := by
 refine LFx.mk' tt Tryz.func21 rfl rfl rfl (by kernel_rfl) rfl rfl fun F => ?_
 exact wk trueW trueW trueW
theorem Op_11 : LF Tryz.prog 21 [.k (.int .u8 ((11 : Nat) : Int))] (fun _ => uK 5) none := by
 refine LFx.mk' tt Tryz.func21 rfl rfl rfl (by kernel_rfl) rfl rfl fun F => ?_
 exact wk trueW trueW trueW
theorem Op_8 : LF Tryz.prog 21 [.k (.int .u8 ((8 : Nat) : Int))] (fun _ => uK 8) none := by
 refine LFx.mk' tt Tryz.func21 rfl rfl rfl (by kernel_rfl) rfl rfl fun F => ?_
 exact wk trueW trueW trueW
theorem Op_9 : LF Tryz.prog 21 [.k (.int .u8 ((9 : Nat) : Int))] (fun _ => uK 8) none := by
 refine LFx.mk' tt Tryz.func21 rfl rfl rfl (by kernel_rfl) rfl rfl fun F => ?_
 exact wk trueW trueW trueW
end Prw
end Lf
end Go.Proofs.YtffaobngpbaklaaGreatDoor

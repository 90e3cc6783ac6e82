/- A part of the proof: texts joined. -/
import Derived.Test.YtffaobngpbaklaaGreatDoorQ22bf8f8d
set_option linter.unusedVariables false
set_option linter.unusedSimpArgs false
namespace Go.Proofs.YtffaobngpbaklaaGreatDoor
open Go.RowKit Rg Wm Ar
set_option linter.unusedVariables false
set_option maxRecDepth 100000
namespace Lf
namespace Fw
theorem counts_0 : LF Tryz.prog 75 [.k (.int .u8 ((0 : Nat) : Int))] (fun _ => .t [.k (.int .i64 ((0 : Nat) : Int)), .k (.int .i64 ((0 : Nat) : Int))]) none := by
 refine LFx.mk' tt Tryz.func75 rfl rfl rfl (by kernel_rfl) rfl rfl fun F => ?_
 exact wk trueW trueW trueW
theorem counts_91 : LF Tryz.prog 75 [.k (.int .u8 ((91 : Nat) : Int))] (fun _ => .t [.k (.int .i64 ((0 : Nat) : Int)), .k (.int .i64 ((0 : Nat) : Int))]) none := by
 refine LFx.mk' tt Tryz.func75 rfl rfl rfl (by kernel_rfl) rfl rfl fun F => ?_
 exact wk trueW trueW trueW
theorem counts_240 : LF Tryz.prog 75 [.k (.int .u8 ((240 : Nat) : Int))] (fun _ => .t [.k (.int .i64 ((3 : Nat) : Int)), .k (.int .i64 ((1 : Nat) : Int))]) none := by
 refine LFx.mk' tt Tryz.func75 rfl rfl rfl (by kernel_rfl) rfl rfl fun F => ?_
 exact wk trueW trueW trueW
theorem counts_241 : LF Tryz.prog 75 [.k (.int .u8 ((241 : Nat) : Int))] (fun _ => .t [.k (.int .i64 ((5 : Nat) : Int)), .k (.int .i64 ((1 : Nat) : Int))]) none := by
 refine LFx.mk' tt Tryz.func75 rfl rfl rfl (by kernel_rfl) rfl rfl fun F => ?_
 exact wk trueW trueW trueW
theorem counts_243 : LF Tryz.prog 75 [.k (.int .u8 ((243 : Nat) : Int))] (fun _ => .t [.k (.int .i64 ((4 : Nat) : Int)), .k (.int .i64 ((1 : Nat) : Int))]) none := by
 refine LFx.mk' tt Tryz.func75 rfl rfl rfl (by kernel_rfl) rfl rfl fun F => ?_
 exact wk trueW trueW trueW
theorem counts_244 : LF Tryz.prog 75 [.k (.int .u8 ((244 : Nat) : Int))] (fun _ => .t [.k (.int .i64 ((4 : Nat) : Int)), .k (.int .i64 ((1 : Nat) : Int))]) none := by
 refine LFx.mk' tt Tryz.func75 rfl rfl rfl (by kernel_rfl) rfl rfl fun F => ?_
 exact wk trueW trueW trueW
theorem counts_48 : LF Tryz.prog 75 [.k (.int .u8 ((48 : Nat) : Int))] (fun _ => .t [.k (.int .i64 ((0 : Nat) : Int)), .k (.int .i64 ((1 : Nat) : Int))]) none := by
 refine LFx.mk' tt Tryz.func75 rfl rfl rfl (by kernel_rfl) rfl rfl fun F => ?_
 exact wk trueW trueW trueW
theorem counts_50 : LF Tryz.prog 75 [.k (.int .u8 ((50 : Nat) : Int))] (fun _ => .t [.k (.int .i64 ((0 : Nat) : Int)), .k (.int .i64 ((1 : Nat) : Int))]) none := by
 refine LFx.mk' tt Tryz.func75 rfl rfl rfl (by kernel_rfl) rfl rfl fun F => ?_
 exact wk trueW trueW trueW
theorem counts_51 : LF Tryz.prog 75 [.k (.int .u8 ((51 : Nat) : Int))] (fun _ => .t [.k (.int .i64 ((0 : Nat) : Int)), .k (.int .i64 ((1 : Nat) : Int))]) none := by
 refine LFx.mk' tt Tryz.func75 rfl rfl rfl (by kernel_rfl) rfl rfl fun F => ?_
 exact wk trueW trueW trueW
theorem counts_53 : LF Tryz.prog 75 [.k (.int .u8 ((53 : Nat) : Int))] (fun _ => .t [.k (.int .i64 ((0 : Nat) : Int)), .k (.int .i64 ((1 : Nat) : Int))]) none := by
 refine LFx.mk' tt Tryz.func75 rfl rfl rfl (by kernel_rfl) rfl rfl fun F => ?_
 exact wk trueW trueW trueW
theorem counts_55 : LF Tryz.prog 75 [.k (.int .u8 ((55 : Nat) : Int))] (fun _ => .t [.k (.int .i64 ((0 : Nat) : Int)), .k (.int .i64 ((1 : Nat) : Int))]) none := by
 refine LFx.mk' tt Tryz.func75 rfl rfl rfl (by kernel_rfl) rfl rfl fun F => ?_
 exact wk trueW trueW trueW
theorem counts_56 : LF Tryz.prog 75 [.k (.int .u8 ((56 : Nat) : Int))] (fun _ => .t [.k (.int .i64 ((0 : Nat) : Int)), .k (.int .i64 ((1 : Nat) : Int))]) none := by
 refine LFx.mk' tt Tryz.func75 rfl rfl rfl (by kernel_rfl) rfl rfl fun F => ?_
 exact wk trueW trueW trueW
theorem counts_64 : LF Tryz.prog 75 [.k (.int .u8 ((64 : Nat) : Int))] (fun _ => .t [.k (.int .i64 ((0 : Nat) : Int)), .k (.int .i64 ((1 : Nat) : Int))]) none := by
 refine LFx.mk' tt Tryz.func75 rfl rfl rfl (by kernel_rfl) rfl rfl fun F => ?_
 exact wk trueW trueW trueW
theorem counts_65 : LF Tryz.prog 75 [.k (.int .u8 ((65 : Nat) : Int))] (fun _ => .t [.k (.int .i64 ((0 : Nat) : Int)), .k (.int .i64 ((1 : Nat) : Int))]) none := by
 refine LFx.mk' tt Tryz.func75 rfl rfl rfl (by kernel_rfl) rfl rfl fun F => ?_
 exact wk trueW trueW trueW
theorem counts_66 : LF Tryz.prog 75 [.k (.int .u8 ((66 : Nat) : Int))] (fun _ => .t [.k (.int .i64 ((0 : Nat) : Int)), .k (.int .i64 ((1 : Nat) : Int))]) none := by
 refine LFx.mk' tt Tryz.func75 rfl rfl rfl (by kernel_rfl) rfl rfl fun F => ?_
 exact wk trueW trueW trueW
theorem counts_88 : LF Tryz.prog 75 [.k (.int .u8 ((88 : Nat) : Int))] (fun _ => .t [.k (.int .i64 ((0 : Nat) : Int)), .k (.int .i64 ((1 : Nat) : Int))]) none := by
 refine LFx.mk' tt Tryz.func75 rfl rfl rfl (by kernel_rfl) rfl rfl fun F => ?_
 exact wk trueW trueW trueW
theorem counts_89 : LF Tryz.prog 75 [.k (.int .u8 ((89 : Nat) : Int))] (fun _ => .t [.k (.int .i64 ((0 : Nat) : Int)), .k (.int .i64 ((1 : Nat) : Int))]) none := by
 refine LFx.mk' tt Tryz.func75 rfl rfl rfl (by kernel_rfl) rfl rfl fun F => ?_
 exact wk trueW trueW trueW
theorem counts_90 : LF Tryz.prog 75 [.k (.int .u8 ((90 : Nat) : Int))] (fun _ => .t [.k (.int .i64 ((0 : Nat) : Int)), .k (.int .i64 ((1 : Nat) : Int))]) none := by
 refine LFx.mk' tt Tryz.func75 rfl rfl rfl (by kernel_rfl) rfl rfl fun F => ?_
 exact wk trueW trueW trueW
theorem cnt_all : ((List.range 256).all fun n => (Nat.ble 96 n && Nat.blt n 163) || (([8, 9, 21, 25, 49, 52, 81, 84, 80, 86, 82, 83, 85, 87, 242, 253, 54, 57, 0, 91, 240, 241, 243, 244, 48, 50, 51, 53, 55, 56, 64, 65, 66, 88, 89, 90] : List Nat).contains n || (Nat.beq (Fm.cnt n).1 2 && Nat.beq (Fm.cnt n).2 1))) = true := by decide +kernel
theorem cnt_else (n : Nat) (hn : n < 256) (h : ¬ (96 ≤ n ∧ n < 163)) (hc : ([8, 9, 21, 25, 49, 52, 81, 84, 80, 86, 82, 83, 85, 87, 242, 253, 54, 57, 0, 91, 240, 241, 243, 244, 48, 50, 51, 53, 55, 56, 64, 65, 66, 88, 89, 90] : List Nat).contains n = false) : Fm.cnt n = (2, 1) := by
 have := List.all_eq_true.1 cnt_all n (List.mem_range.2 hn)
 rw [Bool.or_eq_true, Bool.or_eq_true, Bool.and_eq_true, Bool.and_eq_true] at this
 rcases this with ⟨h1, h2⟩ | h1 | ⟨h1, h2⟩
 ·exact absurd ⟨Nat.le_of_ble_eq_true h1, Nat.le_of_ble_eq_true h2⟩ h
 ·rw [hc] at h1; cases h1
 ·exact Prod.ext (Nat.eq_of_beq_eq_true h1) (Nat.eq_of_beq_eq_true h2)
set_option maxHeartbeats 2000000 in
theorem Counts (n : Nat) (hn : n < 256) : LF Tryz.prog 75 [.k (.int .u8 ((n : Nat) : Int))] (fun _ => .t [.k (.int .i64 (((Fm.cnt n).1 : Nat) : Int)), .k (.int .i64 (((Fm.cnt n).2 : Nat) : Int))]) none := by
 by_cases h1 : 96 ≤ n ∧ n < 128
 ·have e : Fm.cnt n = (0, 1) := if_pos h1
  rw [e]
  obtain ⟨a, b⟩ := h1
  refine LFx.mk' tt Tryz.func75 rfl rfl rfl (by kernel_rfl) rfl rfl fun F => ?_
  exact wk trueW trueW trueW
 by_cases h2 : 128 ≤ n ∧ n < 144
 ·have e : Fm.cnt n = (n - 128 + 1, n - 128 + 1 + 1) := (if_neg h1).trans (if_pos h2)
  rw [e]
  obtain ⟨a, b⟩ := h2
  clear h1
  have hw : IntKind.u8.wrap ((n : Int) - 128) = ((n - 128 : Nat) : Int) := by rw [wrap_u8 (by omega)]; omega
  refine LFx.mk' tt Tryz.func75 rfl rfl rfl (by kernel_rfl) rfl rfl fun F => ?_
  exact wk trueW trueW trueW
 by_cases h3 : 144 ≤ n ∧ n < 160
 ·have e : Fm.cnt n = (n - 144 + 2, n - 144 + 2) := (if_neg h1).trans ((if_neg h2).trans (if_pos h3))
  rw [e]
  obtain ⟨a, b⟩ := h3
  clear h1 h2
  have hw : IntKind.u8.wrap ((n : Int) - 144) = ((n - 144 : Nat) : Int) := by rw [wrap_u8 (by omega)]; omega
  refine LFx.mk' tt Tryz.func75 rfl rfl rfl (by kernel_rfl) rfl rfl fun F => ?_
  exact wk trueW trueW trueW
 by_cases h4 : 160 ≤ n ∧ n ≤ 162
 ·have e : Fm.cnt n = (n - 160 + 2, 0) := (if_neg h1).trans ((if_neg h2).trans ((if_neg h3).trans (if_pos h4)))
  rw [e]
  obtain ⟨a, b⟩ := h4
  clear h1 h2 h3
  have hw : IntKind.u8.wrap ((n : Int) - 160) = ((n - 160 : Nat) : Int) := by rw [wrap_u8 (by omega)]; omega
  refine LFx.mk' tt Tryz.func75 rfl rfl rfl (by kernel_rfl) rfl rfl fun F => ?_
  exact wk trueW trueW trueW
 cases hc : ([8, 9, 21, 25, 49, 52, 81, 84, 80, 86, 82, 83, 85, 87, 242, 253, 54, 57, 0, 91, 240, 241, 243, 244, 48, 50, 51, 53, 55, 56, 64, 65, 66, 88, 89, 90] : List Nat).contains n
 ·have e := cnt_else n hn (by omega) hc
  rw [e]
  clear e
  have k8 : NE (n : Int) 8 := ne_of (k := 8) hc (by decide)
  have k9 : NE (n : Int) 9 := ne_of (k := 9) hc (by decide)
  have k21 : NE (n : Int) 21 := ne_of (k := 21) hc (by decide)
  have k25 : NE (n : Int) 25 := ne_of (k := 25) hc (by decide)
  have k49 : NE (n : Int) 49 := ne_of (k := 49) hc (by decide)
  have k52 : NE (n : Int) 52 := ne_of (k := 52) hc (by decide)
  have k81 : NE (n : Int) 81 := ne_of (k := 81) hc (by decide)
  have k84 : NE (n : Int) 84 := ne_of (k := 84) hc (by decide)
  have k80 : NE (n : Int) 80 := ne_of (k := 80) hc (by decide)
  have k86 : NE (n : Int) 86 := ne_of (k := 86) hc (by decide)
  have k82 : NE (n : Int) 82 := ne_of (k := 82) hc (by decide)
  have k83 : NE (n : Int) 83 := ne_of (k := 83) hc (by decide)
  have k85 : NE (n : Int) 85 := ne_of (k := 85) hc (by decide)
  have k87 : NE (n : Int) 87 := ne_of (k := 87) hc (by decide)
  have k242 : NE (n : Int) 242 := ne_of (k := 242) hc (by decide)
  have k253 : NE (n : Int) 253 := ne_of (k := 253) hc (by decide)
  have k54 : NE (n : Int) 54 := ne_of (k := 54) hc (by decide)
  have k57 : NE (n : Int) 57 := ne_of (k := 57) hc (by decide)
  have k0 : NE (n : Int) 0 := ne_of (k := 0) hc (by decide)
  have k91 : NE (n : Int) 91 := ne_of (k := 91) hc (by decide)
  have k240 : NE (n : Int) 240 := ne_of (k := 240) hc (by decide)
  have k241 : NE (n : Int) 241 := ne_of (k := 241) hc (by decide)
  have k243 : NE (n : Int) 243 := ne_of (k := 243) hc (by decide)
  have k244 : NE (n : Int) 244 := ne_of (k := 244) hc (by decide)
  have k48 : NE (n : Int) 48 := ne_of (k := 48) hc (by decide)
  have k50 : NE (n : Int) 50 := ne_of (k := 50) hc (by decide)
  have k51 : NE (n : Int) 51 := ne_of (k := 51) hc (by decide)
  have k53 : NE (n : Int) 53 := ne_of (k := 53) hc (by decide)
  have k55 : NE (n : Int) 55 := ne_of (k := 55) hc (by decide)
  have k56 : NE (n : Int) 56 := ne_of (k := 56) hc (by decide)
  have k64 : NE (n : Int) 64 := ne_of (k := 64) hc (by decide)
  have k65 : NE (n : Int) 65 := ne_of (k := 65) hc (by decide)
  have k66 : NE (n : Int) 66 := ne_of (k := 66) hc (by decide)
  have k88 : NE (n : Int) 88 := ne_of (k := 88) hc (by decide)
  have k89 : NE (n : Int) 89 := ne_of (k := 89) hc (by decide)
  have k90 : NE (n : Int) 90 := ne_of (k := 90) hc (by decide)
  clear hc
  by_cases h6 : n < 96
  ·clear h1 h2 h3 h4
   refine LFx.mk' tt Tryz.func75 rfl rfl rfl (by kernel_rfl) rfl rfl fun F => ?_
   exact wk trueW trueW trueW
  ·have h7 : 162 < n := by omega
   clear h1 h2 h3 h4 h6
   refine LFx.mk' tt Tryz.func75 rfl rfl rfl (by kernel_rfl) rfl rfl fun F => ?_
   exact wk trueW trueW trueW
 ·rw [List.contains_iff_mem] at hc
  clear h1 h2 h3 h4
  simp only [List.mem_cons, List.not_mem_nil, or_false] at hc
  rcases hc with rfl | rfl | rfl | rfl | rfl | rfl | rfl | rfl | rfl | rfl | rfl | rfl | rfl | rfl | rfl | rfl | rfl | rfl | rfl | rfl | rfl | rfl | rfl | rfl | rfl | rfl | rfl | rfl | rfl | rfl | rfl | rfl | rfl | rfl | rfl | rfl
  ·exact counts_8
  ·exact counts_9
  ·exact counts_21
  ·exact counts_25
  ·exact counts_49
  ·exact counts_52
  ·exact counts_81
  ·exact counts_84
  ·exact counts_80
  ·exact counts_86
  ·exact counts_82
  ·exact counts_83
  ·exact counts_85
  ·exact counts_87
  ·exact counts_242
  ·exact counts_253
  ·exact counts_54
  ·exact counts_57
  ·exact counts_0
  ·exact counts_91
  ·exact counts_240
  ·exact counts_241
  ·exact counts_243
  ·exact counts_244
  ·exact counts_48
  ·exact counts_50
  ·exact counts_51
  ·exact counts_53
  ·exact counts_55
  ·exact counts_56
  ·exact counts_64
  ·exact counts_65
  ·exact counts_66
  ·exact counts_88
  ·exact counts_89
  ·exact counts_90
end Fw
end Lf
end Go.Proofs.YtffaobngpbaklaaGreatDoor

/- A part of the proof: texts joined. -/
import Derived.Test.YtffaobngpbaklaaGreatDoorQ14909739
set_option linter.unusedVariables false
set_option linter.unusedSimpArgs false
namespace Go.Proofs.YtffaobngpbaklaaGreatDoor
open Go.RowKit Rg Wm Ar
set_option linter.unusedVariables false
set_option maxRecDepth 100000
namespace Lf
theorem ne_of {L : List Nat} {n k : Nat} (hc : L.contains n = false) (hk : L.contains k = true) : NE (n : Int) ((k : Nat) : Int) := fun e => by
 have h : n = k := by omega
 subst h
 rw [hc] at hk
 cases hk
abbrev boV (b : Bool) : V := .k (.bool b)
theorem zero_wV : V.a ((List.replicate 4 0).map uK) = wV 0 := congrArg (fun l => V.a (List.map uK l)) (show List.replicate 4 0 = limbs 0 from by unfold limbs; decide)
theorem zero_wV' : V.a [uK 0, uK 0, uK 0, uK 0] = wV 0 := zero_wV
namespace Fw
theorem ofW_48 : LF Tryz.prog 74 [.k (.int .u8 ((48 : Nat) : Int))] (fun _ => boV true) none := by
 refine LFx.mk' tt Tryz.func74 rfl rfl rfl (by kernel_rfl) rfl rfl fun F => ?_
 exact wk trueW trueW trueW
theorem ofW_49 : LF Tryz.prog 74 [.k (.int .u8 ((49 : Nat) : Int))] (fun _ => boV true) none := by
 refine LFx.mk' tt Tryz.func74 rfl rfl rfl (by kernel_rfl) rfl rfl fun F => ?_
 exact wk trueW trueW trueW
theorem ofW_50 : LF Tryz.prog 74 [.k (.int .u8 ((50 : Nat) : Int))] (fun _ => boV true) none := by
 refine LFx.mk' tt Tryz.func74 rfl rfl rfl (by kernel_rfl) rfl rfl fun F => ?_
 exact wk trueW trueW trueW
theorem ofW_51 : LF Tryz.prog 74 [.k (.int .u8 ((51 : Nat) : Int))] (fun _ => boV true) none := by
 refine LFx.mk' tt Tryz.func74 rfl rfl rfl (by kernel_rfl) rfl rfl fun F => ?_
 exact wk trueW trueW trueW
theorem ofW_56 : LF Tryz.prog 74 [.k (.int .u8 ((56 : Nat) : Int))] (fun _ => boV true) none := by
 refine LFx.mk' tt Tryz.func74 rfl rfl rfl (by kernel_rfl) rfl rfl fun F => ?_
 exact wk trueW trueW trueW
theorem ofW_57 : LF Tryz.prog 74 [.k (.int .u8 ((57 : Nat) : Int))] (fun _ => boV true) none := by
 refine LFx.mk' tt Tryz.func74 rfl rfl rfl (by kernel_rfl) rfl rfl fun F => ?_
 exact wk trueW trueW trueW
theorem ofW_64 : LF Tryz.prog 74 [.k (.int .u8 ((64 : Nat) : Int))] (fun _ => boV true) none := by
 refine LFx.mk' tt Tryz.func74 rfl rfl rfl (by kernel_rfl) rfl rfl fun F => ?_
 exact wk trueW trueW trueW
theorem ofW_65 : LF Tryz.prog 74 [.k (.int .u8 ((65 : Nat) : Int))] (fun _ => boV true) none := by
 refine LFx.mk' tt Tryz.func74 rfl rfl rfl (by kernel_rfl) rfl rfl fun F => ?_
 exact wk trueW trueW trueW
theorem ofW_66 : LF Tryz.prog 74 [.k (.int .u8 ((66 : Nat) : Int))] (fun _ => boV true) none := by
 refine LFx.mk' tt Tryz.func74 rfl rfl rfl (by kernel_rfl) rfl rfl fun F => ?_
 exact wk trueW trueW trueW
theorem ofW_84 : LF Tryz.prog 74 [.k (.int .u8 ((84 : Nat) : Int))] (fun _ => boV true) none := by
 refine LFx.mk' tt Tryz.func74 rfl rfl rfl (by kernel_rfl) rfl rfl fun F => ?_
 exact wk trueW trueW trueW
theorem ofW_85 : LF Tryz.prog 74 [.k (.int .u8 ((85 : Nat) : Int))] (fun _ => boV true) none := by
 refine LFx.mk' tt Tryz.func74 rfl rfl rfl (by kernel_rfl) rfl rfl fun F => ?_
 exact wk trueW trueW trueW
theorem ofW_240 : LF Tryz.prog 74 [.k (.int .u8 ((240 : Nat) : Int))] (fun _ => boV true) none := by
 refine LFx.mk' tt Tryz.func74 rfl rfl rfl (by kernel_rfl) rfl rfl fun F => ?_
 exact wk trueW trueW trueW
theorem ofW_241 : LF Tryz.prog 74 [.k (.int .u8 ((241 : Nat) : Int))] (fun _ => boV true) none := by
 refine LFx.mk' tt Tryz.func74 rfl rfl rfl (by kernel_rfl) rfl rfl fun F => ?_
 exact wk trueW trueW trueW
theorem ofW_243 : LF Tryz.prog 74 [.k (.int .u8 ((243 : Nat) : Int))] (fun _ => boV true) none := by
 refine LFx.mk' tt Tryz.func74 rfl rfl rfl (by kernel_rfl) rfl rfl fun F => ?_
 exact wk trueW trueW trueW
theorem ofW_244 : LF Tryz.prog 74 [.k (.int .u8 ((244 : Nat) : Int))] (fun _ => boV true) none := by
 refine LFx.mk' tt Tryz.func74 rfl rfl rfl (by kernel_rfl) rfl rfl fun F => ?_
 exact wk trueW trueW trueW
theorem ofW_160 : LF Tryz.prog 74 [.k (.int .u8 ((160 : Nat) : Int))] (fun _ => boV true) none := by
 refine LFx.mk' tt Tryz.func74 rfl rfl rfl (by kernel_rfl) rfl rfl fun F => ?_
 exact wk trueW trueW trueW
theorem ofW_161 : LF Tryz.prog 74 [.k (.int .u8 ((161 : Nat) : Int))] (fun _ => boV true) none := by
 refine LFx.mk' tt Tryz.func74 rfl rfl rfl (by kernel_rfl) rfl rfl fun F => ?_
 exact wk trueW trueW trueW
theorem ofW_162 : LF Tryz.prog 74 [.k (.int .u8 ((162 : Nat) : Int))] (fun _ => boV true) none := by
 refine LFx.mk' tt Tryz.func74 rfl rfl rfl (by kernel_rfl) rfl rfl fun F => ?_
 exact wk trueW trueW trueW
theorem OfWorld (n : Nat) : LF Tryz.prog 74 [.k (.int .u8 ((n : Nat) : Int))] (fun _ => boV (Fm.ofW n)) none := by
 cases hc : Fm.ofW n
 ·have hc : ([48, 49, 50, 51, 56, 57, 64, 65, 66, 84, 85, 240, 241, 243, 244, 160, 161, 162] : List Nat).contains n = false := hc
  have k48 : NE (n : Int) 48 := ne_of (k := 48) hc (by decide)
  have k49 : NE (n : Int) 49 := ne_of (k := 49) hc (by decide)
  have k50 : NE (n : Int) 50 := ne_of (k := 50) hc (by decide)
  have k51 : NE (n : Int) 51 := ne_of (k := 51) hc (by decide)
  have k56 : NE (n : Int) 56 := ne_of (k := 56) hc (by decide)
  have k57 : NE (n : Int) 57 := ne_of (k := 57) hc (by decide)
  have k64 : NE (n : Int) 64 := ne_of (k := 64) hc (by decide)
  have k65 : NE (n : Int) 65 := ne_of (k := 65) hc (by decide)
  have k66 : NE (n : Int) 66 := ne_of (k := 66) hc (by decide)
  have k84 : NE (n : Int) 84 := ne_of (k := 84) hc (by decide)
  have k85 : NE (n : Int) 85 := ne_of (k := 85) hc (by decide)
  have k240 : NE (n : Int) 240 := ne_of (k := 240) hc (by decide)
  have k241 : NE (n : Int) 241 := ne_of (k := 241) hc (by decide)
  have k243 : NE (n : Int) 243 := ne_of (k := 243) hc (by decide)
  have k244 : NE (n : Int) 244 := ne_of (k := 244) hc (by decide)
  have k160 : NE (n : Int) 160 := ne_of (k := 160) hc (by decide)
  have k161 : NE (n : Int) 161 := ne_of (k := 161) hc (by decide)
  have k162 : NE (n : Int) 162 := ne_of (k := 162) hc (by decide)
  clear hc
  refine LFx.mk' tt Tryz.func74 rfl rfl rfl (by kernel_rfl) rfl rfl fun F => ?_
  exact wk trueW trueW trueW
 ·have hc : ([48, 49, 50, 51, 56, 57, 64, 65, 66, 84, 85, 240, 241, 243, 244, 160, 161, 162] : List Nat).contains n = true := hc
  rw [List.contains_iff_mem] at hc
  simp only [List.mem_cons, List.not_mem_nil, or_false] at hc
  rcases hc with rfl | rfl | rfl | rfl | rfl | rfl | rfl | rfl | rfl | rfl | rfl | rfl | rfl | rfl | rfl | rfl | rfl | rfl
  ·exact ofW_48
  ·exact ofW_49
  ·exact ofW_50
  ·exact ofW_51
  ·exact ofW_56
  ·exact ofW_57
  ·exact ofW_64
  ·exact ofW_65
  ·exact ofW_66
  ·exact ofW_84
  ·exact ofW_85
  ·exact ofW_240
  ·exact ofW_241
  ·exact ofW_243
  ·exact ofW_244
  ·exact ofW_160
  ·exact ofW_161
  ·exact ofW_162
theorem Flag (b : Bool) : LF Tryz.prog 81 [boV b] (fun _ => wV (Fm.flag b)) none := by
 have c1 := Wo.IntW 1 (by unfold m64; decide)
 have hl := limbs_len 1
 have hz := zero_wV
 have hz2 := zero_wV'
 cases b
 ·refine LFx.mk' tt Tryz.func81 rfl rfl rfl (by kernel_rfl) rfl rfl fun F => ?_
  exact wk trueW trueW trueW
 ·refine LFx.mk' tt Tryz.func81 rfl rfl rfl (by kernel_rfl) rfl rfl fun F => ?_
  exact wk trueW trueW trueW
theorem First (a b : Nat) : LF Tryz.prog 99 [wV a, wV b] (fun _ => wV a) none := by
 have hla := limbs_len a
 have hlb := limbs_len b
 refine LFx.mk' tt Tryz.func99 rfl rfl rfl (by kernel_rfl) rfl rfl fun F => ?_
 exact wk trueW trueW trueW
theorem Second (a b : Nat) : LF Tryz.prog 100 [wV a, wV b] (fun _ => wV b) none := by
 have hla := limbs_len a
 have hlb := limbs_len b
 refine LFx.mk' tt Tryz.func100 rfl rfl rfl (by kernel_rfl) rfl rfl fun F => ?_
 exact wk trueW trueW trueW
end Fw
end Lf
end Go.Proofs.YtffaobngpbaklaaGreatDoor

/- A part of the proof: texts joined. -/
import Derived.Test.YtffaobngpbaklaaGreatDoorQ1583919b
import Derived.Test.YtffaobngpbaklaaGreatDoorQ1687ef98
set_option linter.unusedVariables false
set_option linter.unusedSimpArgs false
namespace Go.Proofs.YtffaobngpbaklaaGreatDoor
open Go.RowKit Rg Wm Ar
set_option linter.unusedVariables false
set_option maxRecDepth 100000
namespace Lf
namespace Fw
theorem bitwise_22 (a b : Nat) : LF Tryz.prog 101 [.k (.int .u8 ((22 : Nat) : Int)), wV a, wV b] (fun _ => .t [wV (a &&& b), boV true]) none := by
 have hla := limbs_len a
 have hlb := limbs_len b
 have c1 := Tw.And a b
 have hl1 := limbs_len (a &&& b)
 generalize a &&& b = r at *
 refine LFx.mk' tt Tryz.func101 rfl rfl rfl (by kernel_rfl) rfl rfl fun F => ?_
 exact wk trueW trueW trueW
theorem bitwise_23 (a b : Nat) : LF Tryz.prog 101 [.k (.int .u8 ((23 : Nat) : Int)), wV a, wV b] (fun _ => .t [wV (a ||| b), boV true]) none := by
 have hla := limbs_len a
 have hlb := limbs_len b
 have c1 := Tw.Or a b
 have hl1 := limbs_len (a ||| b)
 generalize a ||| b = r at *
 refine LFx.mk' tt Tryz.func101 rfl rfl rfl (by kernel_rfl) rfl rfl fun F => ?_
 exact wk trueW trueW trueW
theorem bitwise_24 (a b : Nat) : LF Tryz.prog 101 [.k (.int .u8 ((24 : Nat) : Int)), wV a, wV b] (fun _ => .t [wV (a ^^^ b), boV true]) none := by
 have hla := limbs_len a
 have hlb := limbs_len b
 have c1 := Tw.Xor a b
 have hl1 := limbs_len (a ^^^ b)
 generalize a ^^^ b = r at *
 refine LFx.mk' tt Tryz.func101 rfl rfl rfl (by kernel_rfl) rfl rfl fun F => ?_
 exact wk trueW trueW trueW
theorem bitwise_26 (a b : Nat) : LF Tryz.prog 101 [.k (.int .u8 ((26 : Nat) : Int)), wV a, wV b] (fun _ => .t [wV (byteW a b), boV true]) none := by
 have hla := limbs_len a
 have hlb := limbs_len b
 have c1 := Tw.Byte a b
 have hl1 := limbs_len (byteW a b)
 generalize byteW a b = r at *
 refine LFx.mk' tt Tryz.func101 rfl rfl rfl (by kernel_rfl) rfl rfl fun F => ?_
 exact wk trueW trueW trueW
theorem bitwise_27 (a b : Nat) : LF Tryz.prog 101 [.k (.int .u8 ((27 : Nat) : Int)), wV a, wV b] (fun _ => .t [wV (b * 2 ^ (a % M256)), boV true]) none := by
 have hla := limbs_len a
 have hlb := limbs_len b
 have c1 := Tw.Shl a b
 have hl1 := limbs_len (b * 2 ^ (a % M256))
 generalize b * 2 ^ (a % M256) = r at *
 refine LFx.mk' tt Tryz.func101 rfl rfl rfl (by kernel_rfl) rfl rfl fun F => ?_
 exact wk trueW trueW trueW
theorem bitwise_28 (a b : Nat) : LF Tryz.prog 101 [.k (.int .u8 ((28 : Nat) : Int)), wV a, wV b] (fun _ => .t [wV (b % M256 / 2 ^ (a % M256)), boV true]) none := by
 have hla := limbs_len a
 have hlb := limbs_len b
 have c1 := Tw.Shr a b
 have hl1 := limbs_len (b % M256 / 2 ^ (a % M256))
 generalize b % M256 / 2 ^ (a % M256) = r at *
 refine LFx.mk' tt Tryz.func101 rfl rfl rfl (by kernel_rfl) rfl rfl fun F => ?_
 exact wk trueW trueW trueW
theorem bitwise_29 (a b : Nat) : LF Tryz.prog 101 [.k (.int .u8 ((29 : Nat) : Int)), wV a, wV b] (fun _ => .t [wV (sarW a b), boV true]) none := by
 have hla := limbs_len a
 have hlb := limbs_len b
 have c1 := Tw.Sar a b
 have hl1 := limbs_len (sarW a b)
 generalize sarW a b = r at *
 refine LFx.mk' tt Tryz.func101 rfl rfl rfl (by kernel_rfl) rfl rfl fun F => ?_
 exact wk trueW trueW trueW
theorem bitwise_no (n a b : Nat) (hc : ([22, 23, 24, 26, 27, 28, 29] : List Nat).contains n = false) : LF Tryz.prog 101 [.k (.int .u8 ((n : Nat) : Int)), wV a, wV b] (fun _ => .t [wV 0, boV false]) none := by
 have hla := limbs_len a
 have hlb := limbs_len b
 have hv1 : V.t [V.a [uK 0, uK 0, uK 0, uK 0], boV false] = V.t [wV 0, boV false] := by rw [zero_wV']
 have k22 : NE (n : Int) 22 := ne_of (k := 22) hc (by decide)
 have k23 : NE (n : Int) 23 := ne_of (k := 23) hc (by decide)
 have k24 : NE (n : Int) 24 := ne_of (k := 24) hc (by decide)
 have k26 : NE (n : Int) 26 := ne_of (k := 26) hc (by decide)
 have k27 : NE (n : Int) 27 := ne_of (k := 27) hc (by decide)
 have k28 : NE (n : Int) 28 := ne_of (k := 28) hc (by decide)
 have k29 : NE (n : Int) 29 := ne_of (k := 29) hc (by decide)
 clear hc
 refine LFx.mk' tt Tryz.func101 rfl rfl rfl (by kernel_rfl) rfl rfl fun F => ?_
 exact wk trueW trueW trueW
end Fw
end Lf
open Go.RowKit Rg Wm Ar
set_option linter.unusedVariables false
set_option maxRecDepth 100000
namespace Lf
namespace Fw
theorem two_1 (a b : Nat) : LF Tryz.prog 93 [.k (.int .u8 ((1 : Nat) : Int)), wV a, wV b] (fun _ => .t [wV (a + b), boV true]) none := by
 have hla := limbs_len a
 have hlb := limbs_len b
 have c1 := Wo.Add a b
 have hl1 := limbs_len (a + b)
 generalize a + b = r at *
 refine LFx.mk' tt Tryz.func93 rfl rfl rfl (by kernel_rfl) rfl rfl fun F => ?_
 exact wk trueW trueW trueW
theorem two_2 (a b : Nat) : LF Tryz.prog 93 [.k (.int .u8 ((2 : Nat) : Int)), wV a, wV b] (fun _ => .t [wV (a * b), boV true]) none := by
 have hla := limbs_len a
 have hlb := limbs_len b
 have c1 := Wo.Mul a b
 have hl1 := limbs_len (a * b)
 generalize a * b = r at *
 refine LFx.mk' tt Tryz.func93 rfl rfl rfl (by kernel_rfl) rfl rfl fun F => ?_
 exact wk trueW trueW trueW
theorem two_3 (a b : Nat) : LF Tryz.prog 93 [.k (.int .u8 ((3 : Nat) : Int)), wV a, wV b] (fun _ => .t [wV (dif a b), boV true]) none := by
 have hla := limbs_len a
 have hlb := limbs_len b
 have c1 := Wo.Sub a b
 have hl1 := limbs_len (dif a b)
 generalize dif a b = r at *
 refine LFx.mk' tt Tryz.func93 rfl rfl rfl (by kernel_rfl) rfl rfl fun F => ?_
 exact wk trueW trueW trueW
theorem two_4 (a b : Nat) : LF Tryz.prog 93 [.k (.int .u8 ((4 : Nat) : Int)), wV a, wV b] (fun _ => .t [wV (qW a b), boV true]) none := by
 have hla := limbs_len a
 have hlb := limbs_len b
 have c1 := Wo.DivMod a b
 have c2 := First (qW a b) (rW a b)
 have hl1 := limbs_len (qW a b)
 have hl2 := limbs_len (rW a b)
 generalize qW a b = r at *
 generalize rW a b = s at *
 refine LFx.mk' tt Tryz.func93 rfl rfl rfl (by kernel_rfl) rfl rfl fun F => ?_
 exact wk trueW trueW trueW
theorem two_6 (a b : Nat) : LF Tryz.prog 93 [.k (.int .u8 ((6 : Nat) : Int)), wV a, wV b] (fun _ => .t [wV (rW a b), boV true]) none := by
 have hla := limbs_len a
 have hlb := limbs_len b
 have c1 := Wo.DivMod a b
 have c2 := Second (qW a b) (rW a b)
 have hl1 := limbs_len (qW a b)
 have hl2 := limbs_len (rW a b)
 generalize qW a b = r at *
 generalize rW a b = s at *
 refine LFx.mk' tt Tryz.func93 rfl rfl rfl (by kernel_rfl) rfl rfl fun F => ?_
 exact wk trueW trueW trueW
theorem two_5 (a b : Nat) : LF Tryz.prog 93 [.k (.int .u8 ((5 : Nat) : Int)), wV a, wV b] (fun _ => .t [wV (sqW a b), boV true]) none := by
 have hla := limbs_len a
 have hlb := limbs_len b
 have c1 := Tw.SDivMod a b
 have c2 := First (sqW a b) (srW a b)
 have hl1 := limbs_len (sqW a b)
 have hl2 := limbs_len (srW a b)
 generalize sqW a b = r at *
 generalize srW a b = s at *
 refine LFx.mk' tt Tryz.func93 rfl rfl rfl (by kernel_rfl) rfl rfl fun F => ?_
 exact wk trueW trueW trueW
theorem two_7 (a b : Nat) : LF Tryz.prog 93 [.k (.int .u8 ((7 : Nat) : Int)), wV a, wV b] (fun _ => .t [wV (srW a b), boV true]) none := by
 have hla := limbs_len a
 have hlb := limbs_len b
 have c1 := Tw.SDivMod a b
 have c2 := Second (sqW a b) (srW a b)
 have hl1 := limbs_len (sqW a b)
 have hl2 := limbs_len (srW a b)
 generalize sqW a b = r at *
 generalize srW a b = s at *
 refine LFx.mk' tt Tryz.func93 rfl rfl rfl (by kernel_rfl) rfl rfl fun F => ?_
 exact wk trueW trueW trueW
theorem two_11 (a b : Nat) : LF Tryz.prog 93 [.k (.int .u8 ((11 : Nat) : Int)), wV a, wV b] (fun _ => .t [wV (extW a b), boV true]) none := by
 have hla := limbs_len a
 have hlb := limbs_len b
 have c1 := Tw.Extend a b
 have hl1 := limbs_len (extW a b)
 generalize extW a b = r at *
 refine LFx.mk' tt Tryz.func93 rfl rfl rfl (by kernel_rfl) rfl rfl fun F => ?_
 exact wk trueW trueW trueW
theorem two_16 (a b : Nat) : LF Tryz.prog 93 [.k (.int .u8 ((16 : Nat) : Int)), wV a, wV b] (fun _ => .t [wV (Fm.flag (decide (Wd.cmp a b < 0))), boV true]) none := by
 have hla := limbs_len a
 have hlb := limbs_len b
 have c1 := Wo.Cmp a b
 have c2 := Flag true
 have c3 := Flag false
 have hl1 := limbs_len (Fm.flag true)
 have hl2 := limbs_len (Fm.flag false)
 by_cases h : Wd.cmp a b < 0
 ·rw [decide_eq_true h]
  generalize Wd.cmp a b = z at *
  refine LFx.mk' tt Tryz.func93 rfl rfl rfl (by kernel_rfl) rfl rfl fun F => ?_
  exact wk trueW trueW trueW
 ·rw [decide_eq_false h]
  generalize Wd.cmp a b = z at *
  refine LFx.mk' tt Tryz.func93 rfl rfl rfl (by kernel_rfl) rfl rfl fun F => ?_
  exact wk trueW trueW trueW
theorem two_17 (a b : Nat) : LF Tryz.prog 93 [.k (.int .u8 ((17 : Nat) : Int)), wV a, wV b] (fun _ => .t [wV (Fm.flag (decide (Wd.cmp a b > 0))), boV true]) none := by
 have hla := limbs_len a
 have hlb := limbs_len b
 have c1 := Wo.Cmp a b
 have c2 := Flag true
 have c3 := Flag false
 have hl1 := limbs_len (Fm.flag true)
 have hl2 := limbs_len (Fm.flag false)
 by_cases h : Wd.cmp a b > 0
 ·rw [decide_eq_true h]
  generalize Wd.cmp a b = z at *
  refine LFx.mk' tt Tryz.func93 rfl rfl rfl (by kernel_rfl) rfl rfl fun F => ?_
  exact wk trueW trueW trueW
 ·rw [decide_eq_false h]
  generalize Wd.cmp a b = z at *
  refine LFx.mk' tt Tryz.func93 rfl rfl rfl (by kernel_rfl) rfl rfl fun F => ?_
  exact wk trueW trueW trueW
theorem two_18 (a b : Nat) : LF Tryz.prog 93 [.k (.int .u8 ((18 : Nat) : Int)), wV a, wV b] (fun _ => .t [wV (Fm.flag (decide (scmp a b < 0))), boV true]) none := by
 have hla := limbs_len a
 have hlb := limbs_len b
 have c1 := Tw.SCmp a b
 have c2 := Flag true
 have c3 := Flag false
 have hl1 := limbs_len (Fm.flag true)
 have hl2 := limbs_len (Fm.flag false)
 by_cases h : scmp a b < 0
 ·rw [decide_eq_true h]
  generalize scmp a b = z at *
  refine LFx.mk' tt Tryz.func93 rfl rfl rfl (by kernel_rfl) rfl rfl fun F => ?_
  exact wk trueW trueW trueW
 ·rw [decide_eq_false h]
  generalize scmp a b = z at *
  refine LFx.mk' tt Tryz.func93 rfl rfl rfl (by kernel_rfl) rfl rfl fun F => ?_
  exact wk trueW trueW trueW
theorem two_19 (a b : Nat) : LF Tryz.prog 93 [.k (.int .u8 ((19 : Nat) : Int)), wV a, wV b] (fun _ => .t [wV (Fm.flag (decide (scmp a b > 0))), boV true]) none := by
 have hla := limbs_len a
 have hlb := limbs_len b
 have c1 := Tw.SCmp a b
 have c2 := Flag true
 have c3 := Flag false
 have hl1 := limbs_len (Fm.flag true)
 have hl2 := limbs_len (Fm.flag false)
 by_cases h : scmp a b > 0
 ·rw [decide_eq_true h]
  generalize scmp a b = z at *
  refine LFx.mk' tt Tryz.func93 rfl rfl rfl (by kernel_rfl) rfl rfl fun F => ?_
  exact wk trueW trueW trueW
 ·rw [decide_eq_false h]
  generalize scmp a b = z at *
  refine LFx.mk' tt Tryz.func93 rfl rfl rfl (by kernel_rfl) rfl rfl fun F => ?_
  exact wk trueW trueW trueW
theorem two_20 (a b : Nat) : LF Tryz.prog 93 [.k (.int .u8 ((20 : Nat) : Int)), wV a, wV b] (fun _ => .t [wV (Fm.flag (decide (a % M256 = b % M256))), boV true]) none := by
 have hla := limbs_len a
 have hlb := limbs_len b
 have hi := limbs_iff (x := a) (y := b)
 have c2 := Flag true
 have c3 := Flag false
 have hl1 := limbs_len (Fm.flag true)
 have hl2 := limbs_len (Fm.flag false)
 by_cases h : a % M256 = b % M256
 ·rw [decide_eq_true h]
  have he := hi.2 h
  clear h hi
  refine LFx.mk' tt Tryz.func93 rfl rfl rfl (by kernel_rfl) rfl rfl fun F => ?_
  exact wk trueW trueW trueW
 ·rw [decide_eq_false h]
  have he : ¬ limbs a = limbs b := fun e => h (hi.1 e)
  clear h hi
  refine LFx.mk' tt Tryz.func93 rfl rfl rfl (by kernel_rfl) rfl rfl fun F => ?_
  exact wk trueW trueW trueW
theorem two_else (n a b : Nat) (hc : ([1, 2, 3, 4, 6, 5, 7, 11, 16, 17, 18, 19, 20] : List Nat).contains n = false) (r : Nat) (z : Bool) (hb : LF Tryz.prog 101 [.k (.int .u8 ((n : Nat) : Int)), wV a, wV b] (fun _ => .t [wV r, boV z]) none) : LF Tryz.prog 93 [.k (.int .u8 ((n : Nat) : Int)), wV a, wV b] (fun _ => .t [wV r, boV z]) none := by
 have hla := limbs_len a
 have hlb := limbs_len b
 have hlr := limbs_len r
 have c1 := hb
 have k1 : NE (n : Int) 1 := ne_of (k := 1) hc (by decide)
 have k2 : NE (n : Int) 2 := ne_of (k := 2) hc (by decide)
 have k3 : NE (n : Int) 3 := ne_of (k := 3) hc (by decide)
 have k4 : NE (n : Int) 4 := ne_of (k := 4) hc (by decide)
 have k6 : NE (n : Int) 6 := ne_of (k := 6) hc (by decide)
 have k5 : NE (n : Int) 5 := ne_of (k := 5) hc (by decide)
 have k7 : NE (n : Int) 7 := ne_of (k := 7) hc (by decide)
 have k11 : NE (n : Int) 11 := ne_of (k := 11) hc (by decide)
 have k16 : NE (n : Int) 16 := ne_of (k := 16) hc (by decide)
 have k17 : NE (n : Int) 17 := ne_of (k := 17) hc (by decide)
 have k18 : NE (n : Int) 18 := ne_of (k := 18) hc (by decide)
 have k19 : NE (n : Int) 19 := ne_of (k := 19) hc (by decide)
 have k20 : NE (n : Int) 20 := ne_of (k := 20) hc (by decide)
 clear hc hb
 refine LFx.mk' tt Tryz.func93 rfl rfl rfl (by kernel_rfl) rfl rfl fun F => ?_
 exact wk trueW trueW trueW
theorem Two_yes (n a b r : Nat) (h : Fm.two n a b = some r) : LF Tryz.prog 93 [.k (.int .u8 ((n : Nat) : Int)), wV a, wV b] (fun _ => .t [wV r, boV true]) none := by
  cases hc : ([1, 2, 3, 4, 6, 5, 7, 11, 16, 17, 18, 19, 20, 22, 23, 24, 26, 27, 28, 29] : List Nat).contains n
  · have hn : Fm.two n a b = none := by
      have ne : ∀ k, ([1, 2, 3, 4, 6, 5, 7, 11, 16, 17, 18, 19, 20, 22, 23, 24, 26, 27, 28, 29] : List Nat).contains k = true → n ≠ k := fun k hk e => by subst e; rw [hc] at hk; cases hk
      unfold Fm.two
      rw [if_neg (ne 1 (by decide)), if_neg (ne 2 (by decide)), if_neg (ne 3 (by decide)), if_neg (ne 4 (by decide)), if_neg (ne 6 (by decide)), if_neg (ne 5 (by decide)), if_neg (ne 7 (by decide)), if_neg (ne 11 (by decide)), if_neg (ne 16 (by decide)), if_neg (ne 17 (by decide)), if_neg (ne 18 (by decide)), if_neg (ne 19 (by decide)), if_neg (ne 20 (by decide)), if_neg (ne 22 (by decide)), if_neg (ne 23 (by decide)), if_neg (ne 24 (by decide)), if_neg (ne 26 (by decide)), if_neg (ne 27 (by decide)), if_neg (ne 28 (by decide)), if_neg (ne 29 (by decide))]
    rw [hn] at h
    cases h
  · rw [List.contains_iff_mem] at hc
    simp only [List.mem_cons, List.not_mem_nil, or_false] at hc
    rcases hc with rfl | rfl | rfl | rfl | rfl | rfl | rfl | rfl | rfl | rfl | rfl | rfl | rfl | rfl | rfl | rfl | rfl | rfl | rfl | rfl
    · cases h; exact two_1 a b
    · cases h; exact two_2 a b
    · cases h; exact two_3 a b
    · cases h; exact two_4 a b
    · cases h; exact two_6 a b
    · cases h; exact two_5 a b
    · cases h; exact two_7 a b
    · cases h; exact two_11 a b
    · cases h; exact two_16 a b
    · cases h; exact two_17 a b
    · cases h; exact two_18 a b
    · cases h; exact two_19 a b
    · cases h; exact two_20 a b
    · cases h; exact two_else _ a b (by decide) _ _ (bitwise_22 a b)
    · cases h; exact two_else _ a b (by decide) _ _ (bitwise_23 a b)
    · cases h; exact two_else _ a b (by decide) _ _ (bitwise_24 a b)
    · cases h; exact two_else _ a b (by decide) _ _ (bitwise_26 a b)
    · cases h; exact two_else _ a b (by decide) _ _ (bitwise_27 a b)
    · cases h; exact two_else _ a b (by decide) _ _ (bitwise_28 a b)
    · cases h; exact two_else _ a b (by decide) _ _ (bitwise_29 a b)
theorem Two_no (n a b : Nat) (h : Fm.two n a b = none) : LF Tryz.prog 93 [.k (.int .u8 ((n : Nat) : Int)), wV a, wV b] (fun _ => .t [wV 0, boV false]) none := by
 cases hc : ([1, 2, 3, 4, 6, 5, 7, 11, 16, 17, 18, 19, 20, 22, 23, 24, 26, 27, 28, 29] : List Nat).contains n
 ·have ne : ∀ k, ([1, 2, 3, 4, 6, 5, 7, 11, 16, 17, 18, 19, 20, 22, 23, 24, 26, 27, 28, 29] : List Nat).contains k = true → n ≠ k := fun k hk e => by subst e; rw [hc] at hk; cases hk
  have h1 : ([1, 2, 3, 4, 6, 5, 7, 11, 16, 17, 18, 19, 20] : List Nat).contains n = false := by
   cases hd : ([1, 2, 3, 4, 6, 5, 7, 11, 16, 17, 18, 19, 20] : List Nat).contains n with
   | false => rfl
   | true =>
    rw [List.contains_iff_mem] at hd
    exact absurd rfl (ne n (List.contains_iff_mem.2 ((by decide : ∀ k ∈ ([1, 2, 3, 4, 6, 5, 7, 11, 16, 17, 18, 19, 20] : List Nat), k ∈ ([1, 2, 3, 4, 6, 5, 7, 11, 16, 17, 18, 19, 20, 22, 23, 24, 26, 27, 28, 29] : List Nat)) n hd)))
  have h2 : ([22, 23, 24, 26, 27, 28, 29] : List Nat).contains n = false := by
   cases hd : ([22, 23, 24, 26, 27, 28, 29] : List Nat).contains n with
   | false => rfl
   | true =>
    rw [List.contains_iff_mem] at hd
    exact absurd rfl (ne n (List.contains_iff_mem.2 ((by decide : ∀ k ∈ ([22, 23, 24, 26, 27, 28, 29] : List Nat), k ∈ ([1, 2, 3, 4, 6, 5, 7, 11, 16, 17, 18, 19, 20, 22, 23, 24, 26, 27, 28, 29] : List Nat)) n hd)))
  exact two_else n a b h1 0 false (bitwise_no n a b h2)
 ·rw [List.contains_iff_mem] at hc
  simp only [List.mem_cons, List.not_mem_nil, or_false] at hc
  rcases hc with rfl | rfl | rfl | rfl | rfl | rfl | rfl | rfl | rfl | rfl | rfl | rfl | rfl | rfl | rfl | rfl | rfl | rfl | rfl | rfl <;> cases h
end Fw
end Lf
open Go.RowKit Rg
namespace Lf
section
variable {P : Program} {o : Oper} {env : Env}
theorem run_fnNil {T Y : Nat} {b : BinOp} {x : Operand} {v : Value} {r rr : Bool} {w : World} {p1 p2 : Array TypeId} {p3 : Bool} (hu : P.underlying T = some (.func p1 p2 p3)) (hv : (v = .nilFunc ∧ r = true) ∨ (∃ f a c, v = .func f a c) ∧ r = false) (hb : (b = .eql ∧ rr = r) ∨ (b = .neq ∧ rr = !r)) {a : Act} (ho : o.op = .binOp b T x (.const .nilFunc) Y) (hx : a.eval x = v) :
  (execOp a.eval o).run P w = .ok (.value (.bool rr)) w := by
 have hx2 : a.eval (.const .nilFunc) = .nilFunc := rfl
 have q1 : (eqGuard b T x (.const .nilFunc) v .nilFunc).run P w = .ok () w := by
  unfold eqGuard
  rcases hb with ⟨rfl, _⟩ | ⟨rfl, _⟩ <;> rcases hv with ⟨rfl, _⟩ | ⟨⟨S, u, z, rfl⟩, _⟩ <;> rfl
 have e : Op.equal T v .nilFunc = Op.equalIn (9999 + 1) T v .nilFunc := rfl
 have q3 : (Op.equalIn (9999 + 1) T v .nilFunc).run P w = .ok r w := by
  rw [Op.equalIn, Sem.run_bind, run_underlying hu w]
  rcases hv with ⟨rfl, rfl⟩ | ⟨⟨S, u, z, rfl⟩, rfl⟩ <;> rfl
 have q2 : (binOp b T v .nilFunc).run P w = .ok (.bool rr) w := by
  rcases hb with ⟨rfl, rfl⟩ | ⟨rfl, rfl⟩
  ·rcases hv with ⟨rfl, rfl⟩ | ⟨⟨S, u, z, rfl⟩, rfl⟩ <;> (simp only [binOp, e, Sem.run_bind, q3, Result.andThen_ok]; rfl)
  ·rcases hv with ⟨rfl, rfl⟩ | ⟨⟨S, u, z, rfl⟩, rfl⟩ <;> (simp only [binOp, e, Sem.run_bind, q3, Result.andThen_ok]; rfl)
 simp only [execOp, ho, hx, hx2, Sem.run_bind, q1, Result.andThen_ok, q2]
 rfl
theorem Does.neFn0 {T Y : Nat} {x : Operand} {p1 p2 : Array TypeId} {p3 : Bool} (hu : P.underlying T = some (.func p1 p2 p3)) (ho : o.op = .binOp .neq T x (.const .nilFunc) Y) (hx : evo env x = some (.k .nilFunc)) : Does P o env (.k (.bool false)) [] :=
 .pure fun F g a w mem hr _ => by
  have h1 := rep_k (hr x (by simp [ho, Op.operands]) _ hx)
  exact ⟨_, run_fnNil hu (.inl ⟨h1, rfl⟩) (.inr ⟨rfl, rfl⟩) ho rfl, .k _⟩
theorem Does.neFnF {T Y : Nat} {x : Operand} {fn : Fn} {fi ca : List V} {p1 p2 : Array TypeId} {p3 : Bool} (hu : P.underlying T = some (.func p1 p2 p3)) (ho : o.op = .binOp .neq T x (.const .nilFunc) Y) (hx : evo env x = some (.f fn fi ca)) : Does P o env (.k (.bool true)) [] :=
 .pure fun F g a w mem hr _ => by
  have h1 := hr x (by simp [ho, Op.operands]) _ hx
  obtain ⟨q, y, z, hy⟩ : ∃ q y z, a.eval x = .func q y z := by generalize a.eval x = z at h1; cases h1; exact ⟨_, _, _, rfl⟩
  exact ⟨_, run_fnNil hu (.inr ⟨⟨q, y, z, hy⟩, rfl⟩) (.inr ⟨rfl, rfl⟩) ho rfl, .k _⟩
end
section
variable {P : Program} {o : Oper} {env : Env}
theorem Does.copyT {T Tx E Ex i gen off n sz : Nat} {x y : Operand} {t : Option Nat} {es ys : List V} (X : TOk P) {ti xi ei : TI} (ho : o.op = .call { callee := .builtin .copy, args := #[x, y], argTypes := #[T, Tx] }) (hx : evo env x = some (.w i gen sz off n)) (hy : evo env y = some (.s t ys))
  (hT : aget X.tab T = some ti) (hd : ti.d = .sl E) (hE : aget X.tab E = some ei) (hsz : ei.size = sz) (hX : aget X.tab Tx = some xi) (hdx : xi.d = .sl Ex) (hys : ∀ e ∈ ys, e.cells.length = sz) (hmn : n ≤ ys.length) (hle : off + n ≤ es.length) :
  Does P o env (.k (.int .i64 ((n : Nat) : Int))) [(i, some (.w E sz gen es), some (.w E sz gen (splice es off (ys.take n))))] := by
 subst hsz
 refine ⟨fun F g a w mem h1 h2 h3 h4 _ K Q hK => ?_⟩
 have hi := h4 _ _ _ (List.mem_cons_self ..)
 have hrx := h1 x (by simp [ho, Op.operands, Call.operands]) _ hx
 have hry := h1 y (by simp [ho, Op.operands, Call.operands]) _ hy
 have htl : (ys.take n).length = n := by rw [List.length_take]; omega
 have hyt : ∀ e ∈ ys.take n, e.cells.length = ei.size := fun e he => hys e (List.mem_of_mem_take he)
 obtain ⟨ao, c, ad, e1, hB, hxx, e3, e4⟩ := rep_w h2 hi hrx
 unfold Oper.wp
 rcases Nat.eq_zero_or_pos n with h0 | h0
 ·subst h0
  have hrun : (execOp a.eval o).run P w = .ok (.value (.int .i64 0)) w := by
   generalize hyy : a.eval y = yv at hry
   cases hry with
   | s0 =>
    have f0 : (Builtin.firstCells ei.size 0 (.slice none 0 0)).run P w = .ok #[] w := rfl
    cases ad <;> simp [execOp, ho, resolve, invoke, builtin, hxx, hyy, Builtin.copy_, run_underlying ((X.get hT).sl hd), Builtin.lenOf, (X.get hE).run_size, f0, storeCells, goInt]
   | se q =>
    have f0 := run_firstCells_some (P := P) w ei.size 0 q 0 0 [] (by simp) (by simp)
    cases ad <;> simp [execOp, ho, resolve, invoke, builtin, hxx, hyy, Builtin.copy_, run_underlying ((X.get hT).sl hd), Builtin.lenOf, (X.get hE).run_size, f0, storeCells, goInt]
   | @s _ _ _ b off' cap size' xs hn hm hp hs hx' hc ht =>
    have f0 := run_firstCells_some (P := P) w ei.size 0 ⟨b, off', none⟩ ys.length cap [] (by simp) (by simp)
    cases ad <;> simp [execOp, ho, resolve, invoke, builtin, hxx, hyy, Builtin.copy_, run_underlying ((X.get hT).sl hd), Builtin.lenOf, (X.get hE).run_size, f0, storeCells, goInt]
  rw [hrun]
  refine hK _ g _ (Ev.refl g _) (h2.congr fun j => ?_) h3 (.k _)
  show aget mem j = aget ((i, _) :: mem) j
  rw [aget_cons]
  split
  ·rename_i e; subst e
   rw [List.take_zero, show splice es off [] = es by simp [splice]]; exact hi
  ·rfl
 ·generalize hyy : a.eval y = yv at hry
  cases hry with
  | s0 => simp at hmn; omega
  | se => simp at hmn; omega
  | @s _ _ _ b off' cap size' xs hn hm hp hs hx' hc ht =>
   have hpre : ∀ (j : Nat) u, ((ys.take n).flatMap V.cells)[j]? = some u → (ys.flatMap V.cells)[j]? = some u := fun j u hj => by
    have e : ys.flatMap V.cells = (ys.take n).flatMap V.cells ++ (ys.drop n).flatMap V.cells := by rw [← List.flatMap_append, List.take_append_drop]
    rw [e, List.getElem?_append_left (List.getElem?_eq_some_iff.1 hj).1]
    exact hj
   have hrt : Rep w g (.s none (ys.take n)) (.slice (some ⟨b, off', none⟩) (ys.take n).length cap) :=
    .s xs (by omega) hm hp (fun e he => hs e (List.mem_of_mem_take he)) (fun j u hj => hx' j u (hpre j u hj)) (fun j u hj => hc j u (hpre j u hj)) fun r hr => by cases hr
   obtain ⟨news, hsrc, hone2, hfl, hrep2⟩ := rep_src (P := P) ((X.get hX).sl hdx) hrt hyt
   have hfc : (Builtin.firstCells ei.size n (.slice (some ⟨b, off', none⟩) ys.length cap)).run P w = .ok news.toArray w := by
    have := hsrc.cells
    rw [htl] at this
    exact this
   have hmin : Nat.min ys.length n = n := by simp only [Nat.min_def]; split <;> omega
   have hnl : news.length = (ys.take n).length * ei.size := by rw [← hfl, flat_len hyt]
   cases ao with
   | none => have := (buf_none hB).1; subst this; rw [List.length_nil] at hle; omega
   | some b2 =>
    have hbl := (buf_le hB).1
    have had := e4 (.inl (by omega))
    subst had
    obtain ⟨k1, k2, k3, k4⟩ := h2.setW h3 (k := off) (ys := ys.take n) (us := news) hi e1 (by rw [htl]; exact hle) (fun e he => ⟨hyt e he, hone2 e he⟩) hnl hrep2 hsrc.one P
    have hst := run_storeCells_cells (P := P) b2 (off * ei.size) news 0 w (by simpa using fun j hj => (k1 j hj).1) (by simpa using fun j hj => (k1 j hj).2) hsrc.one
    simp only [Nat.add_zero] at hst
    have hrun : (execOp a.eval o).run P w = .ok (.value (.int .i64 ((n : Nat) : Int))) (w.setCells b2 (off * ei.size) news) := by
     simp [execOp, ho, resolve, invoke, builtin, hxx, hyy, Builtin.copy_, run_underlying ((X.get hT).sl hd), Builtin.lenOf, hmin, (X.get hE).run_size, hfc, hst, goInt]
    rw [hrun]
    exact hK _ g _ k2 k3 k4 (.k _)
end
section
variable {P : Program} {F : Fr0} {N : Nat} {Q : LQ} {env : Env} {mem : Mem}
theorem RelM.cellweak {g : Gh} {w : World} {i j : Nat} {cs : List V} {v v' : V} (h : RelM F g mem w) (hi : aget mem i = some (.b cs)) (hj : cs[j]? = some v) (h1 : v'.one = true) (hw : ∀ (w : World) (g : Gh) (x : Value), Rep w g v x → Rep w g v' x) : RelM F g ((i, .b (cs.set j v')) :: mem) w := by
 have old : ∀ {k : Nat} {z : M}, aget ((i, M.b (cs.set j v')) :: mem) k = some z → ∃ z', aget mem k = some z' ∧ ∀ b o, fp g k z b o → fp g k z' b o := fun {k z} hk => by
  rw [aget_cons] at hk
  split at hk
  ·rename_i e; subst e; cases hk
   exact ⟨_, hi, fun b o ⟨off, q1, q2, q3⟩ => ⟨off, q1, q2, by simpa using q3⟩⟩
  ·exact ⟨_, hk, fun _ _ hf => hf⟩
 have non : ∀ k, aget ((i, M.b (cs.set j v')) :: mem) k = none → aget mem k = none := fun k hk => by
  rw [aget_cons] at hk
  split at hk
  ·cases hk
  ·exact hk
 refine ⟨fun k z hk => ?_, fun k z b o hk hf => ?_, fun k l z z' b o hij hk hl hf hf' => ?_, fun k hk => h.nbx k (non k hk), fun k hk => h.nrw k (non k hk), h.fut, h.loc⟩
 ·rw [aget_cons] at hk
  split at hk
  ·rename_i e; subst e; cases hk
   have hko := h.ob _ _ hi
   cases hko with
   | @b _ b off hg hb hB =>
    refine .b hg hb ⟨fun u hu => ?_, fun t u ht => ?_⟩
    ·rcases List.mem_or_eq_of_mem_set hu with hu | rfl
     ·exact hB.one u hu
     ·exact h1
    ·rw [List.getElem?_set] at ht
     split at ht
     ·rename_i e
      subst e
      split at ht
      ·cases ht
       obtain ⟨a1, a2, x, a3, a4⟩ := hB.at_ j v hj
       exact ⟨a1, a2, x, a3, hw _ _ _ a4⟩
      ·cases ht
     ·exact hB.at_ t u ht
  ·exact h.ob k z hk
 ·obtain ⟨y, q1, q2⟩ := old hk
  exact h.wr k y b o q1 (q2 b o hf)
 ·obtain ⟨y, q1, q2⟩ := old hk
  obtain ⟨y', q1', q2'⟩ := old hl
  exact h.dj k l y y' b o hij q1 q1' (q2 b o hf) (q2' b o hf')
theorem LC.cellweak {c : Code} {i : Nat} (j : Nat) {cs cs' : List V} {v : V} (v' : V) (hi : aget mem i = some (.b cs)) (hj : cs[j]? = some v) (h1 : v'.one = true) (hw : ∀ (w : World) (g : Gh) (x : Value), Rep w g v x → Rep w g v' x) (he : cs.set j v' = cs') (h : LC P F N c Q env ((i, .b cs') :: mem)) : LC P F N c Q env mem := ⟨fun F0 hx g a w hrel => by
 subst he
 exact h.go F0 hx g a w ⟨hrel.env, hrel.mem.cellweak hi hj h1 hw, hrel.kept, hrel.defers, hrel.size, hrel.big⟩⟩
end
end Lf
end Go.Proofs.YtffaobngpbaklaaGreatDoor

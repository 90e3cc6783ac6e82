/- A part of the proof: texts joined. -/
import Derived.Test.YtffaobngpbaklaaGreatDoorQ19ea2f23
set_option linter.unusedVariables false
set_option linter.unusedSimpArgs false
namespace Go.Proofs.YtffaobngpbaklaaGreatDoor
open Go.RowKit Rg Wm Ar
set_option linter.unusedVariables false
set_option maxRecDepth 100000
namespace Lf
namespace Fw
set_option maxHeartbeats 1000000 in
theorem reckon_21 (c inp : List UInt8) (g mg : Nat) (l : List UInt8) (sg : Nat) (r : List Nat) (pc : Nat) (o : List UInt8) (a : Nat) (hs : r.length ≤ 1000) : LM Tryz.prog 67 [.p 1000 0, .k (.int .u8 ((21 : Nat) : Int))] (frM c inp g mg l sg (a :: r) pc o) fun q m => q = .ret (boV true) ∧ m = frM c inp g mg l (sg + 1) (Fm.flag (decide (a % M256 = 0)) :: r) pc o := by
 have hq0 := limbs_len (a)
 have hq1 := limbs_len (Fm.flag true)
 have hq2 := limbs_len (Fm.flag false)
 have c1 := Pop c inp g mg l sg r pc o a (by omega)
 have c2 := Flag true
 have c3 := Flag false
 have hz := limbs_zero (x := a)
 by_cases h : a % M256 = 0
 ·rw [decide_eq_true h]
  have c4 := Push c inp g mg l sg r pc o (Fm.flag true) (by omega)
  have hz2 := hz.2 h
  clear h hz
  refine LM.enter tt Tryz.func67 rfl rfl rfl (by kernel_rfl) rfl rfl rfl (fun o mo h => by rw [h.2]; rfl) fun F _ => ?_
  exact wk trueW trueW trueW
 ·rw [decide_eq_false h]
  have c4 := Push c inp g mg l sg r pc o (Fm.flag false) (by omega)
  have hz2 : ¬ limbs a = List.replicate 4 0 := fun k => h (hz.1 k)
  clear h hz
  refine LM.enter tt Tryz.func67 rfl rfl rfl (by kernel_rfl) rfl rfl rfl (fun o mo h => by rw [h.2]; rfl) fun F _ => ?_
  exact wk trueW trueW trueW
set_option maxHeartbeats 1000000 in
theorem reckon_25 (c inp : List UInt8) (g mg : Nat) (l : List UInt8) (sg : Nat) (r : List Nat) (pc : Nat) (o : List UInt8) (a : Nat) (hs : r.length ≤ 1000) : LM Tryz.prog 67 [.p 1000 0, .k (.int .u8 ((25 : Nat) : Int))] (frM c inp g mg l sg (a :: r) pc o) fun q m => q = .ret (boV true) ∧ m = frM c inp g mg l (sg + 1) (notN a :: r) pc o := by
 have hq0 := limbs_len (a)
 have hq1 := limbs_len (notN a)
 have c1 := Pop c inp g mg l sg r pc o a (by omega)
 have c2 := Tw.Not a
 have c3 := Push c inp g mg l sg r pc o (notN a) (by omega)
 generalize notN a = z at *
 refine LM.enter tt Tryz.func67 rfl rfl rfl (by kernel_rfl) rfl rfl rfl (fun o mo h => by rw [h.2]; rfl) fun F _ => ?_
 exact wk trueW trueW trueW
set_option maxHeartbeats 1000000 in
theorem reckon_8 (c inp : List UInt8) (g mg : Nat) (l : List UInt8) (sg : Nat) (r : List Nat) (pc : Nat) (o : List UInt8) (a b d : Nat) (hs : r.length ≤ 1000) : LM Tryz.prog 67 [.p 1000 0, .k (.int .u8 ((8 : Nat) : Int))] (frM c inp g mg l sg (a :: b :: d :: r) pc o) fun q m => q = .ret (boV true) ∧ m = frM c inp g mg l (sg + 1) (amW a b d :: r) pc o := by
 have hq0 := limbs_len (a)
 have hq1 := limbs_len (b)
 have hq2 := limbs_len (d)
 have hq3 := limbs_len (amW a b d)
 have c1 := Pop c inp g mg l sg (b :: d :: r) pc o a (by simp only [List.length_cons]; omega)
 have c2 := Pop c inp g mg l sg (d :: r) pc o b (by simp only [List.length_cons]; omega)
 have c3 := Pop c inp g mg l sg r pc o d (by omega)
 have c4 := Wo.AddMod a b d
 have c5 := Push c inp g mg l sg r pc o (amW a b d) (by omega)
 generalize amW a b d = z at *
 refine LM.enter tt Tryz.func67 rfl rfl rfl (by kernel_rfl) rfl rfl rfl (fun o mo h => by rw [h.2]; rfl) fun F _ => ?_
 exact wk trueW trueW trueW
set_option maxHeartbeats 1000000 in
theorem reckon_9 (c inp : List UInt8) (g mg : Nat) (l : List UInt8) (sg : Nat) (r : List Nat) (pc : Nat) (o : List UInt8) (a b d : Nat) (hs : r.length ≤ 1000) : LM Tryz.prog 67 [.p 1000 0, .k (.int .u8 ((9 : Nat) : Int))] (frM c inp g mg l sg (a :: b :: d :: r) pc o) fun q m => q = .ret (boV true) ∧ m = frM c inp g mg l (sg + 1) (mmW a b d :: r) pc o := by
 have hq0 := limbs_len (a)
 have hq1 := limbs_len (b)
 have hq2 := limbs_len (d)
 have hq3 := limbs_len (mmW a b d)
 have c1 := Pop c inp g mg l sg (b :: d :: r) pc o a (by simp only [List.length_cons]; omega)
 have c2 := Pop c inp g mg l sg (d :: r) pc o b (by simp only [List.length_cons]; omega)
 have c3 := Pop c inp g mg l sg r pc o d (by omega)
 have c4 := Wo.MulMod a b d
 have c5 := Push c inp g mg l sg r pc o (mmW a b d) (by omega)
 generalize mmW a b d = z at *
 refine LM.enter tt Tryz.func67 rfl rfl rfl (by kernel_rfl) rfl rfl rfl (fun o mo h => by rw [h.2]; rfl) fun F _ => ?_
 exact wk trueW trueW trueW
set_option maxHeartbeats 1000000 in
theorem reckon_10 (c inp : List UInt8) (g mg : Nat) (l : List UInt8) (sg : Nat) (r : List Nat) (pc : Nat) (o : List UInt8) (a b : Nat) (hs : r.length ≤ 1000) (hg : g < 18446744073709551616) (hc : 10 * (Pk.numL (b % M256)).length ≤ g) : LM Tryz.prog 67 [.p 1000 0, .k (.int .u8 ((10 : Nat) : Int))] (frM c inp g mg l sg (a :: b :: r) pc o) fun q m => q = .ret (boV true) ∧ m = frM c inp (g - 10 * (Pk.numL (b % M256)).length) mg l (sg + 1) (a ^ (b % M256) :: r) pc o := by
 have hq0 := limbs_len (a)
 have hq1 := limbs_len (b)
 have hq2 := limbs_len (a ^ (b % M256))
 have c1 := Pop c inp g mg l sg (b :: r) pc o a (by simp only [List.length_cons]; omega)
 have c2 := Pop c inp g mg l sg r pc o b (by omega)
 have c3 := Pw.Num b
 have hnl : (Pk.numL (b % M256)).length ≤ 32 := Pk.numL_len (by rw [← m256_bytes]; exact mlt b)
 have c4 := Pay_ok c inp g mg l sg r pc o _ hc hg
 have c5 := Wo.Exp a b
 have c6 := Push c inp (g - 10 * (Pk.numL (b % M256)).length) mg l sg r pc o (a ^ (b % M256)) (by omega)
 generalize a ^ (b % M256) = z at *
 generalize Pk.numL (b % M256) = w at *
 refine LM.enter tt Tryz.func67 rfl rfl rfl (by kernel_rfl) rfl rfl rfl (fun o mo h => by rw [h.2]; rfl) fun F _ => ?_
 exact wk trueW trueW trueW
set_option maxHeartbeats 1000000 in
theorem reckon_10g (c inp : List UInt8) (g mg : Nat) (l : List UInt8) (sg : Nat) (r : List Nat) (pc : Nat) (o : List UInt8) (a b : Nat) (hs : r.length ≤ 1000) (hc : g < 10 * (Pk.numL (b % M256)).length) : LM Tryz.prog 67 [.p 1000 0, .k (.int .u8 ((10 : Nat) : Int))] (frM c inp g mg l sg (a :: b :: r) pc o) fun q m => q = .pan (fltV 10) ∧ m = frM c inp g mg l sg r pc o := by
 have hq0 := limbs_len (a)
 have hq1 := limbs_len (b)
 have c1 := Pop c inp g mg l sg (b :: r) pc o a (by simp only [List.length_cons]; omega)
 have c2 := Pop c inp g mg l sg r pc o b (by omega)
 have c3 := Pw.Num b
 have hnl : (Pk.numL (b % M256)).length ≤ 32 := Pk.numL_len (by rw [← m256_bytes]; exact mlt b)
 have p1 := Pay_no c inp g mg l sg r pc o _ hc
 have hp1 : PanIn 15 6 := ⟨trivial⟩
 generalize Pk.numL (b % M256) = w at *
 refine LM.enter tt Tryz.func67 rfl rfl rfl (by kernel_rfl) rfl rfl rfl (fun o mo h => by rw [h.2]; rfl) fun F _ => ?_
 exact wk trueW trueW trueW
set_option maxHeartbeats 1000000 in
theorem reckon_80 (c inp : List UInt8) (g mg : Nat) (l : List UInt8) (sg : Nat) (r : List Nat) (pc : Nat) (o : List UInt8) (a : Nat) (hs : r.length ≤ 1000) : LM Tryz.prog 67 [.p 1000 0, .k (.int .u8 ((80 : Nat) : Int))] (frM c inp g mg l sg (a :: r) pc o) fun q m => q = .ret (boV true) ∧ m = frM c inp g mg l sg r pc o := by
 have hq0 := limbs_len (a)
 have c1 := Pop c inp g mg l sg r pc o a (by omega)
 refine LM.enter tt Tryz.func67 rfl rfl rfl (by kernel_rfl) rfl rfl rfl (fun o mo h => by rw [h.2]; rfl) fun F _ => ?_
 exact wk trueW trueW trueW
set_option maxHeartbeats 1000000 in
theorem reckon_else (c inp : List UInt8) (g mg : Nat) (l : List UInt8) (sg sg2 : Nat) (st st2 : List Nat) (pc : Nat) (o : List UInt8) (n : Nat) (hc : ([21, 25, 8, 9, 10, 80] : List Nat).contains n = false) (z : Bool) (hb : LM Tryz.prog 85 [.p 1000 0, .k (.int .u8 ((n : Nat) : Int))] (frM c inp g mg l sg st pc o) fun q m => q = .ret (boV z) ∧ m = frM c inp g mg l sg2 st2 pc o) : LM Tryz.prog 67 [.p 1000 0, .k (.int .u8 ((n : Nat) : Int))] (frM c inp g mg l sg st pc o) fun q m => q = .ret (boV z) ∧ m = frM c inp g mg l sg2 st2 pc o := by
 have c1 := hb
 have k21 : NE (n : Int) 21 := ne_of (k := 21) hc (by decide)
 have k25 : NE (n : Int) 25 := ne_of (k := 25) hc (by decide)
 have k8 : NE (n : Int) 8 := ne_of (k := 8) hc (by decide)
 have k9 : NE (n : Int) 9 := ne_of (k := 9) hc (by decide)
 have k10 : NE (n : Int) 10 := ne_of (k := 10) hc (by decide)
 have k80 : NE (n : Int) 80 := ne_of (k := 80) hc (by decide)
 clear hc hb
 refine LM.enter tt Tryz.func67 rfl rfl rfl (by kernel_rfl) rfl rfl rfl (fun o mo h => by rw [h.2]; rfl) fun F _ => ?_
 exact wk trueW trueW trueW
end Fw
end Lf
end Go.Proofs.YtffaobngpbaklaaGreatDoor

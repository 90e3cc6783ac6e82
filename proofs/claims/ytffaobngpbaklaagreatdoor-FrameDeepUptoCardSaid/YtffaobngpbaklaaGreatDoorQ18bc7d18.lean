/- A part of the proof: texts joined. -/
import Derived.Test.YtffaobngpbaklaaGreatDoorQ176705e0
set_option linter.unusedVariables false
set_option linter.unusedSimpArgs false
namespace Go.Proofs.YtffaobngpbaklaaGreatDoor
open Go.RowKit Rg Wm Ar
set_option linter.unusedVariables false
set_option maxRecDepth 100000
namespace Lf
abbrev fltV (e : Int) : V := .i 78 (.a [.k (.int .i64 e)])
theorem sk_take (a : Nat) (r : List Nat) : (sk (a :: r)).take r.length = sk r := by
 rw [sk]
 exact List.take_left' (sk_len r)
theorem sk_flat (st : List Nat) : ((sk st).flatMap V.cells).length = st.length * 4 := by
 rw [flat_len sk_cells, sk_len]
theorem sk_part {st : List Nat} {t : Nat} (ht : t < st.length) : ∀ ti : TI, ti.d.agg = true → ti.size = 4 → ti.part ((sk st).flatMap V.cells) (t * 4) = some (wV (st.getD (st.length - 1 - t) 0)) := fun ti hd hs => by
 have hg : (sk st)[t]? = some (wV (st.getD (st.length - 1 - t) 0)) := by
  rw [sk_eq, List.getElem?_map, List.getElem?_reverse ht, List.getD_eq_getElem?_getD, List.getElem?_eq_getElem (show st.length - 1 - t < st.length by omega)]
  rfl
 have hl := sk_flat st
 have hw : (((sk st).flatMap V.cells).drop (t * 4)).take 4 = (limbs (st.getD (st.length - 1 - t) 0)).map uK := by
  have hlt : t < (sk st).length := by rw [sk_len]; exact ht
  rw [← flatV_drop sk_cells, List.drop_eq_getElem_cons hlt]
  rw [List.getElem?_eq_getElem hlt] at hg
  cases hg' : (sk st)[t] with
  | _ =>
   rw [hg', Option.some.injEq] at hg
   rw [hg, List.flatMap_cons]
   exact List.take_left' ((List.length_map _).trans (limbs_len _))
 simp only [TI.part, hd, cond_true, hs]
 by_cases h0 : (Nat.beq (t * 4) 0 && Nat.beq ((sk st).flatMap V.cells).length 4) = true
 ·rw [h0, cond_true]
  rw [Bool.and_eq_true] at h0
  have h1 := Nat.eq_of_beq_eq_true h0.1
  have h2 := Nat.eq_of_beq_eq_true h0.2
  rw [h1, List.drop_zero, List.take_of_length_le (by omega)] at hw
  rw [hw]
 ·rw [Bool.eq_false_iff.2 h0, cond_false, show Nat.ble (t * 4 + 4) ((sk st).flatMap V.cells).length = true from Nat.ble_eq_true_of_le (by rw [hl]; omega), cond_true, hw]
theorem limb0s' (x : Nat) (h : x % M256 < 1073741824) : (limbs x).getD 0 default = x % M256 := by
 rw [← limbs_eq (Nat.mod_mod x M256)]
 exact limb0 _ (by unfold m64; omega)
theorem put_rep {n : Nat} {b : List UInt8} (h : b.length ≤ n) : Lf.put (List.replicate n 0) 0 b = b ++ List.replicate (n - b.length) 0 := by
 rw [Lf.put, List.take_zero, List.nil_append, Nat.zero_add, List.drop_replicate]
theorem put_full {l b : List UInt8} (h : b.length = l.length) : Lf.put l 0 b = b := by
 rw [Lf.put, List.take_zero, List.nil_append, Nat.zero_add, List.drop_of_length_le (by omega), List.append_nil]
namespace Fw
theorem Fail (e : Int) : LM Tryz.prog 63 [.k (.int .i64 e)] [] fun q m => q = .pan (fltV e) ∧ m = [] := by
 have hp1 : PanIn 0 3 := ⟨trivial⟩
 refine LM.enter tt Tryz.func63 rfl rfl rfl (by kernel_rfl) rfl rfl rfl (fun o mo h => by rw [h.2]; rfl) fun F _ => ?_
 exact wk trueW trueW trueW
set_option maxHeartbeats 1000000 in
theorem Push (c inp : List UInt8) (g mg : Nat) (l : List UInt8) (sg : Nat) (st : List Nat) (pc : Nat) (o : List UInt8) (x : Nat) (hs : st.length ≤ 100000) : LM Tryz.prog 65 [.p 1000 0, wV x] (frM c inp g mg l sg st pc o) fun q m => q = .ret (.t []) ∧ m = frM c inp g mg l (sg + 1) (x :: st) pc o := by
 have hlx := limbs_len x
 have hsl := sk_len st
 have hsc := sk_cells (st := st)
 refine LM.enter tt Tryz.func65 rfl rfl rfl (by kernel_rfl) rfl rfl rfl (fun o mo h => by rw [h.2]; rfl) fun F _ => ?_
 exact wk trueW trueW trueW
set_option maxHeartbeats 1000000 in
theorem Pop (c inp : List UInt8) (g mg : Nat) (l : List UInt8) (sg : Nat) (st : List Nat) (pc : Nat) (o : List UInt8) (x : Nat) (hs : st.length ≤ 100000) : LM Tryz.prog 61 [.p 1000 0] (frM c inp g mg l sg (x :: st) pc o) fun q m => q = .ret (wV x) ∧ m = frM c inp g mg l sg st pc o := by
 have hlx := limbs_len x
 have hsl := sk_len (x :: st)
 have hsc := sk_cells (st := x :: st)
 have hst := sk_take x st
 have hw : IntKind.i64.wrap (((x :: st).length : Int) - 1) = ((st.length : Nat) : Int) := by rw [wrap_i64 (by rw [List.length_cons]; omega), List.length_cons]; omega
 have hlt : st.length < (x :: st).length := Nat.lt_succ_self _
 have ld1 := sk_part (st := x :: st) (t := st.length) (Nat.lt_succ_self _)
 have e1 : (x :: st).getD ((x :: st).length - 1 - st.length) 0 = x := by
  rw [List.length_cons, show st.length + 1 - 1 - st.length = 0 by omega]; rfl
 rw [e1] at ld1
 have hsr : ShrAt 1000 4 1002 := ⟨trivial⟩
 refine LM.enter tt Tryz.func61 rfl rfl rfl (by kernel_rfl) rfl rfl rfl (fun o mo h => by rw [h.2]; rfl) fun F _ => ?_
 exact wk trueW trueW trueW
theorem Pay_ok (c inp : List UInt8) (g mg : Nat) (l : List UInt8) (sg : Nat) (st : List Nat) (pc : Nat) (o : List UInt8) (n : Nat) (h : n ≤ g) (hg : g < 18446744073709551616) : LM Tryz.prog 76 [.p 1000 0, uK n] (frM c inp g mg l sg st pc o) fun q m => q = .ret (.t []) ∧ m = frM c inp (g - n) mg l sg st pc o := by
 have hw : IntKind.u64.wrap ((g : Int) - (n : Int)) = ((g - n : Nat) : Int) := by rw [wrap_u64 (by omega)]; omega
 refine LM.enter tt Tryz.func76 rfl rfl rfl (by kernel_rfl) rfl rfl rfl (fun o mo h => by rw [h.2]; rfl) fun F _ => ?_
 exact wk trueW trueW trueW
theorem Pay_no (c inp : List UInt8) (g mg : Nat) (l : List UInt8) (sg : Nat) (st : List Nat) (pc : Nat) (o : List UInt8) (n : Nat) (h : g < n) : LM Tryz.prog 76 [.p 1000 0, uK n] (frM c inp g mg l sg st pc o) fun q m => q = .pan (fltV 10) ∧ m = frM c inp g mg l sg st pc o := by
 have p1 := Fail 10
 have hp1 : PanIn 1 0 := ⟨trivial⟩
 refine LM.enter tt Tryz.func76 rfl rfl rfl (by kernel_rfl) rfl rfl rfl (fun o mo h => by rw [h.2]; rfl) fun F _ => ?_
 exact wk trueW trueW trueW
theorem words_ (n : Nat) (hn : n < 18446744073709551616) : LF Tryz.prog 97 [uK n] (fun _ => uK (Fm.words n)) none := by
 by_cases h : n % 32 > 0
 ·have e : Fm.words n = n / 32 + 1 := by unfold Fm.words; omega
  rw [e]
  refine LFx.mk' tt Tryz.func97 rfl rfl rfl (by kernel_rfl) rfl rfl fun F => ?_
  exact wk trueW trueW trueW
 ·have e : Fm.words n = n / 32 := by unfold Fm.words; omega
  rw [e]
  refine LFx.mk' tt Tryz.func97 rfl rfl rfl (by kernel_rfl) rfl rfl fun F => ?_
  exact wk trueW trueW trueW
abbrev moreV (k : Nat) : V := .f (.func 96) [] [.q [uK k]]
theorem more_ (k n : Nat) (hk : k ≤ 100) (hn : n ≤ 1000000) : LF Tryz.prog 96 [uK n, .q [uK k]] (fun _ => uK (k * Fm.words n)) none := by
 have c1 := words_ n (by omega)
 have hw : Fm.words n ≤ 40000 := by unfold Fm.words; omega
 have hm : k * Fm.words n ≤ 100 * 40000 := Nat.mul_le_mul hk hw
 generalize Fm.words n = z at *
 refine LFx.mk' tt Tryz.func96 rfl rfl rfl (by kernel_rfl) rfl rfl fun F => ?_
 exact wk trueW trueW trueW
theorem PerWord (k : Nat) (hk : k ≤ 100) : LF Tryz.prog 87 [uK k] (fun _ => moreV k) none := by
 have hfb : FrzBox 1 1 := ⟨⟩
 refine LFx.mk' tt Tryz.func87 rfl rfl rfl (by kernel_rfl) rfl rfl fun F => ?_
 exact wk trueW trueW trueW
set_option maxHeartbeats 1000000 in
theorem Cut (b : List UInt8) (f n : Nat) (hb : b.length < 1073741824) (hn : n ≤ 1000000) : LF Tryz.prog 66 [.s none (b.map bK), wV f, .k (.int .i64 ((n : Nat) : Int))] (fun _ => .s none ((Fm.cut b (f % M256) n).map bK)) none := by
  have hlf := limbs_len f
  have c1 := Wo.IntW b.length (by unfold m64; omega)
  have c2 := Wo.Cmp f b.length
  have hci := cmp_lt (x := f) (y := b.length)
  have hbm : b.length % M256 = b.length := Nat.mod_eq_of_lt (by unfold M256 m64; omega)
  rw [hbm] at hci
  have hfz : FrzAt 6 9 := ⟨⟩
  by_cases h : Wd.cmp f b.length < 0
  · have hf := hci.1 h
    have hf0 := limb0s' f (by omega)
    have hkl : (limbs f).getD 0 default < b.length := by rw [hf0]; exact hf
    generalize Wd.cmp f b.length = z at *
    unfold Fm.cut
    rw [← hf0]
    generalize hkk : (limbs f).getD 0 default = k at *
    clear hci hf hf0 hbm
    rcases Nat.lt_or_ge (b.length - k) n with h2 | h2
    · have hv1 : V.s none ((Lf.put (List.replicate n 0) 0 (b.drop k)).map bK) = V.s none (((b.drop k).take n ++ List.replicate (n - (b.length - k)) 0).map bK) := by
        rw [List.take_of_length_le (by rw [List.length_drop]; omega), put_rep (by rw [List.length_drop]; omega), List.length_drop]
      have hdl : (b.drop k).length = b.length - k := List.length_drop
      have hpl : (Lf.put (List.replicate n 0) 0 (b.drop k)).length = n := by rw [put_len (by rw [hdl, List.length_replicate]; omega), List.length_replicate]
      subst hkk
      refine LFx.mk' tt Tryz.func66 rfl rfl rfl (by kernel_rfl) rfl rfl fun F => ?_
      exact wk trueW trueW trueW
    · have hv1 : V.s none (((b.drop k).take n).map bK) = V.s none (((b.drop k).take n ++ List.replicate (n - (b.length - k)) 0).map bK) := by
        rw [show n - (b.length - k) = 0 by omega, List.replicate_zero, List.append_nil]
      have hdl : (b.drop k).length = b.length - k := List.length_drop
      have hdt : ((b.drop k).take n).length = n := by rw [List.length_take]; omega
      subst hkk
      refine LFx.mk' tt Tryz.func66 rfl rfl rfl (by kernel_rfl) rfl rfl fun F => ?_
      refine wk ?_ trueW trueW
      refine DR.ww rfl rfl (Does.copyT (n := n) tt rfl rfl rfl rfl rfl rfl rfl rfl rfl sz' (by rw [List.length_map]; omega) (by rw [List.length_map, List.length_replicate]; omega)) rfl rfl ?_
      rw [List.map_take.symm, splice_put, put_full (by rw [hdt, List.length_replicate])]
      exact wk trueW trueW trueW
  · have hf : b.length ≤ f % M256 := Nat.le_of_not_lt fun e => h (hci.2 e)
    generalize Wd.cmp f b.length = z at *
    have hv1 : V.s none ((List.replicate n 0).map bK) = V.s none ((Fm.cut b (f % M256) n).map bK) := by
      unfold Fm.cut
      rw [List.drop_of_length_le hf, List.take_nil, List.nil_append, show b.length - f % M256 = 0 by omega, Nat.sub_zero]
    clear hci hf hbm
    refine LFx.mk' tt Tryz.func66 rfl rfl rfl (by kernel_rfl) rfl rfl fun F => ?_
    exact wk trueW trueW trueW
end Fw
end Lf
namespace Lf
section
end
end Lf
namespace Lf
section
end
end Lf
namespace Lf
end Lf
namespace Lf
end Lf
end Go.Proofs.YtffaobngpbaklaaGreatDoor

/- A part of the proof: texts joined. -/
import Derived.Test.YtkbimhccaacobaaQ1470a980
namespace Go.Proofs.Ytkbimhccaacobaa
open Go.RowKit Rg Wm Ar
set_option linter.unusedVariables false
set_option maxRecDepth 100000
namespace Lf
open Tr
def upK (ks : List Rn) (i : Nat) : Fin 16 → Nd := fun j => if j.val < i then toN (ks.getD j.val default) else .no
theorem up_zero (ks : List Rn) : upK ks 0 = none16 := by funext j; unfold upK none16; rw [if_neg (Nat.not_lt_zero _)]
theorem up_succ (ks : List Rn) {i : Nat} (h : i < 16) : setK (upK ks i) ⟨i, h⟩ (toN (ks.getD i default)) = upK ks (i + 1) := by
 funext j
 unfold setK upK
 by_cases hj : j = ⟨i, h⟩
 ·subst hj; rw [if_pos rfl, if_pos (by show i < i + 1; omega)]
 ·have hne : j.val ≠ i := fun e => hj (Fin.ext e)
  rw [if_neg hj]
  by_cases h2 : j.val < i
  ·rw [if_pos h2, if_pos (by omega)]
  ·rw [if_neg h2, if_neg (by omega)]
theorem up_all (ks : List Rn) : upK ks 16 = fun i => toN (ks.getD i.val default) := by
 funext j; unfold upK; rw [if_pos j.isLt]
theorem fk_none (v : List UInt8) : [V.k .nilIface, V.k .nilIface, V.k .nilIface, V.k .nilIface, V.k .nilIface, V.k .nilIface, V.k .nilIface, V.k .nilIface, V.k .nilIface, V.k .nilIface, V.k .nilIface, V.k .nilIface, V.k .nilIface, V.k .nilIface, V.k .nilIface, V.k .nilIface, bV v] = fkC none16 v := by
 rw [fk_list]
 simp only [none16, ndV_no]
namespace Te
set_option maxHeartbeats 4000000 in
theorem inner_ : ∀ (n : Nat) (x : Rn) (d : Nat), x.size ≤ n → n < 1000000000 → rt x d = true → LF Try.prog 59 [rnV x] (fun _ => ndV (toN x)) none := by
 intro n
 induction n with
 | zero => intro x d hx; obtain ⟨k, p, v, ks⟩ := x; rw [size_eq] at hx; omega
 | succ n ih =>
  intro x d hx hn hr
  obtain ⟨k, p, v, ks⟩ := x
  rw [size_eq] at hx
  have hkl := Tr.sizeL_len ks
  have kid : ∀ i, i < ks.length → ∀ e, rt (ks.getD i default) e = true → LF Try.prog 59 [rnV (ks.getD i default)] (fun _ => ndV (toN (ks.getD i default))) none := fun i hi e he => by
   have := sizeL_get hi
   exact ih _ e (by omega) (by omega) he
  clear ih
  have hrf := tr_refs
  have hcv := tr_cv
  simp only [rnV, rnC_eq]
  by_cases h0 : k = 0
  ·subst h0
   rw [show toN (.mk 0 p v ks) = .no by rw [toN_eq]; rfl, ndV_no]
   clear kid hr
   refine LFx.mk' tt Try.func59 rfl rfl rfl (by kernel_rfl) rfl rfl fun F => ?_
   exact wk trueW trueW trueW
  by_cases h1 : k = 1
  ·subst h1
   rw [rt_eq] at hr
   simp only [Int.reduceEq, if_true, if_false, Bool.and_eq_true, decide_eq_true_eq] at hr
   rw [show toN (.mk 1 p v ks) = .leaf (pOf p) v by rw [toN_eq]; rfl, ndV_leaf, pB_of hr.1.1.1]
   clear kid hr
   refine LFx.mk' tt Try.func59 rfl rfl rfl (by kernel_rfl) rfl rfl fun F => ?_
   exact wk trueW trueW trueW
  by_cases h2 : k = 2
  ·subst h2
   rw [rt_eq] at hr
   simp only [Int.reduceEq, if_true, if_false, Bool.and_eq_true, decide_eq_true_eq] at hr
   obtain ⟨⟨⟨⟨_, a2⟩, a3⟩, a4⟩, a5⟩ := hr
   have c1 := kid 0 (by omega) _ (rtL_get.1 a5 0 (by omega))
   rw [show toN (.mk 2 p v ks) = .road (pOf p) (toN (ks.getD 0 default)) by rw [toN_eq]; rfl, ndV_road, pB_of a2]
   have hk4 := rnC_len (ks.getD 0 default)
   obtain ⟨kk, vv, hf⟩ : ∃ kk vv, toN (ks.getD 0 default) = .fork kk vv := by
    revert a4
    generalize ks.getD 0 default = y
    intro a4
    obtain ⟨k', p', v', ks'⟩ := y
    have : k' = 3 := a4
    subst this
    rw [toN_eq]; exact ⟨_, _, rfl⟩
   rw [hf, ndV_fork] at c1 ⊢
   clear kid a4 a5 hf
   refine LFx.mk' tt Try.func59 rfl rfl rfl (by kernel_rfl) rfl rfl fun F => ?_
   exact wk trueW trueW trueW
  by_cases h3 : k = 3
  ·subst h3
   rw [rt_eq] at hr
   simp only [Int.reduceEq, if_true, if_false, Bool.and_eq_true, decide_eq_true_eq] at hr
   obtain ⟨⟨⟨⟨a1, _⟩, _⟩, a4⟩, _⟩ := hr
   have hrt := rtL_get.1 a4
   rw [show toN (.mk 3 p v ks) = .fork (fun i => toN (ks.getD i.val default)) v by rw [toN_eq]; rfl, ndV_fork, ← up_all]
   refine LFx.mk' tt Try.func59 rfl rfl rfl (by kernel_rfl) rfl rfl fun F => ?_
   refine wk ?_ trueW trueW
   refine LC.boxeq 3 rfl (fk_none v) ?_
   rw [← up_zero ks]
   refine LC.loopN (fun i => [(3, .p 3 0), (33, .s none (ks.map rnV)), (34, .k (.int .i64 ((ks.length : Nat) : Int))), (35, .k (.int .i64 ((i : Nat) : Int)))]) (fun i => [(3, .b (fkC (upK ks i) v))]) (fun i => i ≤ ks.length) ((ks.length - ·)) (0) (by omega) ⟨rfl, rfl, rfl, rfl, trivial⟩ ⟨rfl, trivial⟩ rfl rfW rfW ?_
   intro i hi
   have hfk := fk_len (upK ks i) v
   rcases Nat.lt_or_ge i ks.length with h | h
   ·have c1 := kid i h _ (hrt i h)
    have hk4 := rnC_len (ks.getD i default)
    have sp1 := @fk_set (upK ks i) v ⟨i, by omega⟩ (toN (ks.getD i default))
    rw [up_succ] at sp1
    have ho1 := nd_ok (toN (ks.getD i default))
    have ho2 : (ndV (toN (ks.getD i default))).cells.length = 1 := by rw [nd_cells]; rfl
    have hok : i + 1 ≤ ks.length := h
    clear kid a4 hrt
    exact wk trueW trueW trueW
   ·obtain rfl : i = ks.length := by omega
    rw [a1]
    have hfk := fk_len (upK ks 16) v
    clear kid a4 hrt
    exact wk trueW trueW trueW
  ·rw [rt_eq, if_neg h0, if_neg h1, if_neg h2, if_neg h3] at hr
   cases hr
end Te
end Lf
open Go.RowKit Rg Wm Ar
set_option linter.unusedVariables false
set_option maxRecDepth 100000
namespace Lf
open Tr
theorem nd_ifc {n : Nd} (h : isNo n = false) : ∃ T u, ndV n = .i T u := by
 cases n with
 | no => cases h
 | leaf p v => exact ⟨_, _, ndV_leaf p v⟩
 | road p k => exact ⟨_, _, ndV_road p k⟩
 | fork ks v => exact ⟨_, _, ndV_fork ks v⟩
def kT (ks : Fin 16 → Nd) (i : Nat) : List (Fin 16) := ((List.finRange 16).take i).filter fun j => !isNo (ks j)
def lastK (l : List (Fin 16)) : Nat := (l.getLast?.map Fin.val).getD 0
theorem kT_all (ks : Fin 16 → Nd) : kT ks 16 = kidsOf ks := by
 unfold kT kidsOf
 rw [List.take_of_length_le (by rw [List.length_finRange]; exact Nat.le_refl 16)]
theorem kT_succ (ks : Fin 16 → Nd) {i : Nat} (h : i < 16) : kT ks (i + 1) = kT ks i ++ (if isNo (ks ⟨i, h⟩) then [] else [⟨i, h⟩]) := by
 unfold kT
 rw [List.take_succ_eq_append_getElem (by rw [List.length_finRange]; exact h), List.filter_append, List.getElem_finRange]
 congr 1
 show List.filter _ [(⟨i, h⟩ : Fin 16)] = _
 cases hn : isNo (ks ⟨i, h⟩) <;> simp [hn]
theorem lastK_snoc (l : List (Fin 16)) (x : Fin 16) : lastK (l ++ [x]) = x.val := by unfold lastK; simp
theorem kT_len (ks : Fin 16 → Nd) (i : Nat) : (kT ks i).length ≤ i := by
 unfold kT
 exact Nat.le_trans (List.length_filter_le _ _) (by rw [List.length_take]; omega)
namespace Te
set_option maxHeartbeats 4000000 in
theorem with_ (pa : Pa) (a : Nd) (hl : pa.length + plen a < 1000000000) : LF Try.prog 130 [.a (fkC none16 []), bV (pB pa), ndV a] (fun _ => .a (fkC (kids1 pa a) (val1 pa a))) none := by
 have hrf := tr_refs
 have hcv := tr_cv
 have hfk := fk_len none16 []
 cases pa with
 | nil =>
  have h0 : (pB []).length = 0 := rfl
  show LF _ _ _ (fun _ => .a (fkC none16 (Tr.valOf a))) none
  cases a with
  | no =>
   rw [ndV_no]
   show LF _ _ _ (fun _ => .a (fkC none16 [])) none
   refine LFx.mk' tt Try.func130 rfl rfl rfl (by kernel_rfl) rfl rfl fun F => ?_
   exact wk trueW trueW trueW
  | leaf p v =>
   rw [ndV_leaf]
   show LF _ _ _ (fun _ => .a (fkC none16 v)) none
   have sp1 := @fk_setv none16 [] v
   have hfk2 := fk_len none16 v
   refine LFx.mk' tt Try.func130 rfl rfl rfl (by kernel_rfl) rfl rfl fun F => ?_
   exact wk trueW trueW trueW
  | road p k =>
   rw [ndV_road]
   show LF _ _ _ (fun _ => .a (fkC none16 [])) none
   cases k with
   | no =>
    rw [ndV_no]
    refine LFx.mk' tt Try.func130 rfl rfl rfl (by kernel_rfl) rfl rfl fun F => ?_
    exact wk trueW trueW trueW
   | leaf q v =>
    rw [ndV_leaf]
    refine LFx.mk' tt Try.func130 rfl rfl rfl (by kernel_rfl) rfl rfl fun F => ?_
    exact wk trueW trueW trueW
   | road q v =>
    rw [ndV_road]
    refine LFx.mk' tt Try.func130 rfl rfl rfl (by kernel_rfl) rfl rfl fun F => ?_
    exact wk trueW trueW trueW
   | fork q v =>
    rw [ndV_fork]
    refine LFx.mk' tt Try.func130 rfl rfl rfl (by kernel_rfl) rfl rfl fun F => ?_
    exact wk trueW trueW trueW
  | fork ks v =>
   rw [ndV_fork]
   show LF _ _ _ (fun _ => .a (fkC none16 [])) none
   refine LFx.mk' tt Try.func130 rfl rfl rfl (by kernel_rfl) rfl rfl fun F => ?_
   exact wk trueW trueW trueW
 | cons x r =>
  have hx := x.isLt
  have hbl : (pB (x :: r)).length = r.length + 1 := by rw [pB_len]; rfl
  have hg : ((pB (x :: r)).getD 0 default).toNat = x.val := half_byte x
  have c1 : LM Try.prog 122 [bV (pB r), ndV a] [] fun o m => o = .ret (ndV (Tr.behind r a)) ∧ m = [] := behind_ r a (by simp only [List.length_cons] at hl; omega)
  show LF _ _ _ (fun _ => .a (fkC (setK none16 x (Tr.behind r a)) [])) none
  have sp1 := @fk_set none16 [] x (Tr.behind r a)
  have hfk2 := fk_len (setK none16 x (Tr.behind r a)) []
  have ho1 := nd_ok (Tr.behind r a)
  have ho2 : (ndV (Tr.behind r a)).cells.length = 1 := by rw [nd_cells]; rfl
  have q1 : ((pB (x :: r)).getD 0 default).toNat + (ndV (Tr.behind r a)).cells.length ≤ (V.a (fkC none16 [])).cells.length := by
   rw [hg, ho2]
   show x.val + 1 ≤ (fkC none16 []).length
   omega
  refine LFx.mk' tt Try.func130 rfl rfl rfl (by kernel_rfl) rfl rfl fun F => ?_
  exact wk trueW trueW trueW
end Te
end Lf
open Go.RowKit Rg Wm Ar
set_option linter.unusedVariables false
set_option maxRecDepth 100000
namespace Lf
open Tr
theorem tidy_none {ks : Fin 16 → Nd} {v : List UInt8} (h : (kidsOf ks).length = 0) : tidy ks v = if v = [] then .no else .leaf [] v := by
 unfold tidy
 rw [List.eq_nil_of_length_eq_zero h]
theorem tidy_one {ks : Fin 16 → Nd} {v : List UInt8} (h : (kidsOf ks).length = 1) : ∃ x, kidsOf ks = [x] ∧ tidy ks v = if v = [] then Tr.behind [x] (ks x) else .fork ks v := by
 match hk : kidsOf ks, h with
 | [x], _ => exact ⟨x, rfl, by unfold tidy; rw [hk]⟩
theorem tidy_two {ks : Fin 16 → Nd} {v : List UInt8} (h : 2 ≤ (kidsOf ks).length) : tidy ks v = .fork ks v := by
 unfold tidy
 match hk : kidsOf ks, h with
 | a :: b :: r, _ => rfl
def KB (ks : Fin 16 → Nd) : Prop := ∀ i, plen (ks i) < 900000000
namespace Te
set_option maxHeartbeats 4000000 in
theorem tidy_ (ks : Fin 16 → Nd) (v : List UInt8) (hv : v.length < 1000000000) (hks : KB ks) : LF Try.prog 97 [.a (fkC ks v)] (fun _ => ndV (tidy ks v)) none := by
 have hrf := tr_refs
 have hcv := tr_cv
 have hfk := fk_len ks v
 have hkd := kd_len ks
 have ld1 := @fk_val ks v
 have ld2 := @fk_kids ks v
 obtain ⟨m, hm0, hm1, hm2, hm3⟩ : ∃ m : Nat, m = min v.length 1 ∧ m ≤ 1 ∧ (m = 0 ↔ v.length = 0) ∧ (if (1 : Int) < (v.length : Int) then (1 : Int) else (v.length : Int)) = (m : Int) := ⟨_, rfl, Nat.min_le_right .., by omega, by split <;> omega⟩
 refine LFx.mk' tt Try.func97 rfl rfl rfl (by kernel_rfl) rfl rfl fun F => ?_
 refine wk ?_ trueW trueW
 refine LC.loop5 (fun i M L (_u3 : Unit) (_u4 : Unit) => [(1, .p 1 0), (3, .k (.int .i64 ((M : Nat) : Int))), (4, .k (.int .i64 ((L : Nat) : Int))), (12, .a (kdC ks)), (13, .k (.int .i64 ((i : Nat) : Int)))]) (fun i M L (_u3 : Unit) (_u4 : Unit) => [(1, .b (fkC ks v))]) (fun i M L (_u3 : Unit) (_u4 : Unit) => i ≤ 16 ∧ M = m + (kT ks i).length ∧ L = lastK (kT ks i)) ((16 - ·)) (0) (m) (0) () () ⟨by omega, rfl, rfl⟩ ⟨rfl, rfl, rfl, rfl, rfl, trivial⟩ ⟨rfl, trivial⟩ rfl rfW rfW ?_
 rintro i M L _ _ ⟨hi, hM, hL⟩
 rcases Nat.lt_or_ge i 16 with h | h
 ·have hT := kT_succ ks h
  have hTl := kT_len ks i
  have ld3 := @kd_get ks ⟨i, h⟩
  cases hn : isNo (ks ⟨i, h⟩) with
  | true =>
   rw [hn, if_pos rfl, List.append_nil] at hT
   have hz : ndV (ks ⟨i, h⟩) = .k .nilIface := by rw [isNo_eq.1 hn, ndV_no]
   rw [hz] at ld3
   have hok : i + 1 ≤ 16 ∧ M = m + (kT ks (i + 1)).length ∧ L = lastK (kT ks (i + 1)) := ⟨h, by rw [hT]; exact hM, by rw [hT]; exact hL⟩
   clear hT hz hn hL
   exact wk trueW trueW trueW
  | false =>
   rw [hn, if_neg Bool.false_ne_true] at hT
   obtain ⟨T, u, hu⟩ := nd_ifc hn
   have hru : u.refs [] = true := by
    have := nd_refs [] (ks ⟨i, h⟩)
    rw [hu] at this
    exact this
   rw [hu] at ld3
   have hok : i + 1 ≤ 16 ∧ M + 1 = m + (kT ks (i + 1)).length ∧ i = lastK (kT ks (i + 1)) := ⟨h, by rw [hT, List.length_append]; simp; omega, by rw [hT, lastK_snoc]⟩
   clear hT hn hu hL
   exact wk trueW trueW trueW
 ·obtain rfl : i = 16 := by omega
  rw [kT_all] at hM hL
  rcases (by omega : (kidsOf ks).length = 0 ∨ (kidsOf ks).length = 1 ∨ 2 ≤ (kidsOf ks).length) with h0 | h1 | h2
  ·rw [tidy_none h0]
   by_cases hv0 : v = []
   ·rw [if_pos hv0, ndV_no]
    have : v.length = 0 := by rw [hv0]; rfl
    clear hv0 hL
    exact wk trueW trueW trueW
   ·rw [if_neg hv0, ndV_leaf]
    have : 0 < v.length := List.length_pos_iff.2 hv0
    clear hv0 hL
    exact wk trueW trueW trueW
  ·obtain ⟨x, hx, ht⟩ := tidy_one (v := v) h1
   rw [ht]
   by_cases hv0 : v = []
   ·rw [if_pos hv0]
    have : v.length = 0 := by rw [hv0]; rfl
    have hLx : L = x.val := by rw [hL, hx]; rfl
    have hxl := x.isLt
    have c1 : LM Try.prog 122 [bV (pB [x]), ndV (ks x)] [] fun o m => o = .ret (ndV (Tr.behind [x] (ks x))) ∧ m = [] := behind_ [x] (ks x) (by have := hks x; simp; omega)
    have hpx : bV (pB [x]) = .s none [.k (.int .u8 ((L : Nat) : Int))] := by
     show V.s none [.k (.int .u8 ((UInt8.ofNat x.val).toNat : Int))] = _
     rw [half_byte, hLx]
    rw [hpx] at c1
    have ld3 := @fk_get ks v x
    have q1 : ((pB [x]).getD 0 default).toNat = x.val := half_byte x
    clear hv0 hL ht hx
    exact wk trueW trueW trueW
   ·rw [if_neg hv0, ndV_fork]
    have : 0 < v.length := List.length_pos_iff.2 hv0
    clear hv0 hL ht hx
    exact wk trueW trueW trueW
  ·rw [tidy_two h2, ndV_fork]
   clear hL
   exact wk trueW trueW trueW
set_option maxHeartbeats 4000000 in
theorem part_ (pre pa : Pa) (a : Nd) (q : Pa) (v : List UInt8) (hl : pre.length + pa.length + q.length + plen a < 800000000) (hv : v.length < 1000000000) (p0 p : Pa) (h0 : p0 = pre ++ pa) (h1 : p = pre ++ q) :
  LF Try.prog 121 [.k (.int .i64 ((pre.length : Nat) : Int)), bV (pB p0), ndV a, bV (pB p), bV v] (fun _ => ndV (Tr.part pre pa a q v)) none := by
 have hrf := tr_refs
 have hcv := tr_cv
 have hfk0 := fk_len none16 []
 have hfk := fk_len (kids1 pa a) (val1 pa a)
 have c1 : LM Try.prog 130 [.a (fkC none16 []), bV (pB pa), ndV a] [] fun o m => o = .ret (.a (fkC (kids1 pa a) (val1 pa a))) ∧ m = [] := with_ pa a (by omega)
 have hd0 : (pB p0).drop pre.length = pB pa := by rw [h0, pB_app, ← pB_len pre, List.drop_left]
 have ht0 : (pB p0).take pre.length = pB pre := by rw [h0, pB_app, ← pB_len pre, List.take_left]
 have hl0 : (pB p0).length = pre.length + pa.length := by rw [h0, pB_len, List.length_append]
 have hl1 : (pB p).length = pre.length + q.length := by rw [h1, pB_len, List.length_append]
 rw [← hd0, ← fk_none] at c1
 cases q with
 | nil =>
  have hq : (pB p).length = pre.length := hl1
  have c2 : LM Try.prog 122 [bV ((pB p0).take pre.length), ndV (.fork (kids1 pa a) v)] [] fun o m => o = .ret (ndV (Tr.part pre pa a [] v)) ∧ m = [] := by
   rw [ht0]
   exact behind_ pre (.fork (kids1 pa a) v) (by show pre.length + 0 < _; omega)
  rw [ndV_fork] at c2
  have sp1 := @fk_setv (kids1 pa a) (val1 pa a) v
  have hfk2 := fk_len (kids1 pa a) v
  have q1 : 16 + 1 ≤ (V.a (fkC (kids1 pa a) (val1 pa a))).cells.length := by
   show 17 ≤ (fkC (kids1 pa a) (val1 pa a)).length
   omega
  generalize Tr.part pre pa a [] v = R at *
  generalize kids1 pa a = K at *
  generalize val1 pa a = Va at *
  clear hd0 ht0 h0 h1 hl1
  refine LFx.mk' tt Try.func121 rfl rfl rfl (by kernel_rfl) rfl rfl fun F => ?_
  exact wk trueW trueW trueW
 | cons y s =>
  have hq : (pB p).length = pre.length + s.length + 1 := hl1
  have hy := y.isLt
  have hd1 : (pB p).drop (pre.length + 1) = pB s := by
   rw [h1, pB_app, ← List.drop_drop, ← pB_len pre, List.drop_left]; rfl
  have hg1 : ((pB p).getD pre.length default).toNat = y.val := by
   rw [h1, pB_app, List.getD_eq_getElem?_getD, List.getElem?_append_right (by rw [pB_len]; exact Nat.le_refl _), pB_len, Nat.sub_self]
   exact half_byte y
  have c2 : LM Try.prog 122 [bV ((pB p0).take pre.length), ndV (.fork (setK (kids1 pa a) y (.leaf s v)) (val1 pa a))] [] fun o m => o = .ret (ndV (Tr.part pre pa a (y :: s) v)) ∧ m = [] := by
   rw [ht0]
   exact behind_ pre (.fork (setK (kids1 pa a) y (.leaf s v)) (val1 pa a)) (by show pre.length + 0 < _; omega)
  rw [ndV_fork] at c2
  have hfk2 := fk_len (setK (kids1 pa a) y (.leaf s v)) (val1 pa a)
  have sp1 := @fk_set (kids1 pa a) (val1 pa a) y (.leaf s v)
  rw [ndV_leaf, ← hd1] at sp1
  have q1 : ((pB p).getD pre.length default).toNat + 1 ≤ (V.a (fkC (kids1 pa a) (val1 pa a))).cells.length := by
   show _ ≤ (fkC (kids1 pa a) (val1 pa a)).length
   omega
  generalize Tr.part pre pa a (y :: s) v = R at *
  generalize setK (kids1 pa a) y (.leaf s v) = K2 at *
  generalize kids1 pa a = K at *
  generalize val1 pa a = Va at *
  clear hd0 ht0 h0 h1 hl1 hd1
  refine LFx.mk' tt Try.func121 rfl rfl rfl (by kernel_rfl) rfl rfl fun F => ?_
  exact wk trueW trueW trueW
end Te
end Lf
open Go.RowKit Rg Wm Ar
set_option linter.unusedVariables false
set_option maxRecDepth 100000
namespace Lf
open Tr
theorem common_self : ∀ p : Pa, Tr.common p p = p.length
 | [] => rfl
 | x :: p => by simp only [Tr.common, if_true, List.length_cons, common_self p]
theorem common_eq {p0 p : Pa} : (Tr.common p0 p = p.length ∧ Tr.common p0 p = p0.length) ↔ p0 = p := by
 constructor
 ·rintro ⟨h1, h2⟩
  obtain ⟨_, e, _⟩ := common_spec p0 p
  rw [List.drop_of_length_le (by omega), List.append_nil, List.take_of_length_le (by omega)] at e
  exact e.symm
 ·rintro rfl
  exact ⟨common_self p0, common_self p0⟩
theorem common_rest {p0 p : Pa} (h : Tr.common p0 p = p0.length) : rest p0 p = some (p.drop p0.length) := by
 obtain ⟨_, e, _⟩ := common_spec p0 p
 rw [h, List.take_length] at e
 conv => lhs; rw [e]
 exact rest_app _ _
theorem rest_common {p0 p r : Pa} (h : rest p0 p = some r) : Tr.common p0 p = p0.length := by
 have e := rest_some h
 subst e
 clear h
 induction p0 with
 | nil => cases r <;> simp [Tr.common]
 | cons x p0 ih => simp only [List.cons_append, Tr.common, if_true, List.length_cons, ih]
theorem right_plen {n : Nd} {d : Nat} (h : Right n d) : plen n ≤ 64 := by
 by_cases hn : n = .no
 ·subst hn; exact Nat.zero_le _
 ·have := right_le h hn; omega
namespace Te
set_option maxHeartbeats 4000000 in
theorem put_nil (p : Pa) (v : List UInt8) (hv : v.length < 1000000000) : LF Try.prog 58 [.k .nilIface, bV (pB p), bV v] (fun _ => ndV (Tr.put .no p v)) none := by
 by_cases h : v = []
 ·rw [show Tr.put .no p v = .no by simp only [Tr.put, if_pos h], ndV_no]
  have : v.length = 0 := by rw [h]; rfl
  clear h
  refine LFx.mk' tt Try.func58 rfl rfl rfl (by kernel_rfl) rfl rfl fun F => ?_
  exact wk trueW trueW trueW
 ·rw [show Tr.put .no p v = .leaf p v by simp only [Tr.put, if_neg h], ndV_leaf]
  have : 0 < v.length := List.length_pos_iff.2 h
  clear h
  refine LFx.mk' tt Try.func58 rfl rfl rfl (by kernel_rfl) rfl rfl fun F => ?_
  exact wk trueW trueW trueW
set_option maxHeartbeats 4000000 in
theorem putLeaf_ (p0 p : Pa) (v0 v : List UInt8) (h0 : p0.length ≤ 64) (hp : p.length ≤ 64) (hv0 : v0.length < 1000000000) (hv : v.length < 1000000000) : LF Try.prog 95 [.a [bV (pB p0), bV v0], bV (pB p), bV v] (fun _ => ndV (Tr.put (.leaf p0 v0) p v)) none := by
 have c1 := Common_ p0 p (by omega) (by omega)
 have hl0 := pB_len p0
 have hl1 := pB_len p
 obtain ⟨k1, k2⟩ := common_le p0 p
 by_cases hpp : p0 = p
 ·obtain ⟨e1, e2⟩ := common_eq.2 hpp
  have c2 := put_nil p v hv
  have e : Tr.put (.leaf p0 v0) p v = Tr.put .no p v := by simp only [Tr.put, if_pos hpp]
  rw [e]
  generalize Tr.put .no p v = R at *
  generalize Tr.common p0 p = C at *
  have hcv := tr_cv
  have hrf := tr_refs
  clear hpp e
  refine LFx.mk' tt Try.func95 rfl rfl rfl (by kernel_rfl) rfl rfl fun F => ?_
  exact wk trueW trueW trueW
 ·have hne : ¬ (Tr.common p0 p = p.length ∧ Tr.common p0 p = p0.length) := fun h => hpp (common_eq.1 h)
  by_cases h : v = []
  ·have hz : v.length = 0 := by rw [h]; rfl
   rw [show Tr.put (.leaf p0 v0) p v = .leaf p0 v0 by simp only [Tr.put, if_neg hpp, if_pos h], ndV_leaf]
   generalize Tr.common p0 p = C at *
   clear hpp h
   by_cases h2 : C = p.length
   ·have h3 : ¬ C = p0.length := fun h => hne ⟨h2, h⟩
    refine LFx.mk' tt Try.func95 rfl rfl rfl (by kernel_rfl) rfl rfl fun F => ?_
    exact wk trueW trueW trueW
   ·refine LFx.mk' tt Try.func95 rfl rfl rfl (by kernel_rfl) rfl rfl fun F => ?_
    exact wk trueW trueW trueW
  ·have hz : 0 < v.length := List.length_pos_iff.2 h
   have c2 := part_ (p0.take (Tr.common p0 p)) (p0.drop (Tr.common p0 p)) (.leaf [] v0) (p.drop (Tr.common p0 p)) v (by simp only [List.length_take, List.length_drop, plen, List.length_nil]; omega) hv p0 p (List.take_append_drop _ _).symm (common_spec p0 p).2.1
   rw [ndV_leaf, List.length_take, Nat.min_eq_left k1] at c2
   rw [show Tr.put (.leaf p0 v0) p v = Tr.part (p0.take (Tr.common p0 p)) (p0.drop (Tr.common p0 p)) (.leaf [] v0) (p.drop (Tr.common p0 p)) v by simp only [Tr.put, if_neg hpp, if_neg h]]
   generalize Tr.part (p0.take (Tr.common p0 p)) (p0.drop (Tr.common p0 p)) (.leaf [] v0) (p.drop (Tr.common p0 p)) v = R at *
   have hcv := tr_cv
   have hrf := tr_refs
   generalize Tr.common p0 p = C at *
   clear hpp h
   by_cases h2 : C = p.length
   ·have h3 : ¬ C = p0.length := fun h => hne ⟨h2, h⟩
    refine LFx.mk' tt Try.func95 rfl rfl rfl (by kernel_rfl) rfl rfl fun F => ?_
    exact wk trueW trueW trueW
   ·refine LFx.mk' tt Try.func95 rfl rfl rfl (by kernel_rfl) rfl rfl fun F => ?_
    exact wk trueW trueW trueW
end Te
end Lf
open Go.RowKit Rg Wm Ar
set_option linter.unusedVariables false
set_option maxRecDepth 100000
namespace Lf
open Tr
theorem put_road_in {p0 p : Pa} {k : Nd} {v : List UInt8} (h : Tr.common p0 p = p0.length) : Tr.put (.road p0 k) p v = Tr.behind p0 (Tr.put k (p.drop p0.length) v) := by
 simp only [Tr.put, common_rest h]
theorem put_road_out {p0 p : Pa} {k : Nd} {v : List UInt8} (h : ¬ Tr.common p0 p = p0.length) : Tr.put (.road p0 k) p v = if v = [] then .road p0 k else Tr.part (p0.take (Tr.common p0 p)) (p0.drop (Tr.common p0 p)) k (p.drop (Tr.common p0 p)) v := by
 have : rest p0 p = none := by
  cases hr : rest p0 p with
  | none => rfl
  | some r => exact absurd (rest_common hr) h
 simp only [Tr.put, this]
namespace Te
set_option maxHeartbeats 4000000 in
theorem putRoad_ (p0 p : Pa) (k : Nd) (v : List UInt8) (h0 : p0.length ≤ 64) (hp : p.length ≤ 64) (hk : isFork k = true) (hv : v.length < 1000000000) (ih0 : Tr.common p0 p = p0.length → plen (Tr.put k (p.drop p0.length) v) ≤ 64 ∧ LM Try.prog 58 [ndV k, bV (pB (p.drop p0.length)), bV v] [] fun o m => o = .ret (ndV (Tr.put k (p.drop p0.length) v)) ∧ m = []) : LF Try.prog 96 [.a [bV (pB p0), ndV k], bV (pB p), bV v] (fun _ => ndV (Tr.put (.road p0 k) p v)) none := by
 have c1 := Common_ p0 p (by omega) (by omega)
 have hl0 := pB_len p0
 have hl1 := pB_len p
 have hcv := tr_cv
 have hrf := tr_refs
 obtain ⟨k1, k2⟩ := common_le p0 p
 have hpk : plen k = 0 := by
  obtain ⟨ks, w, rfl⟩ := fork_is hk
  rfl
 by_cases h1 : Tr.common p0 p = p0.length
 ·rw [put_road_in h1]
  obtain ⟨hr, ih⟩ := ih0 h1
  have hle : p0.length ≤ p.length := by omega
  rw [h1] at c1
  have c2 := behind_ p0 (Tr.put k (p.drop p0.length) v) (by omega)
  have hd : pB (p.drop p0.length) = (pB p).drop p0.length := by unfold pB; rw [List.map_drop]
  rw [hd] at ih
  obtain ⟨ks, w, rfl⟩ := fork_is hk
  have c3 := ih
  rw [ndV_fork] at c3 ⊢
  have hfk := fk_len ks w
  generalize Tr.behind p0 (Tr.put (.fork ks w) (p.drop p0.length) v) = R at *
  generalize Tr.put (.fork ks w) (p.drop p0.length) v = R2 at *
  clear ih ih0 h1 hd hk hpk
  refine LFx.mk' tt Try.func96 rfl rfl rfl (by kernel_rfl) rfl rfl fun F => ?_
  exact wk trueW trueW trueW
 ·rw [put_road_out h1]
  by_cases h : v = []
  ·have hz : v.length = 0 := by rw [h]; rfl
   rw [if_pos h, ndV_road]
   obtain ⟨ks, w, rfl⟩ := fork_is hk
   rw [ndV_fork]
   have hfk := fk_len ks w
   generalize Tr.common p0 p = C at *
   clear ih0 h hk hpk
   refine LFx.mk' tt Try.func96 rfl rfl rfl (by kernel_rfl) rfl rfl fun F => ?_
   exact wk trueW trueW trueW
  ·have hz : 0 < v.length := List.length_pos_iff.2 h
   have c2 := part_ (p0.take (Tr.common p0 p)) (p0.drop (Tr.common p0 p)) k (p.drop (Tr.common p0 p)) v (by simp only [List.length_take, List.length_drop]; omega) hv p0 p (List.take_append_drop _ _).symm (common_spec p0 p).2.1
   rw [List.length_take, Nat.min_eq_left k1] at c2
   rw [if_neg h]
   generalize Tr.part (p0.take (Tr.common p0 p)) (p0.drop (Tr.common p0 p)) k (p.drop (Tr.common p0 p)) v = R at *
   obtain ⟨ks, w, rfl⟩ := fork_is hk
   rw [ndV_fork] at c2 ⊢
   have hfk := fk_len ks w
   generalize Tr.common p0 p = C at *
   clear ih0 h hk hpk
   refine LFx.mk' tt Try.func96 rfl rfl rfl (by kernel_rfl) rfl rfl fun F => ?_
   exact wk trueW trueW trueW
set_option maxHeartbeats 4000000 in
theorem put_ : ∀ (n : Nd) (p : Pa) (v : List UInt8) (d : Nat), Right n d → ends (d + p.length) → v.length ≤ 1024 → LF Try.prog 58 [ndV n, bV (pB p), bV v] (fun _ => ndV (Tr.put n p v)) none := by
 intro n
 induction n with
 | no => intro p v d _ _ hv; rw [ndV_no]; exact put_nil p v (by omega)
 | leaf p0 v0 =>
  intro p v d hr he hv
  have h1 : p0.length ≤ 64 := right_plen hr
  have h2 := he.2
  have h3 := hr.2.2
  have c1 := putLeaf_ p0 p v0 v h1 (by omega) (by omega) (by omega)
  rw [ndV_leaf]
  generalize Tr.put (.leaf p0 v0) p v = R at *
  have hcv := tr_cv
  have hrf := tr_refs
  clear hr he
  refine LFx.mk' tt Try.func58 rfl rfl rfl (by kernel_rfl) rfl rfl fun F => ?_
  exact wk trueW trueW trueW
 | road p0 k ih =>
  intro p v d hr he hv
  have h1 : p0.length ≤ 64 := right_plen hr
  have h2 := he.2
  obtain ⟨a1, a2, a3⟩ := hr
  have he2 : Tr.common p0 p = p0.length → ends (d + p0.length + (p.drop p0.length).length) := fun hc => by
   have := (common_le p0 p).2
   rw [List.length_drop]
   have e : d + p0.length + (p.length - p0.length) = d + p.length := by omega
   rw [e]; exact he
  have c1 : LF Try.prog 96 [.a [bV (pB p0), ndV k], bV (pB p), bV v] (fun _ => ndV (Tr.put (.road p0 k) p v)) none := by
   refine putRoad_ p0 p k v h1 (by omega) a2 (by omega) fun hc => ?_
   have hr2 := right_put k (p.drop p0.length) v _ a3 (he2 hc) hv
   exact ⟨right_plen hr2, ih _ v _ a3 (he2 hc) hv⟩
  rw [ndV_road]
  obtain ⟨ks, w, rfl⟩ := fork_is a2
  rw [ndV_fork] at c1 ⊢
  have hfk := fk_len ks w
  generalize Tr.put (.road p0 (.fork ks w)) p v = R at *
  have hcv := tr_cv
  have hrf := tr_refs
  clear ih a1 a2 a3 he he2
  refine LFx.mk' tt Try.func58 rfl rfl rfl (by kernel_rfl) rfl rfl fun F => ?_
  exact wk trueW trueW trueW
 | fork ks v0 ih =>
  intro p v d hr he hv
  have hrf := tr_refs
  have hcv := tr_cv
  have hfk := fk_len ks v0
  obtain ⟨a1, a2, a3, _⟩ := hr
  cases p with
  | nil =>
   have h0 : (pB []).length = 0 := rfl
   have c1 : LM Try.prog 97 [.a (fkC ks v)] [] fun o m => o = .ret (ndV (tidy ks v)) ∧ m = [] := tidy_ ks v (by omega) fun i => by have := right_plen (a3 i); omega
   rw [show Tr.put (.fork ks v0) [] v = tidy ks v from rfl, ndV_fork]
   have sp1 := @fk_setv ks v0 v
   have hfk2 := fk_len ks v
   have q1 : 16 + 1 ≤ (V.a (fkC ks v0)).cells.length := by
    show 17 ≤ (fkC ks v0).length
    omega
   generalize tidy ks v = R at *
   clear ih a1 a2 a3 he
   refine LFx.mk' tt Try.func58 rfl rfl rfl (by kernel_rfl) rfl rfl fun F => ?_
   exact wk trueW trueW trueW
  | cons x r =>
   have he2 : ends (d + 1 + r.length) := by
    have e : d + 1 + r.length = d + (x :: r).length := by rw [List.length_cons]; omega
    rw [e]; exact he
   have hr2 := right_put (ks x) r v _ (a3 x) he2 hv
   have c1 : LM Try.prog 58 [ndV (ks x), bV (pB r), bV v] [] fun o m => o = .ret (ndV (Tr.put (ks x) r v)) ∧ m = [] := ih x r v _ (a3 x) he2 hv
   have c2 : LM Try.prog 97 [.a (fkC (setK ks x (Tr.put (ks x) r v)) v0)] [] fun o m => o = .ret (ndV (tidy (setK ks x (Tr.put (ks x) r v)) v0)) ∧ m = [] := tidy_ _ v0 (by omega) fun i => by
    by_cases hi : i = x
    ·subst hi; rw [setK_at]; have := right_plen hr2; omega
    ·rw [setK_off ks _ hi]; have := right_plen (a3 i); omega
   rw [show Tr.put (.fork ks v0) (x :: r) v = tidy (setK ks x (Tr.put (ks x) r v)) v0 from rfl, ndV_fork]
   have hx := x.isLt
   have hbl : (pB (x :: r)).length = r.length + 1 := by rw [pB_len]; rfl
   have hg : ((pB (x :: r)).getD 0 default).toNat = x.val := half_byte x
   have ld1 := @fk_get ks v0 x
   have sp1 := @fk_set ks v0 x (Tr.put (ks x) r v)
   have ho1 := nd_ok (Tr.put (ks x) r v)
   have ho2 : (ndV (Tr.put (ks x) r v)).cells.length = 1 := by rw [nd_cells]; rfl
   have hfk2 := fk_len (setK ks x (Tr.put (ks x) r v)) v0
   have q1 : ((pB (x :: r)).getD 0 default).toNat + (ndV (Tr.put (ks x) r v)).cells.length ≤ (V.a (fkC ks v0)).cells.length := by
    rw [hg, ho2]
    show x.val + 1 ≤ (fkC ks v0).length
    omega
   generalize tidy (setK ks x (Tr.put (ks x) r v)) v0 = R at *
   generalize setK ks x (Tr.put (ks x) r v) = K at *
   generalize Tr.put (ks x) r v = R2 at *
   clear ih a1 a2 a3 he he2 hr2
   refine LFx.mk' tt Try.func58 rfl rfl rfl (by kernel_rfl) rfl rfl fun F => ?_
   exact wk trueW trueW trueW
end Te
end Lf
end Go.Proofs.Ytkbimhccaacobaa

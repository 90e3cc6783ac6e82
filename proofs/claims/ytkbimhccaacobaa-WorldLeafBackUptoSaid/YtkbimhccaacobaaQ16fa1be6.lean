/- A part of the proof: texts joined. -/
import Derived.Test.YtkbimhccaacobaaQ15860a9d
namespace Go.Proofs.Ytkbimhccaacobaa
open Go.RowKit Rg Wm Ar
set_option linter.unusedVariables false
set_option maxRecDepth 100000
namespace Lf
open Tr
theorem get_road_yes {p0 p : Pa} {k : Nd} (h : Tr.common p0 p = p0.length) : Tr.get (.road p0 k) p = Tr.get k (p.drop p0.length) := by
 simp only [Tr.get, common_rest h]
theorem get_road_no {p0 p : Pa} {k : Nd} (h : ¬ Tr.common p0 p = p0.length) : Tr.get (.road p0 k) p = [] := by
 have : rest p0 p = none := by
  cases hr : rest p0 p with
  | none => rfl
  | some r => exact absurd (rest_common hr) h
 simp only [Tr.get, this]
theorem eqS {a b : List UInt8} {c : Bool} (h : decide (a = b) = c) : arithS .eql ⟨a.toArray⟩ ⟨b.toArray⟩ = some (.bool c) := by
 subst h
 simp only [arithS, ByteArray.toList_mk]
 by_cases h : a = b
 ·subst h; simp
 ·simp [h]
namespace Te
set_option maxHeartbeats 4000000 in
theorem get_ : ∀ (n : Nd) (p : Pa) (d : Nat), Right n d → p.length ≤ 64 → LF Try.prog 65 [ndV n, bV (pB p)] (fun _ => bV (Tr.get n p)) none := by
 intro n
 have hrf := tr_refs
 have hcv := tr_cv
 induction n with
 | no =>
  intro p d _ hp
  rw [ndV_no, show Tr.get .no p = [] from rfl]
  refine LFx.mk' tt Try.func65 rfl rfl rfl (by kernel_rfl) rfl rfl fun F => ?_
  exact wk trueW trueW trueW
 | leaf p0 v0 =>
  intro p d hr hp
  rw [ndV_leaf]
  by_cases h : p0 = p
  ·have hs : arithS .eql ⟨(pB p0).toArray⟩ ⟨(pB p).toArray⟩ = some (.bool true) := eqS (decide_eq_true (by rw [h]))
   rw [show Tr.get (.leaf p0 v0) p = v0 by simp only [Tr.get, if_pos h]]
   clear h hr
   refine LFx.mk' tt Try.func65 rfl rfl rfl (by kernel_rfl) rfl rfl fun F => ?_
   exact wk trueW trueW trueW
  ·have hs : arithS .eql ⟨(pB p0).toArray⟩ ⟨(pB p).toArray⟩ = some (.bool false) := eqS (decide_eq_false fun e => h (pB_inj e))
   rw [show Tr.get (.leaf p0 v0) p = [] by simp only [Tr.get, if_neg h]]
   clear h hr
   refine LFx.mk' tt Try.func65 rfl rfl rfl (by kernel_rfl) rfl rfl fun F => ?_
   exact wk trueW trueW trueW
 | road p0 k ih =>
  intro p d hr hp
  have h1 : p0.length ≤ 64 := right_plen hr
  have hl0 := pB_len p0
  have hl1 := pB_len p
  have c1 := Common_ p0 p (by omega) (by omega)
  obtain ⟨k1, k2⟩ := common_le p0 p
  rw [ndV_road]
  have hok := nd_refs [] k
  by_cases h : Tr.common p0 p = p0.length
  ·have hle : p0.length ≤ p.length := by omega
   rw [get_road_yes h]
   rw [h] at c1
   have hd : pB (p.drop p0.length) = (pB p).drop (pB p0).length := by rw [hl0]; unfold pB; rw [List.map_drop]
   have c2 := ih (p.drop p0.length) _ hr.2.2 (by rw [List.length_drop]; omega)
   rw [hd] at c2
   generalize Tr.get k (p.drop p0.length) = R at *
   clear ih h hd hr
   refine LFx.mk' tt Try.func65 rfl rfl rfl (by kernel_rfl) rfl rfl fun F => ?_
   exact wk trueW trueW trueW
  ·rw [get_road_no h]
   generalize Tr.common p0 p = C at *
   clear ih hr
   refine LFx.mk' tt Try.func65 rfl rfl rfl (by kernel_rfl) rfl rfl fun F => ?_
   exact wk trueW trueW trueW
 | fork ks v0 ih =>
  intro p d hr hp
  have hfk := fk_len ks v0
  have ld2 := @fk_val ks v0
  rw [ndV_fork]
  cases p with
  | nil =>
   have h0 : (pB []).length = 0 := rfl
   rw [show Tr.get (.fork ks v0) [] = v0 from rfl]
   clear ih hr
   refine LFx.mk' tt Try.func65 rfl rfl rfl (by kernel_rfl) rfl rfl fun F => ?_
   exact wk trueW trueW trueW
  | cons x r =>
   have hx := x.isLt
   have hbl : (pB (x :: r)).length = r.length + 1 := by rw [pB_len]; rfl
   have hg : ((pB (x :: r)).getD 0 default).toNat = x.val := half_byte x
   have ld1 := @fk_get ks v0 x
   have c1 : LM Try.prog 65 [ndV (ks x), bV (pB r)] [] fun o m => o = .ret (bV (Tr.get (ks x) r)) ∧ m = [] := ih x r _ (hr.2.2.1 x) (by rw [List.length_cons] at hp; omega)
   rw [show Tr.get (.fork ks v0) (x :: r) = Tr.get (ks x) r from rfl]
   generalize Tr.get (ks x) r = R at *
   clear ih hr
   refine LFx.mk' tt Try.func65 rfl rfl rfl (by kernel_rfl) rfl rfl fun F => ?_
   exact wk trueW trueW trueW
theorem mt_leaf : methB Try.prog 174 "lampbearer/tree.plain" 148 = true := by kernel_rfl
theorem mt_road : methB Try.prog 177 "lampbearer/tree.plain" 149 = true := by kernel_rfl
theorem mt_fork : methB Try.prog 181 "lampbearer/tree.plain" 150 = true := by kernel_rfl
set_option maxHeartbeats 4000000 in
theorem plainLeaf_ (p : Pa) (v : List UInt8) (hp : p.length ≤ 64) (hv : v.length ≤ 1024) : LF Try.prog 148 [.a [bV (pB p), bV v]] (fun _ => rnV (ofN (.leaf p v))) none := by
 have hl := pB_len p
 have c1 := own_ (pB p) (by omega)
 have c2 := own_ v (by omega)
 rw [show ofN (.leaf p v) = .mk 1 (pB p) v [] from rfl]
 simp only [rnV, rnC_eq]
 refine LFx.mk' tt Try.func148 rfl rfl rfl (by kernel_rfl) rfl rfl fun F => ?_
 exact wk trueW trueW trueW
end Te
end Lf
open Go.RowKit Rg Wm Ar
set_option linter.unusedVariables false
set_option maxRecDepth 100000
namespace Lf
open Tr
def zN : V := .a [.k (.int .i64 0), .nil, .nil, .nil]
def upE (ks : Fin 16 → Nd) (i : Nat) : List V := (List.finRange 16).map fun j => if j.val < i then rnV (ofN (ks j)) else zN
theorem upE_zero (ks : Fin 16 → Nd) : List.replicate 16 zN = upE ks 0 := by
 unfold upE
 simp only [Nat.not_lt_zero, if_false]
 rfl
theorem upE_len (ks : Fin 16 → Nd) (i : Nat) : (upE ks i).length = 16 := by unfold upE; rw [List.length_map, List.length_finRange]
theorem upE_all (ks : Fin 16 → Nd) : upE ks 16 = ((List.finRange 16).map fun j => ofN (ks j)).map rnV := by
 unfold upE
 rw [List.map_map]
 exact List.map_congr_left fun j _ => if_pos j.isLt
theorem upE_set (ks : Fin 16 → Nd) {i : Nat} (h : i < 16) : (upE ks i).set i (rnV (ofN (ks ⟨i, h⟩))) = upE ks (i + 1) := by
  apply List.ext_getElem?
  intro j
  rw [List.getElem?_set]
  by_cases hj : j < 16
  · have e : ∀ m, (upE ks m)[j]? = some (if j < m then rnV (ofN (ks ⟨j, hj⟩)) else zN) := fun m => by
      unfold upE
      rw [List.getElem?_map, List.getElem?_eq_getElem (by simp; exact hj)]
      simp
    rw [e, e]
    by_cases hij : i = j
    · subst hij
      rw [if_pos rfl, if_pos (by rw [upE_len]; exact h), if_pos (by omega)]
    · rw [if_neg hij]
      by_cases h2 : j < i
      · rw [if_pos h2, if_pos (by omega)]
      · rw [if_neg h2, if_neg (by omega)]
  · rw [if_neg (by omega), List.getElem?_eq_none (by rw [upE_len]; omega), List.getElem?_eq_none (by rw [upE_len]; omega)]
theorem upE_size (ks : Fin 16 → Nd) (i : Nat) : ∀ e ∈ upE ks i, e.cells.length = 4 := by
 intro e he
 obtain ⟨j, _, rfl⟩ := List.mem_map.1 he
 split
 ·exact rnC_len _
 ·rfl
attribute [irreducible] upE
namespace Te
set_option maxHeartbeats 4000000 in
theorem plainRoad_ (p : Pa) (ks : Fin 16 → Nd) (v : List UInt8) (hp : p.length ≤ 64)
  (c2 : LM Try.prog 150 [.a (fkC ks v)] [] fun o m => o = .ret (rnV (ofN (.fork ks v))) ∧ m = []) : LF Try.prog 149 [.a [bV (pB p), ndV (.fork ks v)]] (fun _ => rnV (ofN (.road p (.fork ks v)))) none := by
 have hl := pB_len p
 have c1 := own_ (pB p) (by omega)
 have hmt := mt_fork
 have hrf := tr_refs
 have hcv := tr_cv
 have hfk := fk_len ks v
 rw [show ofN (.road p (.fork ks v)) = .mk 2 (pB p) [] [ofN (.fork ks v)] from rfl]
 generalize ofN (.fork ks v) = x at *
 have hk4 := rnC_len x
 have hbr := rnC_bare
 rw [ndV_fork]
 simp only [rnV] at c2 ⊢
 rw [rnC_eq]
 refine LFx.mk' tt Try.func149 rfl rfl rfl (by kernel_rfl) rfl rfl fun F => ?_
 exact wk trueW trueW trueW
set_option maxHeartbeats 4000000 in
theorem plainFork_ (ks : Fin 16 → Nd) (v : List UInt8) (hv : v.length ≤ 1024)
  (ih : ∀ i, LM Try.prog 57 [ndV (ks i)] [] fun o m => o = .ret (rnV (ofN (ks i))) ∧ m = []) : LF Try.prog 150 [.a (fkC ks v)] (fun _ => rnV (ofN (.fork ks v))) none := by
 have c1 := own_ v (by omega)
 have hrf := tr_refs
 have hcv := tr_cv
 have hfk := fk_len ks v
 have hkd := kd_len ks
 have ld1 := @fk_val ks v
 have ld2 := @fk_kids ks v
 rw [show ofN (.fork ks v) = .mk 3 [] v ((List.finRange 16).map fun i => ofN (ks i)) from rfl]
 simp only [rnV]
 rw [rnC_eq, ← upE_all]
 have hzw : ZvAt zN := ⟨⟩
 have hz0 := upE_zero ks
 have hbr := rnC_bare
 refine LFx.mk' tt Try.func150 rfl rfl rfl (by kernel_rfl) rfl rfl fun F => ?_
 refine wk ?_ trueW trueW
 refine LC.loopN (fun i => [(2, .p 2 0), (3, .p 3 0), (12, .a (kdC ks)), (13, .k (.int .i64 ((i : Nat) : Int)))]) (fun i => [(3, .b [.k (.int .i64 3), .nil, .s (some 8) (v.map bK), .w 9 0 4 0 16]), (8, .r 5 1 v.length), (9, .w 37 4 0 (upE ks i)), (2, .b [.k (.int .i64 0), .nil, .nil, .nil])]) (fun i => i ≤ 16) ((16 - ·)) (0) (by omega) ⟨rfl, rfl, rfl, rfl, trivial⟩ ⟨rfl, rfl, rfl, rfl, trivial⟩ rfl rfW rfW ?_
 intro i hi
 have hel := upE_len ks i
 have hes := upE_size ks i
 rcases Nat.lt_or_ge i 16 with h | h
 ·have hst := upE_set ks h
  have hok : i + 1 ≤ 16 := h
  have c2 := ih ⟨i, h⟩
  have ld3 := @kd_get ks ⟨i, h⟩
  have hk4 := rnC_len (ofN (ks ⟨i, h⟩))
  clear ih
  refine wk ?_ trueW trueW
  rw [hst]
  exact wk trueW trueW trueW
 ·obtain rfl : i = 16 := by omega
  have hfw : FrzBuf 7 3 3 9 := ⟨⟩
  clear ih
  exact wk trueW trueW trueW
theorem show_all : ∀ (n : Nd) (d : Nat), Right n d → LF Try.prog 57 [ndV n] (fun _ => rnV (ofN n)) none ∧ ∀ ks v, n = .fork ks v → LF Try.prog 150 [.a (fkC ks v)] (fun _ => rnV (ofN n)) none := by
 intro n
 have hrf := tr_refs
 have hcv := tr_cv
 have hbr := rnC_bare
 induction n with
 | no =>
  intro d _
  refine ⟨?_, fun _ _ e => by cases e⟩
  rw [ndV_no, show ofN .no = .mk 0 [] [] [] from rfl]
  simp only [rnV, rnC_eq]
  refine LFx.mk' tt Try.func57 rfl rfl rfl (by kernel_rfl) rfl rfl fun F => ?_
  exact wk trueW trueW trueW
 | leaf p v =>
  intro d hr
  refine ⟨?_, fun _ _ e => by cases e⟩
  have c1 := plainLeaf_ p v (right_plen hr) hr.2.2
  have hmt := mt_leaf
  generalize ofN (.leaf p v) = x at *
  have hk4 := rnC_len x
  rw [ndV_leaf]
  refine LFx.mk' tt Try.func57 rfl rfl rfl (by kernel_rfl) rfl rfl fun F => ?_
  exact wk trueW trueW trueW
 | road p k ih =>
  intro d hr
  refine ⟨?_, fun _ _ e => by cases e⟩
  obtain ⟨ks, v, rfl⟩ := fork_is hr.2.1
  have c1 := plainRoad_ p ks v (right_plen hr) ((ih _ hr.2.2).2 ks v rfl)
  have hmt := mt_road
  have hfk := fk_len ks v
  generalize ofN (.road p (.fork ks v)) = x at *
  have hk4 := rnC_len x
  rw [ndV_fork] at c1
  rw [ndV_road, ndV_fork]
  refine LFx.mk' tt Try.func57 rfl rfl rfl (by kernel_rfl) rfl rfl fun F => ?_
  exact wk trueW trueW trueW
 | fork ks v ih =>
  intro d hr
  have c0 := plainFork_ ks v hr.1 fun i => (ih i _ (hr.2.2.1 i)).1
  refine ⟨?_, fun ks' v' e => by cases e; exact c0⟩
  have c1 := c0
  have hmt := mt_fork
  have hfk := fk_len ks v
  clear ih c0
  generalize ofN (.fork ks v) = x at *
  have hk4 := rnC_len x
  rw [ndV_fork]
  refine LFx.mk' tt Try.func57 rfl rfl rfl (by kernel_rfl) rfl rfl fun F => ?_
  exact wk trueW trueW trueW
end Te
end Lf
open Go.RowKit Rg Wm Ar
set_option linter.unusedVariables false
set_option maxRecDepth 100000
namespace Lf
open Tr
abbrev erV (n : Nat) : V := .k (.int .i64 ((n : Nat) : Int))
theorem keyP_le {l : List UInt8} (h : l.length ≤ 32) : (keyP l).length ≤ 64 := by rw [keyP_len]; omega
theorem get_len : ∀ {n : Nd} {d : Nat}, Right n d → ∀ q, (Tr.get n q).length ≤ 1024
 | .no, _, _, q => by rw [show Tr.get .no q = [] from rfl]; exact Nat.zero_le _
 | .leaf p v, _, h, q => by
  unfold Tr.get
  split
  ·exact h.2.2
  ·exact Nat.zero_le _
 | .road p k, _, h, q => by
  unfold Tr.get
  cases rest p q with
  | none => exact Nat.zero_le _
  | some r => exact get_len h.2.2 r
 | .fork ks v, _, h, [] => h.1
 | .fork ks v, _, h, x :: q => get_len (h.2.2.1 x) q
namespace Te
set_option maxHeartbeats 4000000 in
theorem Get_ok (x : Rn) (key : List UInt8) (hx : x.size < 1000000000) (hr : rt x 0 = true) (hk : key.length ≤ 32) : LF Try.prog 32 [rnV x, bV key] (fun _ => .t [bV (Tr.get (toN x) (keyP key)), erV 0]) none := by
 have c1 := Right_ x hx
 rw [hr] at c1
 have c2 := inner_ x.size x 0 (Nat.le_refl _) hx hr
 have c3 := Halves_ key (by omega)
 have hR := rt_right x.size x 0 (Nat.le_refl _) hr
 have c4 := get_ (toN x) (keyP key) 0 hR (keyP_le hk)
 have hgl := get_len hR (keyP key)
 have c5 := own_ (Tr.get (toN x) (keyP key)) (by omega)
 have hk4 := rnC_len x
 have hrf := tr_refs
 have hcv := tr_cv
 generalize Tr.get (toN x) (keyP key) = G at *
 generalize pB (keyP key) = K at *
 clear hR
 refine LFx.mk' tt Try.func32 rfl rfl rfl (by kernel_rfl) rfl rfl fun F => ?_
 exact wk trueW trueW trueW
end Te
end Lf
end Go.Proofs.Ytkbimhccaacobaa

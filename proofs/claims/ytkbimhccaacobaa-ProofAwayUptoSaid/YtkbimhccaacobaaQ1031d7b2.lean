/- A part of the proof: texts joined. -/
import Derived.RangeFuncIn
import Derived.RangeFuncRecord
import Derived.RangeFuncSeq
import Derived.Test.YtkbimhccaacobaaQ9677fab
namespace Go.Proofs.Ytkbimhccaacobaa
open Go.RowKit Rg Wm Ar
set_option linter.unusedVariables false
set_option maxRecDepth 100000
namespace Lf
open Tr
theorem get_road_yes {p0 p : Pa} {k : Nd} (h : Tr.common p0 p = p0.length) : Tr.get (.road p0 k) p = Tr.get k (p.drop p0.length) := by
  simp only [Tr.get, common_rest h]
theorem get_road_no {p0 p : Pa} {k : Nd} (h : ¬ Tr.common p0 p = p0.length) : Tr.get (.road p0 k) p = [] := by
  have : rest p0 p = none := by
    cases hr : rest p0 p with
    | none => rfl
    | some r => exact absurd (rest_common hr) h
  simp only [Tr.get, this]
theorem eqS {a b : List UInt8} {c : Bool} (h : decide (a = b) = c) : arithS .eql ⟨a.toArray⟩ ⟨b.toArray⟩ = some (.bool c) := by
  subst h
  simp only [arithS, ByteArray.toList_mk]
  by_cases h : a = b
  · subst h; simp
  · simp [h]
namespace Te
set_option maxHeartbeats 4000000 in
theorem get_ : ∀ (n : Nd) (p : Pa) (d : Nat), Right n d → p.length ≤ 64 → LF Try.prog 65 [ndV n, bV (pB p)] (fun _ => bV (Tr.get n p)) none := by
  intro n
  have hrf := tr_refs
  have hcv := tr_cv
  induction n with
  | no =>
    intro p d _ hp
    rw [ndV_no, show Tr.get .no p = [] from rfl]
    refine LFx.mk' tt Try.func65 rfl rfl rfl (by kernel_rfl) rfl rfl fun F => ?_
    exact wk trueW trueW trueW
  | leaf p0 v0 =>
    intro p d hr hp
    rw [ndV_leaf]
    by_cases h : p0 = p
    · have hs : arithS .eql ⟨(pB p0).toArray⟩ ⟨(pB p).toArray⟩ = some (.bool true) := eqS (decide_eq_true (by rw [h]))
      rw [show Tr.get (.leaf p0 v0) p = v0 by simp only [Tr.get, if_pos h]]
      clear h hr
      refine LFx.mk' tt Try.func65 rfl rfl rfl (by kernel_rfl) rfl rfl fun F => ?_
      exact wk trueW trueW trueW
    · have hs : arithS .eql ⟨(pB p0).toArray⟩ ⟨(pB p).toArray⟩ = some (.bool false) := eqS (decide_eq_false fun e => h (pB_inj e))
      rw [show Tr.get (.leaf p0 v0) p = [] by simp only [Tr.get, if_neg h]]
      clear h hr
      refine LFx.mk' tt Try.func65 rfl rfl rfl (by kernel_rfl) rfl rfl fun F => ?_
      exact wk trueW trueW trueW
  | road p0 k ih =>
    intro p d hr hp
    have h1 : p0.length ≤ 64 := right_plen hr
    have hl0 := pB_len p0
    have hl1 := pB_len p
    have c1 := Common_ p0 p (by omega) (by omega)
    obtain ⟨k1, k2⟩ := common_le p0 p
    rw [ndV_road]
    have hok := nd_refs [] k
    by_cases h : Tr.common p0 p = p0.length
    · have hle : p0.length ≤ p.length := by omega
      rw [get_road_yes h]
      rw [h] at c1
      have hd : pB (p.drop p0.length) = (pB p).drop (pB p0).length := by rw [hl0]; unfold pB; rw [List.map_drop]
      have c2 := ih (p.drop p0.length) _ hr.2.2 (by rw [List.length_drop]; omega)
      rw [hd] at c2
      generalize Tr.get k (p.drop p0.length) = R at *
      clear ih h hd hr
      refine LFx.mk' tt Try.func65 rfl rfl rfl (by kernel_rfl) rfl rfl fun F => ?_
      exact wk trueW trueW trueW
    · rw [get_road_no h]
      generalize Tr.common p0 p = C at *
      clear ih hr
      refine LFx.mk' tt Try.func65 rfl rfl rfl (by kernel_rfl) rfl rfl fun F => ?_
      exact wk trueW trueW trueW
  | fork ks v0 ih =>
    intro p d hr hp
    have hfk := fk_len ks v0
    have ld2 := @fk_val ks v0
    rw [ndV_fork]
    cases p with
    | nil =>
      have h0 : (pB []).length = 0 := rfl
      rw [show Tr.get (.fork ks v0) [] = v0 from rfl]
      clear ih hr
      refine LFx.mk' tt Try.func65 rfl rfl rfl (by kernel_rfl) rfl rfl fun F => ?_
      exact wk trueW trueW trueW
    | cons x r =>
      have hx := x.isLt
      have hbl : (pB (x :: r)).length = r.length + 1 := by rw [pB_len]; rfl
      have hg : ((pB (x :: r)).getD 0 default).toNat = x.val := half_byte x
      have ld1 := @fk_get ks v0 x
      have c1 : LM Try.prog 65 [ndV (ks x), bV (pB r)] [] fun o m => o = .ret (bV (Tr.get (ks x) r)) ∧ m = [] := ih x r _ (hr.2.2.1 x) (by rw [List.length_cons] at hp; omega)
      rw [show Tr.get (.fork ks v0) (x :: r) = Tr.get (ks x) r from rfl]
      generalize Tr.get (ks x) r = R at *
      clear ih hr
      refine LFx.mk' tt Try.func65 rfl rfl rfl (by kernel_rfl) rfl rfl fun F => ?_
      exact wk trueW trueW trueW
theorem mt_leaf : methB Try.prog 174 "lampbearer/tree.plain" 148 = true := by kernel_rfl
theorem mt_road : methB Try.prog 177 "lampbearer/tree.plain" 149 = true := by kernel_rfl
theorem mt_fork : methB Try.prog 181 "lampbearer/tree.plain" 150 = true := by kernel_rfl
set_option maxHeartbeats 4000000 in
theorem plainLeaf_ (p : Pa) (v : List UInt8) (hp : p.length ≤ 64) (hv : v.length ≤ 1024) : LF Try.prog 148 [.a [bV (pB p), bV v]] (fun _ => rnV (ofN (.leaf p v))) none := by
  have hl := pB_len p
  have c1 := own_ (pB p) (by omega)
  have c2 := own_ v (by omega)
  rw [show ofN (.leaf p v) = .mk 1 (pB p) v [] from rfl]
  simp only [rnV, rnC_eq]
  refine LFx.mk' tt Try.func148 rfl rfl rfl (by kernel_rfl) rfl rfl fun F => ?_
  exact wk trueW trueW trueW
end Te
end Lf
open Go.RowKit Rg Wm Ar
set_option linter.unusedVariables false
set_option maxRecDepth 100000
namespace Lf
open Tr
def zN : V := .a [.k (.int .i64 0), .nil, .nil, .nil]
def upE (ks : Fin 16 → Nd) (i : Nat) : List V := (List.finRange 16).map fun j => if j.val < i then rnV (ofN (ks j)) else zN
theorem upE_zero (ks : Fin 16 → Nd) : List.replicate 16 zN = upE ks 0 := by
  unfold upE
  simp only [Nat.not_lt_zero, if_false]
  rfl
theorem upE_len (ks : Fin 16 → Nd) (i : Nat) : (upE ks i).length = 16 := by unfold upE; rw [List.length_map, List.length_finRange]
theorem upE_all (ks : Fin 16 → Nd) : upE ks 16 = ((List.finRange 16).map fun j => ofN (ks j)).map rnV := by
  unfold upE
  rw [List.map_map]
  exact List.map_congr_left fun j _ => if_pos j.isLt
theorem upE_set (ks : Fin 16 → Nd) {i : Nat} (h : i < 16) : (upE ks i).set i (rnV (ofN (ks ⟨i, h⟩))) = upE ks (i + 1) := by
  apply List.ext_getElem?
  intro j
  rw [List.getElem?_set]
  by_cases hj : j < 16
  · have e : ∀ m, (upE ks m)[j]? = some (if j < m then rnV (ofN (ks ⟨j, hj⟩)) else zN) := fun m => by
      unfold upE
      rw [List.getElem?_map, List.getElem?_eq_getElem (by simp; exact hj)]
      simp
    rw [e, e]
    by_cases hij : i = j
    · subst hij
      rw [if_pos rfl, if_pos (by rw [upE_len]; exact h), if_pos (by omega)]
    · rw [if_neg hij]
      by_cases h2 : j < i
      · rw [if_pos h2, if_pos (by omega)]
      · rw [if_neg h2, if_neg (by omega)]
  · rw [if_neg (by omega), List.getElem?_eq_none (by rw [upE_len]; omega), List.getElem?_eq_none (by rw [upE_len]; omega)]
theorem upE_size (ks : Fin 16 → Nd) (i : Nat) : ∀ e ∈ upE ks i, e.cells.length = 4 := by
  intro e he
  obtain ⟨j, _, rfl⟩ := List.mem_map.1 he
  split
  · exact rnC_len _
  · rfl
attribute [irreducible] upE
namespace Te
set_option maxHeartbeats 4000000 in
theorem plainRoad_ (p : Pa) (ks : Fin 16 → Nd) (v : List UInt8) (hp : p.length ≤ 64)
    (c2 : LM Try.prog 150 [.a (fkC ks v)] [] fun o m => o = .ret (rnV (ofN (.fork ks v))) ∧ m = []) : LF Try.prog 149 [.a [bV (pB p), ndV (.fork ks v)]] (fun _ => rnV (ofN (.road p (.fork ks v)))) none := by
  have hl := pB_len p
  have c1 := own_ (pB p) (by omega)
  have hmt := mt_fork
  have hrf := tr_refs
  have hcv := tr_cv
  have hfk := fk_len ks v
  rw [show ofN (.road p (.fork ks v)) = .mk 2 (pB p) [] [ofN (.fork ks v)] from rfl]
  generalize ofN (.fork ks v) = x at *
  have hk4 := rnC_len x
  have hbr := rnC_bare
  rw [ndV_fork]
  simp only [rnV] at c2 ⊢
  rw [rnC_eq]
  refine LFx.mk' tt Try.func149 rfl rfl rfl (by kernel_rfl) rfl rfl fun F => ?_
  exact wk trueW trueW trueW
set_option maxHeartbeats 4000000 in
theorem plainFork_ (ks : Fin 16 → Nd) (v : List UInt8) (hv : v.length ≤ 1024)
    (ih : ∀ i, LM Try.prog 57 [ndV (ks i)] [] fun o m => o = .ret (rnV (ofN (ks i))) ∧ m = []) : LF Try.prog 150 [.a (fkC ks v)] (fun _ => rnV (ofN (.fork ks v))) none := by
  have c1 := own_ v (by omega)
  have hrf := tr_refs
  have hcv := tr_cv
  have hfk := fk_len ks v
  have hkd := kd_len ks
  have ld1 := @fk_val ks v
  have ld2 := @fk_kids ks v
  rw [show ofN (.fork ks v) = .mk 3 [] v ((List.finRange 16).map fun i => ofN (ks i)) from rfl]
  simp only [rnV]
  rw [rnC_eq, ← upE_all]
  have hzw : ZvAt zN := ⟨⟩
  have hz0 := upE_zero ks
  have hbr := rnC_bare
  refine LFx.mk' tt Try.func150 rfl rfl rfl (by kernel_rfl) rfl rfl fun F => ?_
  refine wk ?_ trueW trueW
  refine LC.loopN (fun i => [(2, .p 2 0), (3, .p 3 0), (12, .a (kdC ks)), (13, .k (.int .i64 ((i : Nat) : Int)))]) (fun i => [(3, .b [.k (.int .i64 3), .nil, .s (some 8) (v.map bK), .w 9 0 4 0 16]), (8, .r 5 1 v.length), (9, .w 37 4 0 (upE ks i)), (2, .b [.k (.int .i64 0), .nil, .nil, .nil])]) (fun i => i ≤ 16) ((16 - ·)) (0) (by omega) ⟨rfl, rfl, rfl, rfl, trivial⟩ ⟨rfl, rfl, rfl, rfl, trivial⟩ rfl rfW rfW ?_
  intro i hi
  have hel := upE_len ks i
  have hes := upE_size ks i
  rcases Nat.lt_or_ge i 16 with h | h
  · have hst := upE_set ks h
    have hok : i + 1 ≤ 16 := h
    have c2 := ih ⟨i, h⟩
    have ld3 := @kd_get ks ⟨i, h⟩
    have hk4 := rnC_len (ofN (ks ⟨i, h⟩))
    clear ih
    refine wk ?_ trueW trueW
    rw [hst]
    exact wk trueW trueW trueW
  · obtain rfl : i = 16 := by omega
    have hfw : FrzBuf 7 3 3 9 := ⟨⟩
    clear ih
    exact wk trueW trueW trueW
theorem show_all : ∀ (n : Nd) (d : Nat), Right n d → LF Try.prog 57 [ndV n] (fun _ => rnV (ofN n)) none ∧ ∀ ks v, n = .fork ks v → LF Try.prog 150 [.a (fkC ks v)] (fun _ => rnV (ofN n)) none := by
  intro n
  have hrf := tr_refs
  have hcv := tr_cv
  have hbr := rnC_bare
  induction n with
  | no =>
    intro d _
    refine ⟨?_, fun _ _ e => by cases e⟩
    rw [ndV_no, show ofN .no = .mk 0 [] [] [] from rfl]
    simp only [rnV, rnC_eq]
    refine LFx.mk' tt Try.func57 rfl rfl rfl (by kernel_rfl) rfl rfl fun F => ?_
    exact wk trueW trueW trueW
  | leaf p v =>
    intro d hr
    refine ⟨?_, fun _ _ e => by cases e⟩
    have c1 := plainLeaf_ p v (right_plen hr) hr.2.2
    have hmt := mt_leaf
    generalize ofN (.leaf p v) = x at *
    have hk4 := rnC_len x
    rw [ndV_leaf]
    refine LFx.mk' tt Try.func57 rfl rfl rfl (by kernel_rfl) rfl rfl fun F => ?_
    exact wk trueW trueW trueW
  | road p k ih =>
    intro d hr
    refine ⟨?_, fun _ _ e => by cases e⟩
    obtain ⟨ks, v, rfl⟩ := fork_is hr.2.1
    have c1 := plainRoad_ p ks v (right_plen hr) ((ih _ hr.2.2).2 ks v rfl)
    have hmt := mt_road
    have hfk := fk_len ks v
    generalize ofN (.road p (.fork ks v)) = x at *
    have hk4 := rnC_len x
    rw [ndV_fork] at c1
    rw [ndV_road, ndV_fork]
    refine LFx.mk' tt Try.func57 rfl rfl rfl (by kernel_rfl) rfl rfl fun F => ?_
    exact wk trueW trueW trueW
  | fork ks v ih =>
    intro d hr
    have c0 := plainFork_ ks v hr.1 fun i => (ih i _ (hr.2.2.1 i)).1
    refine ⟨?_, fun ks' v' e => by cases e; exact c0⟩
    have c1 := c0
    have hmt := mt_fork
    have hfk := fk_len ks v
    clear ih c0
    generalize ofN (.fork ks v) = x at *
    have hk4 := rnC_len x
    rw [ndV_fork]
    refine LFx.mk' tt Try.func57 rfl rfl rfl (by kernel_rfl) rfl rfl fun F => ?_
    exact wk trueW trueW trueW
end Te
end Lf
open Go.RowKit Rg Wm Ar
set_option linter.unusedVariables false
set_option maxRecDepth 100000
namespace Lf
open Tr
abbrev erV (n : Nat) : V := .k (.int .i64 ((n : Nat) : Int))
theorem keyP_le {l : List UInt8} (h : l.length ≤ 32) : (keyP l).length ≤ 64 := by rw [keyP_len]; omega
theorem get_len : ∀ {n : Nd} {d : Nat}, Right n d → ∀ q, (Tr.get n q).length ≤ 1024
  | .no, _, _, q => by rw [show Tr.get .no q = [] from rfl]; exact Nat.zero_le _
  | .leaf p v, _, h, q => by
    unfold Tr.get
    split
    · exact h.2.2
    · exact Nat.zero_le _
  | .road p k, _, h, q => by
    unfold Tr.get
    cases rest p q with
    | none => exact Nat.zero_le _
    | some r => exact get_len h.2.2 r
  | .fork ks v, _, h, [] => h.1
  | .fork ks v, _, h, x :: q => get_len (h.2.2.1 x) q
namespace Te
set_option maxHeartbeats 4000000 in
theorem Get_ok (x : Rn) (key : List UInt8) (hx : x.size < 1000000000) (hr : rt x 0 = true) (hk : key.length ≤ 32) : LF Try.prog 32 [rnV x, bV key] (fun _ => .t [bV (Tr.get (toN x) (keyP key)), erV 0]) none := by
  have c1 := Right_ x hx
  rw [hr] at c1
  have c2 := inner_ x.size x 0 (Nat.le_refl _) hx hr
  have c3 := Halves_ key (by omega)
  have hR := rt_right x.size x 0 (Nat.le_refl _) hr
  have c4 := get_ (toN x) (keyP key) 0 hR (keyP_le hk)
  have hgl := get_len hR (keyP key)
  have c5 := own_ (Tr.get (toN x) (keyP key)) (by omega)
  have hk4 := rnC_len x
  have hrf := tr_refs
  have hcv := tr_cv
  generalize Tr.get (toN x) (keyP key) = G at *
  generalize pB (keyP key) = K at *
  clear hR
  refine LFx.mk' tt Try.func32 rfl rfl rfl (by kernel_rfl) rfl rfl fun F => ?_
  exact wk trueW trueW trueW
set_option maxHeartbeats 4000000 in
theorem Put_no (x : Rn) (key v : List UInt8) (hx : x.size < 1000000000) (hr : rt x 0 = false) : LF Try.prog 28 [rnV x, bV key, bV v] (fun _ => .t [rnV Rn.no, erV 1]) none := by
  have c1 := Right_ x hx
  rw [hr] at c1
  have hk4 := rnC_len x
  have hrf := tr_refs
  rw [show Rn.no = .mk 0 [] [] [] from rfl, show rnV (.mk 0 [] [] []) = .a [.k (.int .i64 0), bV [], bV [], .s none []] by unfold rnV; rw [rnC_eq]; rfl]
  refine LFx.mk' tt Try.func28 rfl rfl rfl (by kernel_rfl) rfl rfl fun F => ?_
  exact wk trueW trueW trueW
set_option maxHeartbeats 4000000 in
theorem Put_key (x : Rn) (key v : List UInt8) (hx : x.size < 1000000000) (hr : rt x 0 = true) (hk : 32 < key.length) : LF Try.prog 28 [rnV x, bV key, bV v] (fun _ => .t [rnV Rn.no, erV 3]) none := by
  have c1 := Right_ x hx
  rw [hr] at c1
  have hk4 := rnC_len x
  have hrf := tr_refs
  rw [show Rn.no = .mk 0 [] [] [] from rfl, show rnV (.mk 0 [] [] []) = .a [.k (.int .i64 0), bV [], bV [], .s none []] by unfold rnV; rw [rnC_eq]; rfl]
  refine LFx.mk' tt Try.func28 rfl rfl rfl (by kernel_rfl) rfl rfl fun F => ?_
  exact wk trueW trueW trueW
set_option maxHeartbeats 4000000 in
theorem Put_long (x : Rn) (key v : List UInt8) (hx : x.size < 1000000000) (hr : rt x 0 = true) (hk : key.length ≤ 32) (hv : 1024 < v.length) : LF Try.prog 28 [rnV x, bV key, bV v] (fun _ => .t [rnV Rn.no, erV 2]) none := by
  have c1 := Right_ x hx
  rw [hr] at c1
  have hk4 := rnC_len x
  have hrf := tr_refs
  rw [show Rn.no = .mk 0 [] [] [] from rfl, show rnV (.mk 0 [] [] []) = .a [.k (.int .i64 0), bV [], bV [], .s none []] by unfold rnV; rw [rnC_eq]; rfl]
  refine LFx.mk' tt Try.func28 rfl rfl rfl (by kernel_rfl) rfl rfl fun F => ?_
  exact wk trueW trueW trueW
set_option maxHeartbeats 4000000 in
theorem Put_ok (x : Rn) (key v : List UInt8) (hx : x.size < 1000000000) (hr : rt x 0 = true) (hk : key.length ≤ 32) (hv : v.length ≤ 1024) : LF Try.prog 28 [rnV x, bV key, bV v] (fun _ => .t [rnV (ofN (Tr.put (toN x) (keyP key) v)), erV 0]) none := by
  have c1 := Right_ x hx
  rw [hr] at c1
  have c2 := inner_ x.size x 0 (Nat.le_refl _) hx hr
  have c3 := Halves_ key (by omega)
  have hR := rt_right x.size x 0 (Nat.le_refl _) hr
  have he : ends (0 + (keyP key).length) := by rw [Nat.zero_add]; exact keyP_ends hk
  have c4 := put_ (toN x) (keyP key) v 0 hR he hv
  have c5 := (show_all _ _ (right_put (toN x) (keyP key) v 0 hR he hv)).1
  have hk4 := rnC_len x
  have hrf := tr_refs
  have hcv := tr_cv
  generalize Tr.put (toN x) (keyP key) v = G at *
  have hk5 := rnC_len (ofN G)
  generalize pB (keyP key) = K at *
  clear hR he
  refine LFx.mk' tt Try.func28 rfl rfl rfl (by kernel_rfl) rfl rfl fun F => ?_
  exact wk trueW trueW trueW
end Te
end Lf
open Go.RowKit Rg Wm Ar
set_option linter.unusedVariables false
set_option maxRecDepth 100000
namespace Lf
open Tr
abbrev Pr := List UInt8 × List UInt8
def prC (p : Pr) : List V := [bV p.1, bV p.2]
abbrev prV (p : Pr) : V := .a (prC p)
abbrev prsV (ps : List Pr) : V := .s none (ps.map prV)
theorem prC_len (p : Pr) : (prC p).length = 2 := rfl
theorem prC_eq (p : Pr) : prC p = [bV p.1, bV p.2] := rfl
theorem prC_refs (m : Mem) (p : Pr) : V.refs.go m (prC p) = true := rfl
theorem prC_bare (p : Pr) : (prV p).bare = some (prV p) := rfl
theorem pr_key {p : Pr} {ti : TI} (hd : ti.d.agg = false) : ti.part (prC p) 0 = some (bV p.1) := by
  unfold TI.part; simp [hd, prC]
theorem pr_val {p : Pr} {ti : TI} (hd : ti.d.agg = false) : ti.part (prC p) (0 + 1) = some (bV p.2) := by
  unfold TI.part; simp [hd, prC]
attribute [irreducible] prC
def pkP (p : Pr) : Pa × List UInt8 := (keyP p.1, p.2)
def ofP (ps : List Pr) : Nd := ofL .no (ps.map pkP)
def prOk (p : Pr) : Prop := p.1.length ≤ 32 ∧ p.2.length ≤ 1024
theorem ofP_take {ps : List Pr} {i : Nat} (h : i < ps.length) : ofP (ps.take (i + 1)) = Tr.put (ofP (ps.take i)) (keyP (ps.getD i default).1) (ps.getD i default).2 := by
  unfold ofP
  rw [List.take_succ_eq_append_getElem h, List.map_append, List.getD_eq_getElem?_getD, List.getElem?_eq_getElem h]
  unfold ofL
  rw [List.foldl_append]
  rfl
theorem ofP_right {ps : List Pr} (h : ∀ p ∈ ps, prOk p) : Right (ofP ps) 0 := by
  unfold ofP
  refine right_ofL _ _ trivial fun e he => ?_
  obtain ⟨p, hp, rfl⟩ := List.mem_map.1 he
  exact ⟨keyP_ends (h p hp).1, (h p hp).2⟩
theorem getD_memP {ps : List Pr} {i : Nat} (h : i < ps.length) : ps.getD i default ∈ ps := by
  rw [List.getD_eq_getElem?_getD, List.getElem?_eq_getElem h]; exact List.getElem_mem h
theorem mem_take_ok {ps : List Pr} {i : Nat} (h : ∀ j, j < i → prOk (ps.getD j default)) (hi : i ≤ ps.length) : ∀ p ∈ ps.take i, prOk p := by
  intro p hp
  obtain ⟨j, hj, e⟩ := List.mem_iff_getElem.1 hp
  rw [List.length_take] at hj
  rw [List.getElem_take] at e
  have := h j (by omega)
  rwa [List.getD_eq_getElem?_getD, List.getElem?_eq_getElem (by omega), Option.getD_some, e] at this
theorem first_bad {ps : List Pr} (h : ¬ ∀ p ∈ ps, prOk p) : ∃ i, i < ps.length ∧ ¬ prOk (ps.getD i default) ∧ ∀ j, j < i → prOk (ps.getD j default) := by
  induction ps with
  | nil => exact absurd (fun p hp => by cases hp) h
  | cons a r ih =>
    by_cases ha : prOk a
    · obtain ⟨i, h1, h2, h3⟩ := ih fun hr => h fun p hp => by
        rcases List.mem_cons.1 hp with rfl | hp
        · exact ha
        · exact hr p hp
      refine ⟨i + 1, by simp; omega, by rw [List.getD_cons_succ]; exact h2, fun j hj => ?_⟩
      cases j with
      | zero => exact ha
      | succ j => rw [List.getD_cons_succ]; exact h3 j (by omega)
    · exact ⟨0, by simp, ha, fun j hj => by omega⟩
theorem LC.sloteq {P : Program} {F : Fr0} {N : Nat} {c : Code} {Q : LQ} {env : Env} {mem : Mem} {v v' : V} (t : Nat) (h : aget env t = some v) (e : v = v') (hK : LC P F N c Q ((t, v') :: env) mem) : LC P F N c Q env mem := by
  subst e
  refine ⟨fun F0 hx g a w hr => hK.go F0 hx g a w (hr.congr ⟨fun j => ?_, fun _ => rfl⟩)⟩
  rw [aget_cons]
  split
  · rename_i e; subst e; exact h
  · rfl
namespace Te
set_option maxHeartbeats 4000000 in
theorem Of_ (ps : List Pr) (hl : ps.length < 1000000000) (hb : ∀ p ∈ ps, p.1.length < 1000000000 ∧ p.2.length < 1000000000) :
    ((∀ p ∈ ps, prOk p) ∧ LF Try.prog 33 [prsV ps] (fun _ => .t [rnV (ofN (ofP ps)), erV 0]) none) ∨
    ((∃ p ∈ ps, ¬ prOk p) ∧ ∃ e, (e = 2 ∨ e = 3) ∧ LF Try.prog 33 [prsV ps] (fun _ => .t [rnV Rn.no, erV e]) none) := by
  have hrf : ∀ m : Mem, (∀ n, (ndV n).refs m = true) ∧ (∀ ks v, V.refs.go m (fkC ks v) = true) ∧ (∀ x, V.refs.go m (rnC x) = true) ∧ (∀ p, V.refs.go m (prC p) = true) := fun m => ⟨nd_refs m, fk_refs m, rnC_refs m, prC_refs m⟩
  have hcv := tr_cv
  have hbr := prC_bare
  have ld1 := @pr_key
  have ld2 := @pr_val

  by_cases hall : ∀ p ∈ ps, prOk p
  · refine .inl ⟨hall, ?_⟩
    have hall2 : ∀ j, j < ps.length → prOk (ps.getD j default) := fun j hj => hall _ (getD_memP hj)
    have c5 := (show_all _ _ (ofP_right hall)).1
    have hk5 := rnC_len (ofN (ofP ps))
    refine LFx.mk' tt Try.func33 rfl rfl rfl (by kernel_rfl) rfl rfl fun F => ?_
    refine wk ?_ trueW trueW
    refine LC.sloteq 4 rfl ndV_no.symm ?_
    refine LC.loop2 (fun i S => [(2, .p 2 0), (4, ndV S), (7, prsV ps), (8, .k (.int .i64 ((ps.length : Nat) : Int))), (9, .k (.int .i64 ((i : Nat) : Int)))]) (fun i S => [(2, .b [.k (.int .i64 0), .nil, .nil, .nil])]) (fun i S => i ≤ ps.length ∧ S = ofP (ps.take i)) ((ps.length - ·)) (0) (Nd.no) ⟨by omega, by rw [List.take_zero]; rfl⟩ ⟨rfl, rfl, rfl, rfl, rfl, trivial⟩ ⟨rfl, trivial⟩ rfl rfW rfW ?_
    rintro i S ⟨hi, hS⟩
    rcases Nat.lt_or_ge i ps.length with h | h
    · have hp := hall2 i h
      have hpl := prC_len (ps.getD i default)
      have hp1 := hp.1
      have hp2 := hp.2
      have hR : Right S 0 := by rw [hS]; exact ofP_right (mem_take_ok (fun j hj => hall2 j (by omega)) hi)
      have c3 := Halves_ (ps.getD i default).1 (by omega)
      have c4 := put_ S (keyP (ps.getD i default).1) (ps.getD i default).2 0 hR (by rw [Nat.zero_add]; exact keyP_ends hp1) hp2
      have hok : i + 1 ≤ ps.length ∧ Tr.put S (keyP (ps.getD i default).1) (ps.getD i default).2 = ofP (ps.take (i + 1)) := ⟨h, by rw [ofP_take h, hS]⟩
      clear hS hR hall hall2 c5 hp
      exact wk trueW trueW trueW
    · obtain rfl : i = ps.length := by omega
      rw [List.take_length] at hS
      rw [← hS] at c5 hk5 ⊢
      clear hS hall hall2
      exact wk trueW trueW trueW
  · refine .inr ⟨by simpa only [Classical.not_forall, exists_prop] using hall, ?_⟩
    obtain ⟨i0, hi0, hbad, hgood⟩ := first_bad hall
    have hbb := hb _ (getD_memP hi0)
    obtain ⟨e, he, h1, h2⟩ : ∃ e, (e = 2 ∨ e = 3) ∧ (32 < (ps.getD i0 default).1.length ∨ ((ps.getD i0 default).1.length ≤ 32 ∧ 1024 < (ps.getD i0 default).2.length)) ∧ (e = 3 ↔ 32 < (ps.getD i0 default).1.length) := by
      by_cases h : 32 < (ps.getD i0 default).1.length
      · exact ⟨3, .inr rfl, .inl h, fun _ => h, fun _ => rfl⟩
      · refine ⟨2, .inl rfl, .inr ⟨by omega, ?_⟩, fun e => (by cases e), fun e => absurd e h⟩
        unfold prOk at hbad
        omega
    refine ⟨e, he, ?_⟩
    rw [show Rn.no = .mk 0 [] [] [] from rfl, show rnV (.mk 0 [] [] []) = .a [.k (.int .i64 0), bV [], bV [], .s none []] by unfold rnV; rw [rnC_eq]; rfl]
    clear hall hb hbad
    refine LFx.mk' tt Try.func33 rfl rfl rfl (by kernel_rfl) rfl rfl fun F => ?_
    refine wk ?_ trueW trueW
    refine LC.sloteq 4 rfl ndV_no.symm ?_
    refine LC.loop2 (fun i S => [(2, .p 2 0), (4, ndV S), (7, prsV ps), (8, .k (.int .i64 ((ps.length : Nat) : Int))), (9, .k (.int .i64 ((i : Nat) : Int)))]) (fun i S => [(2, .b [.k (.int .i64 0), .nil, .nil, .nil])]) (fun i S => i ≤ i0 ∧ S = ofP (ps.take i)) ((i0 - ·)) (0) (Nd.no) ⟨by omega, by rw [List.take_zero]; rfl⟩ ⟨rfl, rfl, rfl, rfl, rfl, trivial⟩ ⟨rfl, trivial⟩ rfl rfW rfW ?_
    rintro i S ⟨hi, hS⟩
    have hip : i < ps.length := by omega
    have hpl := prC_len (ps.getD i default)
    rcases Nat.lt_or_ge i i0 with h | h
    · have hp := hgood i h
      have hp1 := hp.1
      have hp2 := hp.2
      have hR : Right S 0 := by rw [hS]; exact ofP_right (mem_take_ok (fun j hj => hgood j (by omega)) (by omega))
      have c3 := Halves_ (ps.getD i default).1 (by omega)
      have c4 := put_ S (keyP (ps.getD i default).1) (ps.getD i default).2 0 hR (by rw [Nat.zero_add]; exact keyP_ends hp1) hp2
      have hok : i + 1 ≤ i0 ∧ Tr.put S (keyP (ps.getD i default).1) (ps.getD i default).2 = ofP (ps.take (i + 1)) := ⟨h, by rw [ofP_take hip, hS]⟩
      clear hS hR hgood hp he h1 h2
      exact wk trueW trueW trueW
    · obtain rfl : i = i0 := by omega
      clear hS hgood
      rcases he with rfl | rfl
      · rcases h1 with h1 | ⟨h1, h3⟩
        · exact absurd (h2.2 h1) (by omega)
        · clear h2
          exact wk trueW trueW trueW
      · have h3 := h2.1 rfl
        clear h1 h2
        exact wk trueW trueW trueW
end Te
end Lf
namespace Lf
namespace Te
end Te
end Lf
namespace Lf
namespace Te
end Te
end Lf
open Go.RowKit Rg
namespace Lf
def Fr0.gh (F : Fr0) : Gh := ⟨F.S0, F.bx0, F.rw0⟩
theorem ev_start {F : Fr0} {g : Gh} {mem : Mem} {w : World} (hm : RelM F g mem w) (hk : Kept F g w) : Ev F.gh F.w0 g w :=
  ⟨hk.size, fun b o hb hs => ⟨hk.S2 b o hb hs, hk.cellS b o hb hs⟩, hm.loc.bx, hm.loc.rw⟩
theorem ev_only {g0 g : Gh} {w0 w : World} {mi : Mem} (h : Ev g0 w0 g w) (hk : ∀ i, aget mi i = none → g0.bx i = none ∧ g0.rw i = none) : Ev g0 w0 (g.only mi) w := by
  refine ⟨h.size, h.st, fun i z hz => ?_, fun i a l c hr => ?_⟩
  · have : (aget mi i).isSome = true := by
      cases hi : aget mi i with
      | some m => rfl
      | none => rw [(hk i hi).1] at hz; cases hz
    simp only [Gh.only]; rw [if_pos this]; exact h.bx i z hz
  · have : (aget mi i).isSome = true := by
      cases hi : aget mi i with
      | some m => rfl
      | none => rw [(hk i hi).2] at hr; cases hr
    obtain ⟨a', l', c', k1, k2⟩ := h.rw i a l c hr
    exact ⟨a', l', c', by simp only [Gh.only]; rw [if_pos this]; exact k1, k2⟩
section
variable {P : Program}
structure LY (P : Program) (g0 : Gh) (w0 : World) (y : Nat) (args : List V) (mi : Mem) (R : Out → Mem → Prop) : Prop where
  go : ∀ (g : Gh) (w : World) (vals : Array Value) (l o : Nat), Ev g0 w0 g w → RelM (lentF g mi w) g mi w → g.bx y = some (l, o) → args.length = vals.size → (∀ (j : Nat) u x, args[j]? = some u → vals[j]? = some x → Rep w g u x) →
    YieldAt Fence.wide 0 P l vals w fun e w' => ∃ q mo g', R q mo ∧ Ev g w g' w' ∧ RelM (lentF g mi w) g' mo w' ∧ Kept (lentF g mi w) g' w' ∧ q.At w' g' e
theorem round_any {F : Fr0} {m l f : Nat} {tmps : Array Value} {assign body : Code} {w : World} {R : Ending → World → Prop} (h : RoundIn Fence.wide m P l f tmps assign body w R) (n : Nat) : RoundIn F.fz n P l f tmps assign body w R :=
  ⟨trivial, fun c cs _ => h.2 c cs (room_wide _)⟩
theorem exec_yield {o : Oper} {l fn : Nat} {f : Operand} {xs : List Operand} {ts : Array Nat} {tmps : Array Value} {assign body : Code} (ho : o.op = .call { callee := .value f, args := xs.toArray, argTypes := ts }) (a : Act) (w : World) (hf : a.eval f = .func (.yield l) #[] #[])
    (hy : (Instr.yield l (xs.map a.eval).toArray).run P w = .ok (.round l fn tmps assign body) w) : (execOp a.eval o).run P w = .ok (.round l fn tmps assign body) w := by
  have hy' : (Instr.yield l (xs.toArray.map a.eval)).run P w = .ok (.round l fn tmps assign body) w := by simpa using hy
  simp [execOp, ho, resolve, hf, Deferred.ofValue, invoke]
  exact hy
theorem DoesF.yield {F : Fr0} {o : Oper} {env : Env} {y : Nat} {f : Operand} {xs : List Operand} {ts : Array Nat} {us args : List V} {mi mo : Mem} {v : V} (hc : LY P F.gh F.w0 y args mi fun q m => q = .ret v ∧ m = mo)
    (ho : o.op = .call { callee := .value f, args := xs.toArray, argTypes := ts }) (hf : evo env f = some (.y y)) (hx : evs env xs = some us) (hu : Fits us args) (hr : (V.refs.go mi args && (refsM mi mi && keysOk mi mo)) = true) (hy : (aget mi y).isSome = true) (hk : ∀ i, aget mi i = none → F.bx0 i = none ∧ F.rw0 i = none) : DoesF P F o env v (callT mi mo) := by
  refine ⟨fun F0 hx0 g a w mem h1 h2 h3 h4 hd K Q hK => ?_⟩
  simp only [Bool.and_eq_true] at hr
  obtain ⟨l1, l2⟩ := args_rep (fun x hxm u hxu => h1 x (by simp [ho, Op.operands, Call.operands]; exact .inr hxm) u hxu) hx hu
  obtain ⟨t1, t2⟩ := tpre_call h4 hr.2.2
  have hfv := h1 f (by simp [ho, Op.operands, Call.operands]) _ hf
  obtain ⟨l, o', hb, hfe⟩ : ∃ l o', g.bx y = some (l, o') ∧ a.eval f = .func (.yield l) #[] #[] := by
    generalize a.eval f = z at hfv
    cases hfv with
    | y h => exact ⟨_, _, h, rfl⟩
  have hrel : RelM (lentF (g.only mi) mi w) (g.only mi) mi w := h2.sub t1 hr.2.1 ⟨(show TabAt w g.S from h2.loc.tab.kept h3), fun _ _ h => h, fun _ a l c h => ⟨a, l, c, h, Nat.le_refl _, fun _ => ⟨rfl, rfl⟩⟩⟩ fun i m b o hi hp => .inr ⟨i, m, hi, (fp_congr (only_at hi).1 (only_at hi).2).2 hp⟩
  have hev : Ev F.gh F.w0 (g.only mi) w := ev_only (ev_start (hx0.relM h2) (hx0.kept _ _ h3)) hk
  have hby : (g.only mi).bx y = some (l, o') := by simp only [Gh.only]; rw [if_pos hy]; exact hb
  obtain ⟨fn, tmps, assign, body, hrun, hround⟩ := hc.go (g.only mi) w _ l o' hev hrel hby l1 fun j u x hj hxj => (l2 j u x hj hxj).only (refs_go hr.1 u (List.mem_of_getElem? hj))
  refine ⟨fun _ _ => trivial, ?_⟩
  rw [Oper.semAt_eq _ _ _ (fun c e => by rw [ho] at e; cases e), exec_yield ho a w hfe hrun, Oper.uponIn_round]
  refine ⟨fun h => (by cases h), RoundIn.mono (round_any hround _) ?_⟩
  rintro e w' ⟨q, mo', g', ⟨rfl, rfl⟩, he, hm', hk', x, rfl, hat⟩
  obtain ⟨g2, k1, k2, k3, k4⟩ := call_state h2 h3 t1 hr.2.2 t2 he hm' hk'
  exact hK x g2 w' k1 (by rw [tset_call]; exact k2) k3 (k4 _ _ hat)
structure LI (P : Program) (f : Nat) (args : List V) (mi : Mem) (Y : Gh → World → Prop) (R : Out → Mem → Prop) : Prop where
  ok : callOk P f = true
  go : ∀ (g : Gh) (w : World) (vals : Array Value), Y g w → RelM (lentF g mi w) g mi w → args.length = vals.size → (∀ (j : Nat) u x, args[j]? = some u → vals[j]? = some x → Rep w g u x) →
    Calls P f vals w fun e w' => ∃ o mo g', R o mo ∧ Ev g w g' w' ∧ RelM (lentF g mi w) g' mo w' ∧ Kept (lentF g mi w) g' w' ∧ o.At w' g' e
theorem LI.enter (X : TOk P) {f N : Nat} {fn : Func} {c : Code} {args : List V} {rs : List ResultVar} {mi : Mem} {Y : Gh → World → Prop} {R : Out → Mem → Prop} (hf : P.funcs[f]? = some fn) (hb : fn.body = some c) (hN : fn.ntmps = N) (hrs : fn.results = rs.toArray) (hok : callOk P f = true)
    (hle : Nat.ble args.length N = true) (hrl : Nat.ble rs.length 3 = true) (hbig : (mi.all fun x => Nat.ble 1000 x.1) = true) (hks : ∀ o mo, R o mo → keysOk mi mo = true) (h : ∀ F, F.D = [] → Y F.gh F.w0 → (∀ i, aget mi i = none → F.bx0 i = none ∧ F.rw0 i = none) → LC P F N c (LRet X rs R) (params 0 args) mi) : LI P f args mi Y R :=
  ⟨hok, fun _ _ _ hY hm hl hr => enter_core X hf hb hN hrs hle hrl hbig hks hm hl hr false (h _ rfl hY fun i hi => ⟨hm.nbx i hi, hm.nrw i hi⟩)⟩
end
end Lf
open Go.RowKit Rg
namespace Lf
section
variable {P : Program} {F : Fr0} {g : Gh} {mem : Mem} {w : World}
theorem relM_ro {ro : Option Nat} {mk : Bool} (h : RelM F g mem w) : RelM { F with ro := ro, lm := mk } g mem w := ⟨h.ob, h.wr, h.dj, h.nbx, h.nrw, h.fut, ⟨h.loc.tab, h.loc.bx, h.loc.rw⟩⟩
theorem relM_or {ro : Option Nat} {mk : Bool} (h : RelM { F with ro := ro, lm := mk } g mem w) : RelM F g mem w := ⟨h.ob, h.wr, h.dj, h.nbx, h.nrw, h.fut, ⟨h.loc.tab, h.loc.bx, h.loc.rw⟩⟩
theorem kept_or {ro : Option Nat} {mk : Bool} (h : Kept { F with ro := ro, lm := mk } g w) : Kept F g w := ⟨h.os, h.tape, h.output, h.size, h.blk, h.cell, h.S1, h.S2, h.cellS⟩
def recL (fn : Nat) (tmps : Array Value) (ps : Array Tmp) (assign body : Code) (D : Nat) (st : LoopState) (pe : Option Code) : Loop := { state := st, pending := pe, fn, tmps, params := ps, assign, body, defers := D }
abbrev LoF := LoopState → Option Code → Obj
def LRnd (lo : LoF) (y : Nat) (R : Bool → Mem → Prop) : LQ
  | .normal, _, mem => aget mem y = some (.o (lo .busy none)) ∧ ∃ mo, SubM ((y, .o (lo .ready none)) :: mem) mo ∧ refsM mo mo = true ∧ R true mo
  | .exit id, _, mem => aget mem y = some (.o (lo .busy none)) ∧ ∃ mo, SubM ((y, .o (lo .done (some (.exit id)))) :: mem) mo ∧ refsM mo mo = true ∧ R false mo
  | .ret, _, mem => aget mem y = some (.o (lo .busy none)) ∧ ∃ mo, SubM ((y, .o (lo .done (some .ret))) :: mem) mo ∧ refsM mo mo = true ∧ R false mo
  | _, _, _ => False
def LAs (P : Program) (F : Fr0) (N : Nat) (body : Code) (lo : LoF) (y : Nat) (R : Bool → Mem → Prop) : LQ
  | .normal, env, mem => aget mem y = some (.o (lo .ready none)) ∧ LC P F N body (LRnd lo y R) env ((y, .o (lo .busy none)) :: mem)
  | _, _, _ => False
theorem set_rec (hm : RelM F g mem w) (hk : Kept F g w) {y l o : Nat} {r : Loop} {r' : Loop} (hb : g.bx y = some (l, o)) (hi : aget mem y = some (.o (.loop r))) :
    w.heap[l]? = some (.loop r) ∧ Ev g w g (w.putObj l (.loop r')) ∧ RelM F g ((y, .o (.loop r')) :: mem) (w.putObj l (.loop r')) ∧ Kept F g (w.putObj l (.loop r')) := by
  cases hm.ob y _ hi with
  | o hg h hS =>
    rw [hb] at hg
    cases hg
    have hlt := (Array.getElem?_eq_some_iff.1 h).1
    exact ⟨h, hm.setO hk (m' := .o (.loop r')) (ob := .loop r') hi (fun _ _ => Iff.rfl) hb hS rfl rfl rfl rfl (fun _ => .o hb (World.putObj_heap_same hlt) hS) (fun _ _ hp => hp)⟩
theorem end_round {mi mo mem1 : Mem} {w0 w1 : World} {g0 g1 : Gh} (b : Bool) {R : Bool → Mem → Prop} (h0 : RelM (lentF g0 mi w0) g0 mi w0) (hm : RelM (lentF g0 mi w0) g1 mem1 w1) (hk : Kept (lentF g0 mi w0) g1 w1) (hs : SubM mem1 mo) (hr : refsM mo mo = true) (hko : keysOk mi mo = true) (hR : R b mo) :
    ∃ q mo g', (∃ b, q = Out.ret (.k (.bool b)) ∧ R b mo) ∧ Ev g0 w0 g' w1 ∧ RelM (lentF g0 mi w0) g' mo w1 ∧ Kept (lentF g0 mi w0) g' w1 ∧ q.At w1 g' (.returned (.bool b)) := by
  have ht : Tells mem1 (.k (.bool b)) (.k (.bool b)) mo := ⟨⟨fun _ => true, false, rfl⟩, hs, by rw [hr]; rfl⟩
  obtain ⟨r1, r2, r3, r4⟩ := ht.rep rfl hko h0 (Rep.k (.bool b)) hm hk
  exact ⟨.ret (.k (.bool b)), mo, _, ⟨b, rfl, hR⟩, r4, r2, r3, .bool b, rfl, r1⟩
theorem LY.round {N y p fn D : Nat} {tmps : Array Value} {assign body : Code} {env : Env} {v : V} {mi : Mem} {g0 : Gh} {w0 : World} {R : Bool → Mem → Prop} (hN : tmps.size = N) (henv : ∀ t u, aget env t = some u → ∃ x, tmps[t]? = some x ∧ Rep w0 g0 u x)
    (hp : Nat.blt p N = true) (hbig : (mi.all fun x => Nat.ble 1000 x.1) = true) (hmi : aget mi y = some (.o (.loop (recL fn tmps #[p] assign body D .ready none)))) (hks : ∀ b m, R b m → keysOk mi m = true)
    (h : ∀ F, F.D = [] → LC P F N assign (LAs P F N body (fun st pe => .loop (recL fn tmps #[p] assign body D st pe)) y R) ((p, v) :: env) mi) :
    LY P g0 w0 y [v] mi fun q m => ∃ b, q = .ret (.k (.bool b)) ∧ R b m := by
  refine ⟨fun g w vals l o hev hm hb hl hr => ?_⟩
  have hpN : p < N := Nat.le_of_ble_eq_true hp
  obtain ⟨hrec, _, _, _⟩ := set_rec (F := lentF g mi w) (r' := recL fn tmps #[p] assign body D .ready none) hm ⟨rfl, rfl, rfl, Nat.le_refl _, fun _ _ _ => rfl, fun _ _ _ _ => ⟨rfl, rfl⟩, fun _ _ _ _ h => h, fun _ _ _ h => h, fun _ _ _ _ => rfl⟩ hb hmi
  obtain ⟨x, hvals⟩ : ∃ x, vals = #[x] := by
    obtain ⟨l⟩ := vals
    match l, hl with
    | [x], _ => exact ⟨x, rfl⟩
  subst hvals
  have hx : Rep w g v x := hr 0 v x rfl rfl
  refine ⟨fn, _, assign, body, run_yield hrec (by rfl), roundIn_of_wpIn trivial ?_⟩
  let FR : Fr0 := { lentF g mi w with ro := some l, lm := false }
  have hbg : FR.Big := fun i hi => by
    have : aget mi i = none := by
      cases hg : aget mi i with
      | none => rfl
      | some m =>
        have h1 := Nat.le_of_ble_eq_true (List.all_eq_true.1 hbig _ (aget_mem hg))
        exact absurd h1 (by simp; omega)
    exact ⟨hm.nbx i this, hm.nrw i this⟩
  have hrel : Rel FR N g ((p, v) :: env) mi { tmps := tmps.setIfInBounds p x, defers := [] } w := by
    refine ⟨fun t u hu => ?_, relM_ro hm, ⟨rfl, rfl, rfl, Nat.le_refl _, fun _ _ _ => rfl, fun _ _ _ _ => ⟨rfl, rfl⟩, fun _ _ _ _ h => h, fun _ _ _ h => h, fun _ _ _ _ => rfl⟩, rfl, by simpa using hN, hbg⟩
    rw [aget_cons] at hu
    split at hu
    · rename_i e; subst e; cases hu; exact ⟨x, by simp [hN, hpN], hx⟩
    · rename_i e
      obtain ⟨z, h1, h2⟩ := henv t u hu
      exact ⟨z, by rw [Array.getElem?_setIfInBounds_ne e]; exact h1, h2.mono hev⟩
  have hbl : ∀ g' w', Kept FR g' w' → LocOk FR g' → g'.bx y = some (l, o) := fun g' w' _ hL => hL.bx y _ hb
  have hfold : (((recL fn tmps #[p] assign body D .ready none).params.zip #[x]).foldl (fun t (q : Tmp × Value) => match q with | (t0, a) => t.setIfInBounds t0 a) (recL fn tmps #[p] assign body D .ready none).tmps) = tmps.setIfInBounds p x := by simp [recL]
  show assign.wpIn _ 0 P _ { tmps := (((recL fn tmps #[p] assign body D .ready none).params.zip #[x]).foldl (fun t (q : Tmp × Value) => match q with | (t0, a) => t.setIfInBounds t0 a) (recL fn tmps #[p] assign body D .ready none).tmps), defers := [] } w
  rw [hfold]
  refine wpIn_mono ((h FR rfl).go FR (.refl _) g _ w hrel) fun e a1 w1 ⟨F1, hF1, env1, mem1, g1, le, r1, r3, r2⟩ => ?_
  obtain rfl := hF1.same rfl
  cases le with
  | exit _ => exact r2.elim
  | goto _ => exact r2.elim
  | ret => exact r2.elim
  | pan _ => exact r2.elim
  | normal =>
  cases r3
  obtain ⟨hm1, hbody⟩ := r2
  obtain ⟨q1, q2, q3, q4⟩ := set_rec (r' := recL fn tmps #[p] assign body D .busy none) r1.mem r1.kept (hbl _ _ r1.kept r1.mem.loc) hm1
  refine ⟨_, run_beginRound q1 rfl, ?_⟩
  have hrel2 : Rel FR N g1 env1 ((y, .o (.loop (recL fn tmps #[p] assign body D .busy none))) :: mem1) a1 (w1.putObj l (.loop (recL fn tmps #[p] assign body D .busy none))) :=
    ⟨fun t u hu => by obtain ⟨z, h1, h2⟩ := r1.env t u hu; exact ⟨z, h1, h2.mono q2⟩, q3, q4, r1.defers, r1.size, r1.big⟩
  refine wpIn_mono (hbody.go FR (.refl _) g1 a1 _ hrel2) fun e a2 w2 ⟨F2, hF2, env2, mem2, g2, le, s1, s3, s2⟩ => ?_
  obtain rfl := hF2.same rfl
  have fin : ∀ (b : Bool) (pe : Option Code) (st : LoopState), aget mem2 y = some (.o (.loop (recL fn tmps #[p] assign body D .busy none))) → (∃ mo, SubM ((y, .o (.loop (recL fn tmps #[p] assign body D st pe))) :: mem2) mo ∧ refsM mo mo = true ∧ R b mo) → b = pe.isNone → st = (if pe.isNone then .ready else .done) →
      ∃ v w', (Instr.endRound l pe).run P w2 = .ok v w' ∧ ∃ q mo g', (∃ b, q = Out.ret (.k (.bool b)) ∧ R b mo) ∧ Ev g w g' w' ∧ RelM (lentF g mi w) g' mo w' ∧ Kept (lentF g mi w) g' w' ∧ q.At w' g' (.returned v) := by
    rintro b pe st hy2 ⟨mo, t1, t2, t3⟩ rfl rfl
    obtain ⟨u1, u2, u3, u4⟩ := set_rec (r' := recL fn tmps #[p] assign body D (if pe.isNone then .ready else .done) pe) s1.mem s1.kept (hbl _ _ s1.kept s1.mem.loc) hy2
    exact ⟨_, _, run_endRound pe u1, end_round pe.isNone hm (relM_or u3) (kept_or u4) t1 t2 (hks _ _ t3) t3⟩
  cases le with
  | normal => cases s3; exact fin true none .ready s2.1 s2.2 rfl rfl
  | exit id => cases s3; exact fin false (some (.exit id)) .done s2.1 s2.2 rfl rfl
  | ret => cases s3; exact fin false (some .ret) .done s2.1 s2.2 rfl rfl
  | goto _ => exact s2.elim
  | pan _ => exact s2.elim
def endO (lo : LoF) (id : Nat) (b : Bool) : Obj := cond b (lo .ready none) (lo .done (some (.exit id)))
theorem LC.range {F : Fr0} {N gf p y id : Nat} {Q : LQ} {env : Env} {mem m1 : Mem} {g : Operand} {assign body : Code} {caps : List V} {σ α : Type} (ok : σ → α → Prop) (va : α → V) (ms : σ → Mem) (go : σ → α → Bool) (nx : σ → α → σ) (fin : Bool)
    (hlm : F.lm = true) (hro : F.ro = none) (hg : evo env g = some (.f (.func gf) [] caps)) (hp : Nat.blt p N = true) (hy : aget mem y = none) (hyb : Nat.ble 1000 y = true)
    (hre : ∀ ob, (refsE ((y, .o ob) :: mem) env && (refsM ((y, .o ob) :: mem) ((y, .o ob) :: mem) && V.refs.go ((y, .o ob) :: mem) (.y y :: caps))) = true)
    (hbig : ∀ s, ((ms s).all fun x => Nat.ble 1000 x.1) = true) (hks : ∀ (s : σ) (x : α), ok s x → ∀ ob ob', keysOk ((y, .o ob) :: ms s) ((y, .o ob') :: ms (nx s x)) = true)
    (rounds : ∀ (lo : LoF) FR, FR.D = [] → ∀ s x, ok s x → LC P FR N assign (LAs P FR N body lo y (fun b m => b = go s x ∧ m = (y, .o (endO lo id (go s x))) :: ms (nx s x))) ((p, va x) :: env) ((y, .o (lo .ready none)) :: ms s))
    (iter : ∀ lo : LoF, LI P gf (.y y :: caps) ((y, .o (lo .ready none)) :: mem) (fun g w => ∀ s x, ok s x → LY P g w y [va x] ((y, .o (lo .ready none)) :: ms s) fun q m => q = .ret (.k (.bool (go s x))) ∧ m = (y, .o (endO lo id (go s x))) :: ms (nx s x)) fun q m => q = .ret (.t []) ∧ m = (y, .o (endO lo id fin)) :: m1)
    (hk1 : ∀ ob ob', keysOk ((y, .o ob) :: mem) ((y, .o ob') :: m1) = true) (hr1 : (refsE ((y, .x) :: m1) env && refsM ((y, .x) :: m1) ((y, .x) :: m1)) = true)
    (done : fin = true → Q .normal env ((y, .x) :: m1)) (stop : fin = false → Q (.exit id) env ((y, .x) :: m1)) : LC P F N (.rangeFunc g #[p] assign body) Q env mem := by
  refine ⟨fun F0 hx0 gh a w hr => ?_⟩
  have hgv := hr.evo hg
  obtain ⟨lb, hlb, hge, hcaps⟩ : ∃ lb : Array Value, caps.length = lb.size ∧ a.eval g = .func (.func gf) #[] lb ∧ ∀ (j : Nat) u x, caps[j]? = some u → lb[j]? = some x → Rep w gh u x := by
    generalize a.eval g = z at hgv
    cases hgv with
    | @f _ _ _ _ vs us h1 h2 hf hc =>
      have : vs = #[] := Array.eq_empty_of_size_eq_zero (by simpa using h1.symm)
      subst this
      exact ⟨us, h2, rfl, hc⟩
  have hro0 : F0.fz.round = none := hx0.ro.trans hro
  refine wpIn_rangeFunc fun fn _ => ?_
  rw [hro0]
  have hx : Ext w (w.alloc (.deferred (some []))) := Below.alloc (Below.refl _ w) (Nat.le_refl _) _
  obtain ⟨v1, m2, k2⟩ := hr.mem.ext (g' := gh) hr.kept hx (fun _ _ _ => Iff.rfl) rfl rfl (fun b o hb => hr.mem.fut b o (by have := World.size_alloc w (.deferred (some [])); omega))
  have hsz : (w.alloc (.deferred (some []))).heap.size = w.heap.size + 1 := World.size_alloc _ _
  have hDn : (w.alloc (.deferred (some []))).heap[w.heap.size]? = some (.deferred (some [])) := World.alloc_heap_new w _
  let F1 : Fr0 := { w0 := w.alloc (.deferred (some [])), S0 := gh.S, B := fun b o => ∃ i m, aget mem i = some m ∧ fp gh i m b o, bx0 := F0.bx0, rw0 := F0.rw0, D := markD w.heap.size :: F0.D, ro := F0.ro, lm := F0.lm }
  have hB : ∀ b o, F1.B b o → F0.wr b o := fun b o ⟨i, m, hi, hp⟩ => hr.mem.wr i m b o hi hp
  have hDB : ∀ o, ¬ F1.wr w.heap.size o := fun o ho => by
    rcases ho with ho | ⟨i, m, hi, hp⟩
    · have : w.heap.size + 1 ≤ w.heap.size := by rw [← hsz]; exact ho
      omega
    · have := (hr.mem.ob i m hi).lt hp; omega
  have hE : F0.Ext F1 := by
    refine ⟨fun e => ?_, rfl, rfl, rfl, rfl, fun b o hb => ?_, Nat.le_trans hr.kept.size (by show _ ≤ (w.alloc _).heap.size; omega), fun g' hL => ⟨hr.mem.loc.tab, hL.bx, hL.rw⟩, fun g' w' hk => ?_, [w.heap.size], rfl, by simp, fun D hD => ?_⟩
    · rw [hx0.lm, hlm] at e; cases e
    · rcases hb with hb | hb
      · refine .inl (Nat.le_trans hr.kept.size ?_)
        have h1 : w.heap.size + 1 ≤ b := by rw [← hsz]; exact hb
        omega
      · exact hB b o hb
    · have hlt : ∀ b, b < F0.w0.heap.size → b < F1.w0.heap.size := fun b hb => by show b < (w.alloc _).heap.size; have := hr.kept.size; omega
      have hn : ∀ b o, b < F0.w0.heap.size → ¬ F0.B b o → ¬ F1.B b o := fun b o hb hnb hb1 => by
        rcases hB b o hb1 with h | h
        · omega
        · exact hnb h
      refine ⟨hk.os.trans k2.os, hk.tape.trans k2.tape, hk.output.trans k2.output, Nat.le_trans k2.size hk.size, fun b hb hnb => (hk.blk b (hlt b hb) fun o => hn b o hb (hnb o)).trans (k2.blk b hb hnb), fun b o hb hnb => ?_, fun b o hb hnb hs => k2.S1 b o hb hnb (hk.S1 b o (hlt b hb) (hn b o hb hnb) hs), fun b o hb hs => hk.S2 b o (hlt b hb) (k2.S2 b o hb hs), fun b o hb hs => (hk.cellS b o (hlt b hb) (k2.S2 b o hb hs)).trans (k2.cellS b o hb hs)⟩
      obtain ⟨c1, c2⟩ := hk.cell b o (hlt b hb) (hn b o hb hnb)
      obtain ⟨d1, d2⟩ := k2.cell b o hb hnb
      exact ⟨c1.trans d1, c2.trans d2⟩
    · have : D = w.heap.size := by simpa using hD
      subst this
      exact ⟨hr.kept.size, by show _ < (w.alloc _).heap.size; omega, hDB, hDn⟩
  have mF : RelM F1 gh mem (w.alloc (.deferred (some []))) := ⟨m2.ob, fun i m b o hi hp => .inr ⟨i, m, hi, hp⟩, m2.dj, m2.nbx, m2.nrw, m2.fut, ⟨(show TabAt (w.alloc _) gh.S from m2.loc.tab.kept k2), m2.loc.bx, m2.loc.rw⟩⟩
  have kF : Kept F1 gh (w.alloc (.deferred (some []))) := ⟨rfl, rfl, rfl, Nat.le_refl _, fun _ _ _ => rfl, fun _ _ _ _ => ⟨rfl, rfl⟩, fun _ _ _ _ h => h, fun _ _ _ h => h, fun _ _ _ _ => rfl⟩
  obtain ⟨g1, hb1, v3, m3, k3⟩ := mF.newO kF (i := y) (ob := .loop (recL fn a.tmps #[p] assign body w.heap.size .ready none)) hy
  let lo : LoF := fun st pe => .loop (recL fn a.tmps #[p] assign body w.heap.size st pe)
  have hre' := hre (lo .ready none)
  simp only [Bool.and_eq_true] at hre'
  obtain ⟨hre1, hre2, hre3⟩ := hre'
  have vv : Ev gh w g1 ((w.alloc (.deferred (some []))).alloc (lo .ready none)) := v1.trans v3
  have hy1 : aget ((y, M.o (lo .ready none)) :: mem) y = some (.o (lo .ready none)) := aget_self ..
  have hrel : RelM (lentF (g1.only ((y, .o (lo .ready none)) :: mem)) ((y, .o (lo .ready none)) :: mem) ((w.alloc (.deferred (some []))).alloc (lo .ready none))) (g1.only ((y, .o (lo .ready none)) :: mem)) ((y, .o (lo .ready none)) :: mem) ((w.alloc (.deferred (some []))).alloc (lo .ready none)) :=
    m3.sub (fun _ _ h => h) hre2 ⟨(show TabAt _ g1.S from m3.loc.tab.kept k3), fun _ _ h => h, fun _ a l c h => ⟨a, l, c, h, Nat.le_refl _, fun _ => ⟨rfl, rfl⟩⟩⟩ fun i m b o hi hp => .inr ⟨i, m, hi, (fp_congr (only_at hi).1 (only_at hi).2).2 hp⟩
  have hYs : ∀ s x, ok s x → LY P (g1.only ((y, .o (lo .ready none)) :: mem)) ((w.alloc (.deferred (some []))).alloc (lo .ready none)) y [va x] ((y, .o (lo .ready none)) :: ms s) fun q m => q = .ret (.k (.bool (go s x))) ∧ m = (y, .o (endO lo id (go s x))) :: ms (nx s x) := by
    intro s x hok
    have h1 := LY.round (P := P) (N := N) (y := y) (p := p) (fn := fn) (D := w.heap.size) (tmps := a.tmps) (assign := assign) (body := body) (env := env) (v := va x) (mi := (y, .o (lo .ready none)) :: ms s) (g0 := g1.only ((y, .o (lo .ready none)) :: mem)) (w0 := (w.alloc (.deferred (some []))).alloc (lo .ready none))
      (R := fun b m => b = go s x ∧ m = (y, .o (endO lo id (go s x))) :: ms (nx s x)) hr.size (fun t u hu => by obtain ⟨z, e1, e2⟩ := hr.env t u hu; exact ⟨z, e1, (e2.mono vv).only (refsE_get hre1 hu)⟩) hp (by rw [List.all_cons, hbig s]; simpa using hyb) (aget_self ..) (fun b m ⟨_, e⟩ => by rw [e]; exact hks s x hok _ _) (fun FR hFR => rounds lo FR hFR s x hok)
    refine ⟨fun g w vals l o a1 a2 a3 a4 a5 => ?_⟩
    obtain ⟨fn', tmps', asg, bo, b1, b2⟩ := h1.go g w vals l o a1 a2 a3 a4 a5
    refine ⟨fn', tmps', asg, bo, b1, b2.mono ?_⟩
    rintro e w' ⟨q, mo, g', ⟨b, rfl, rfl, rfl⟩, r⟩
    exact ⟨_, _, g', ⟨rfl, rfl⟩, r⟩
  have hok := (iter lo).ok
  refine ⟨w.heap.size + 1, [markD w.heap.size], (w.alloc (.deferred (some []))).alloc (lo .ready none), { target := .fn (.func gf) lb, args := #[.func (.yield (w.heap.size + 1)) #[] #[]] }, (w.alloc (.deferred (some []))).alloc (lo .ready none), gf, #[.func (.yield (w.heap.size + 1)) #[] #[]] ++ lb, (w.alloc (.deferred (some []))).alloc (lo .ready none), run_enterLoop_outer _ _ _ _ _, ?_, fun _ _ => trivial, ?_, fun h => (by cases h), ?_⟩
  · simp only [resolve, hge]
    simp [Deferred.ofValue, Act.eval]
  · unfold callOk at hok
    split at hok
    · rename_i fn' hfn
      simp only [Bool.and_eq_true, Bool.not_eq_true'] at hok
      have hn : ¬ fn'.body = none := by cases hb : fn'.body <;> simp_all
      have hm : ¬ fn'.name = "runtime.NumGoroutine" := by simpa using hok.1
      simp [invoke, callFunc, hfn, hm, hn]
    · cases hok
  have hargs : ∀ (j : Nat) u x, (V.y y :: caps)[j]? = some u → (#[Value.func (.yield (w.heap.size + 1)) #[] #[]] ++ lb)[j]? = some x → Rep ((w.alloc (.deferred (some []))).alloc (lo .ready none)) (g1.only ((y, .o (lo .ready none)) :: mem)) u x := fun j u x hj hxj => by
    refine Rep.only ?_ (refs_go hre3 u (List.mem_of_getElem? hj))
    cases j with
    | zero =>
      simp at hj; subst hj
      rw [Array.getElem?_append_left (by simp)] at hxj
      simp at hxj; subst hxj
      exact .y (o := 0) (by rw [hb1, hsz])
    | succ j =>
      simp at hj
      rw [Array.getElem?_append_right (by simp)] at hxj
      simp at hxj
      exact (hcaps j u x hj hxj).mono vv
  refine calls_in (Calls.mono ((iter lo).go _ _ _ hYs hrel (by simp; omega) hargs) ?_)
  rintro e w3 ⟨q, mo, g3, ⟨rfl, rfl⟩, he, hm3, hk3, x, rfl, _⟩
  obtain ⟨g2, E, RM, K, _⟩ := call_state m3 k3 (fun _ _ h => h) (hk1 _ _) (fun _ _ _ h => h) he hm3 hk3
  have hby : g2.bx y = some (w.heap.size + 1, 0) := by rw [← hsz]; exact E.bx y _ hb1
  have hyo : aget ((y, M.o (endO lo id fin)) :: m1 ++ ((y, M.o (lo .ready none)) :: mem)) y = some (.o (endO lo id fin)) := aget_self ..
  -- the record is put away
  have last : ∀ (pe : Option Code) (st : LoopState), endO lo id fin = lo st pe → st ≠ .busy → (∀ w4, (Instr.endLoop (w.heap.size + 1)).run P w3 = .ok pe w4 → (∃ g4, Rel F1 N g4 env ((y, .x) :: m1) { a with defers := [markD w.heap.size] ++ a.defers } w4) → 
      rangePost F0.fz 0 P (w.heap.size + 1) (liftQ F0 N Q) { a with defers := [markD w.heap.size] ++ a.defers } (.returned x) w3) → rangePost F0.fz 0 P (w.heap.size + 1) (liftQ F0 N Q) { a with defers := [markD w.heap.size] ++ a.defers } (.returned x) w3 := by
    intro pe st hst hnb K1
    have hyo' : aget ((y, M.o (endO lo id fin)) :: m1 ++ ((y, M.o (lo .ready none)) :: mem)) y = some (.o (lo st pe)) := by rw [hyo, hst]
    obtain ⟨u1, u2, u3, u4⟩ := set_rec (r := recL fn a.tmps #[p] assign body w.heap.size st pe) (r' := recL fn a.tmps #[p] assign body w.heap.size .exhausted pe) RM K hby hyo'
    refine K1 _ (run_endLoop (r := recL fn a.tmps #[p] assign body w.heap.size st pe) u1 hnb) ?_
    simp only [Bool.and_eq_true] at hr1
    have hsub : ∀ i m, aget ((y, M.x) :: m1) i = some m → i ≠ y → aget ((y, M.o (endO lo id fin)) :: m1 ++ ((y, M.o (lo .ready none)) :: mem)) i = some m := fun i m hi hne => by
      rw [aget_ne (Ne.symm hne)] at hi
      rw [List.cons_append, aget_ne (Ne.symm hne), aget_append, hi]
      rfl
    have RM2 : RelM F1 g2 ((y, .x) :: m1) (w3.putObj (w.heap.size + 1) (.loop (recL fn a.tmps #[p] assign body w.heap.size .exhausted pe))) ∨ True := .inr trivial
    have hin : ∀ i, aget mem i ≠ none → (aget ((y, M.x) :: m1) i).isSome = true := fun i hi => by
      obtain ⟨m, hm⟩ := Option.ne_none_iff_exists'.1 hi
      have hne : i ≠ y := fun e => by rw [e, hy] at hm; cases hm
      have := keysOk_spec (hk1 (lo .ready none) (lo .ready none)) (i := i) (m := m) (by rw [aget_ne (Ne.symm hne)]; exact hm)
      rw [aget_ne (Ne.symm hne)] at this ⊢
      exact this
    have hL : LocOk F1 (g2.only ((y, .x) :: m1)) := by
      refine ⟨RM.loc.tab, fun i z hz => ?_, fun i a l c hr' => ?_⟩
      · have := hin i fun e => by have h1 := hr.mem.loc.bx i z hz; rw [hr.mem.nbx i e] at h1; cases h1
        simp only [Gh.only]; rw [if_pos this]; exact RM.loc.bx i z hz
      · have := hin i fun e => by obtain ⟨_, _, _, h1, _⟩ := hr.mem.loc.rw i a l c hr'; rw [hr.mem.nrw i e] at h1; cases h1
        obtain ⟨a', l', c', k1, k2⟩ := RM.loc.rw i a l c hr'
        exact ⟨a', l', c', by simp only [Gh.only]; rw [if_pos this]; exact k1, k2⟩
    have mX : RelM F1 g2 ((y, .x) :: ((y, .o (.loop (recL fn a.tmps #[p] assign body w.heap.size .exhausted pe))) :: ((y, M.o (endO lo id fin)) :: m1 ++ ((y, M.o (lo .ready none)) :: mem)))) (w3.putObj (w.heap.size + 1) (.loop (recL fn a.tmps #[p] assign body w.heap.size .exhausted pe))) :=
      ⟨fun i m hi => by rw [aget_cons] at hi; split at hi; (· cases hi; exact .x); (· exact u3.ob i m hi), fun i m b o hi hp => by rw [aget_cons] at hi; split at hi; (· cases hi; exact hp.elim); (· exact u3.wr i m b o hi hp),
        fun i j m n b o hij hi hj hp hq => by
          rw [aget_cons] at hi hj
          split at hi
          · cases hi; exact hp.elim
          · split at hj
            · cases hj; exact hq.elim
            · exact u3.dj i j m n b o hij hi hj hp hq,
        fun i hi => by rw [aget_cons] at hi; split at hi; (· cases hi); (· exact u3.nbx i hi), fun i hi => by rw [aget_cons] at hi; split at hi; (· cases hi); (· exact u3.nrw i hi), u3.fut, u3.loc⟩
    have hM : ∀ i m, aget ((y, M.x) :: m1) i = some m → aget ((y, M.x) :: ((y, M.o (.loop (recL fn a.tmps #[p] assign body w.heap.size .exhausted pe))) :: ((y, M.o (endO lo id fin)) :: m1 ++ ((y, M.o (lo .ready none)) :: mem)))) i = some m := fun i m hi => by
      by_cases e : i = y
      · subst e; rw [aget_self] at hi ⊢; exact hi
      · rw [aget_ne (Ne.symm e), aget_ne (Ne.symm e)]; exact hsub i m hi e
    have mY := mX.sub (F' := F1) hM hr1.2 hL fun i m b o hi hp => mX.wr i m b o (hM i m hi) hp
    refine ⟨_, fun t u hu => ?_, mY, ⟨u4.os, u4.tape, u4.output, u4.size, u4.blk, u4.cell, u4.S1, u4.S2, u4.cellS⟩, by show [markD w.heap.size] ++ a.defers = _; rw [hr.defers]; rfl, hr.size, hr.big⟩
    obtain ⟨z, e1, e2⟩ := hr.env t u hu
    exact ⟨z, e1, (((e2.mono vv).mono E).mono u2).only (refsE_get hr1.1 hu)⟩
  cases fin with
  | true => exact last none .ready rfl (by intro e; cases e) fun w4 h4 ⟨g4, h5⟩ => ⟨none, w4, h4, F1, hE, env, _, g4, .normal, h5, rfl, done rfl⟩
  | false => exact last (some (.exit id)) .done rfl (by intro e; cases e) fun w4 h4 ⟨g4, h5⟩ => ⟨some (.exit id), w4, h4, wpIn_exit ⟨F1, hE, env, _, g4, .exit id, h5, rfl, stop rfl⟩⟩
end
end Lf
open Go.RowKit Rg
namespace Lf
section
variable {P : Program} {F : Fr0} {g : Gh} {mem : Mem} {w : World}
theorem Ev.only {g g' : Gh} {w w' : World} (h : Ev g w g' w') (T : Mem) : Ev (g.only T) w (g'.only T) w' := by
  refine ⟨h.size, h.st, fun i z hz => ?_, fun i a l c hr => ?_⟩
  · simp only [Gh.only] at hz ⊢
    split at hz
    · rename_i hi; rw [if_pos hi]; exact h.bx i z hz
    · cases hz
  · simp only [Gh.only] at hr ⊢
    split at hr
    · rename_i hi; simp only [if_pos hi]; exact h.rw i a l c hr
    · cases hr
end
section
variable {P : Program}
theorem LY.later {g0 g1 : Gh} {w0 w1 : World} {y : Nat} {args : List V} {mi : Mem} {R : Out → Mem → Prop} (h : LY P g0 w0 y args mi R) (he : Ev g0 w0 g1 w1) : LY P g1 w1 y args mi R :=
  ⟨fun g w vals l o hev => h.go g w vals l o (he.trans hev)⟩
theorem LI.ren {f : Nat} {args : List V} {mi : Mem} {Y : Gh → World → Prop} {R : Out → Mem → Prop} (h : LI P f args mi Y R) (ρ : Pm) : LI P f (args.map (V.ren ρ.f)) (Mem.ren ρ.f mi) (fun g w => Y (g.pull ρ.f) w) fun o m => ∃ o' m', R o' m' ∧ o = o'.ren ρ.f ∧ m = Mem.ren ρ.f m' := by
  refine ⟨h.ok, fun g w vals hY hm hl hr => ?_⟩
  have h1 := relM_pull ρ hm
  rw [lent_pull] at h1
  refine Calls.mono (h.go (g.pull ρ.f) w vals hY h1 (by simpa using hl) fun j u x hj hx => rep_pull ρ (hr j _ x (by rw [List.getElem?_map, hj]; rfl) hx)) ?_
  rintro e w' ⟨o, mo, g0, hR, he, hm', hk, hat⟩
  have hF : (lentF (g.pull ρ.f) mi w).pull ρ.g = lentF g (Mem.ren ρ.f mi) w := by
    rw [← lent_pull]
    simp [Fr0.pull, ρ.fg]
  have hm2 : RelM (lentF g (Mem.ren ρ.f mi) w) (g0.pull ρ.g) (Mem.ren ρ.f mo) w' := by
    have := relM_pull ρ.inv (F := lentF (g.pull ρ.f) mi w) (g := g0) (mem := Mem.ren ρ.f mo) (w := w') (by
      have e : Mem.ren ρ.inv.f (Mem.ren ρ.f mo) = mo := memren_inv ρ mo
      rw [e]; exact hm')
    have e2 : (lentF (g.pull ρ.f) mi w).pull ρ.inv.f = lentF g (Mem.ren ρ.f mi) w := hF
    rw [e2] at this
    exact this
  have hB : (lentF (g.pull ρ.f) mi w).B = (lentF g (Mem.ren ρ.f mi) w).B := by rw [← hF]; rfl
  refine ⟨o.ren ρ.f, Mem.ren ρ.f mo, g0.pull ρ.g, ⟨o, mo, hR, rfl, rfl⟩, ⟨he.size, he.st, fun i z hz => he.bx (ρ.g i) z (by simpa [Gh.pull, ρ.fg] using hz), fun r a l c hr => he.rw (ρ.g r) a l c (by simpa [Gh.pull, ρ.fg] using hr)⟩, hm2,
    ⟨hk.os, hk.tape, hk.output, hk.size, by rw [← hB]; exact hk.blk, by rw [← hB]; exact hk.cell, by rw [← hB]; exact hk.S1, hk.S2, hk.cellS⟩, ?_⟩
  cases o with
  | ret v => obtain ⟨x, e1, e2⟩ := hat; exact ⟨x, e1, rep_ren e2 (pull_inv ρ g0).symm⟩
  | pan v => obtain ⟨x, e1, e2⟩ := hat; exact ⟨x, e1, rep_ren e2 (pull_inv ρ g0).symm⟩
theorem yield_mono {Fe : Fence} {n l : Nat} {vals : Array Value} {w : World} {R R' : Ending → World → Prop} (h : YieldAt Fe n P l vals w R) (hR : ∀ e w', R e w' → R' e w') : YieldAt Fe n P l vals w R' := by
  obtain ⟨fn, tmps, asg, bo, b1, b2⟩ := h
  exact ⟨fn, tmps, asg, bo, b1, b2.mono hR⟩
theorem LY.mono {g0 : Gh} {w0 : World} {y : Nat} {args : List V} {mi : Mem} {R R' : Out → Mem → Prop} (h : LY P g0 w0 y args mi R) (hR : ∀ o m, R o m → R' o m) : LY P g0 w0 y args mi R' := by
  refine ⟨fun g w vals l o a1 a2 a3 a4 a5 => yield_mono (h.go g w vals l o a1 a2 a3 a4 a5) ?_⟩
  rintro e w' ⟨q, mo, g', hR', r⟩
  exact ⟨q, mo, g', hR _ _ hR', r⟩
theorem LY.ren {g0 : Gh} {w0 : World} {y : Nat} {args : List V} {mi : Mem} {R : Out → Mem → Prop} (h : LY P g0 w0 y args mi R) (ρ : Pm) : LY P (g0.pull ρ.g) w0 (ρ.f y) (args.map (V.ren ρ.f)) (Mem.ren ρ.f mi) fun o m => ∃ o' m', R o' m' ∧ o = o'.ren ρ.f ∧ m = Mem.ren ρ.f m' := by
  refine ⟨fun g w vals l o hev hm hb hl hr => ?_⟩
  have h1 := relM_pull ρ hm
  rw [lent_pull] at h1
  have hev' : Ev g0 w0 (g.pull ρ.f) w := ⟨hev.size, hev.st, fun i z hz => hev.bx (ρ.f i) z (by simpa [Gh.pull, ρ.gf] using hz), fun r a l c hr => hev.rw (ρ.f r) a l c (by simpa [Gh.pull, ρ.gf] using hr)⟩
  refine yield_mono (h.go (g.pull ρ.f) w vals l o hev' h1 hb (by simpa using hl) fun j u x hj hx => rep_pull ρ (hr j _ x (by rw [List.getElem?_map, hj]; rfl) hx)) ?_
  rintro e w' ⟨o, mo, g0, hR, he, hm', hk, hat⟩
  have hF : (lentF (g.pull ρ.f) mi w).pull ρ.g = lentF g (Mem.ren ρ.f mi) w := by
    rw [← lent_pull]
    simp [Fr0.pull, ρ.fg]
  have hm2 : RelM (lentF g (Mem.ren ρ.f mi) w) (g0.pull ρ.g) (Mem.ren ρ.f mo) w' := by
    have := relM_pull ρ.inv (F := lentF (g.pull ρ.f) mi w) (g := g0) (mem := Mem.ren ρ.f mo) (w := w') (by
      have e : Mem.ren ρ.inv.f (Mem.ren ρ.f mo) = mo := memren_inv ρ mo
      rw [e]; exact hm')
    have e2 : (lentF (g.pull ρ.f) mi w).pull ρ.inv.f = lentF g (Mem.ren ρ.f mi) w := hF
    rw [e2] at this
    exact this
  have hB : (lentF (g.pull ρ.f) mi w).B = (lentF g (Mem.ren ρ.f mi) w).B := by rw [← hF]; rfl
  refine ⟨o.ren ρ.f, Mem.ren ρ.f mo, g0.pull ρ.g, ⟨o, mo, hR, rfl, rfl⟩, ⟨he.size, he.st, fun i z hz => he.bx (ρ.g i) z (by simpa [Gh.pull, ρ.fg] using hz), fun r a l c hr => he.rw (ρ.g r) a l c (by simpa [Gh.pull, ρ.fg] using hr)⟩, hm2,
    ⟨hk.os, hk.tape, hk.output, hk.size, by rw [← hB]; exact hk.blk, by rw [← hB]; exact hk.cell, by rw [← hB]; exact hk.S1, hk.S2, hk.cellS⟩, ?_⟩
  cases o with
  | ret v => obtain ⟨x, e1, e2⟩ := hat; exact ⟨x, e1, rep_ren e2 (pull_inv ρ g0).symm⟩
  | pan v => obtain ⟨x, e1, e2⟩ := hat; exact ⟨x, e1, rep_ren e2 (pull_inv ρ g0).symm⟩
end
end Lf
end Go.Proofs.Ytkbimhccaacobaa

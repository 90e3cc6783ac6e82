/- A part of the proof: texts joined. -/
import Derived.Test.YtkbimhccaacobaaQ6091da7
namespace Go.Proofs.Ytkbimhccaacobaa
open Go.RowKit Rg Wm Ar
set_option linter.unusedVariables false
set_option maxRecDepth 100000
namespace Lf
open Tr
mutual
def rnC : Rn → List V
 | .mk k p v ks => [.k (.int .i64 k), bV p, bV v, .s none (rnL ks)]
def rnL : List Rn → List V
 | [] => []
 | k :: r => .a (rnC k) :: rnL r
end
abbrev rnV (x : Rn) : V := .a (rnC x)
theorem rnL_map : ∀ ks : List Rn, rnL ks = ks.map rnV
 | [] => rfl
 | k :: r => by rw [rnL, rnL_map r]; rfl
theorem rnC_eq (k : Int) (p v : List UInt8) (ks : List Rn) : rnC (.mk k p v ks) = [.k (.int .i64 k), bV p, bV v, .s none (ks.map rnV)] := by rw [rnC, rnL_map]
theorem rnC_len (x : Rn) : (rnC x).length = 4 := by obtain ⟨k, p, v, ks⟩ := x; rw [rnC_eq]; rfl
theorem rnC_refs (m : Mem) (x : Rn) : V.refs.go m (rnC x) = true := by obtain ⟨k, p, v, ks⟩ := x; rw [rnC_eq]; rfl
theorem rnC_bare (x : Rn) : (rnV x).bare = some (rnV x) := by obtain ⟨k, p, v, ks⟩ := x; simp only [rnV, rnC_eq]; rfl
theorem rnC_cv (x : Rn) (keep : Nat → Bool) (nn : Bool) : V.cv.go keep nn (rnC x) = rnC x := by obtain ⟨k, p, v, ks⟩ := x; rw [rnC_eq]; simp [V.cv.go, V.cv]
attribute [irreducible] rnC
theorem getD_lt {l : List UInt8} {P : UInt8 → Bool} (h : l.all P = true) {i : Nat} (hi : i < l.length) : P (l.getD i default) = true := by
 rw [List.getD_eq_getElem?_getD, List.getElem?_eq_getElem hi]
 exact List.all_eq_true.1 h _ (List.getElem_mem hi)
theorem all_getD {l : List UInt8} {P : UInt8 → Bool} (h : ∀ i, i < l.length → P (l.getD i default) = true) : l.all P = true := by
 rw [List.all_eq_true]
 intro x hx
 obtain ⟨i, hi, e⟩ := List.mem_iff_getElem.1 hx
 have := h i hi
 rwa [List.getD_eq_getElem?_getD, List.getElem?_eq_getElem hi, Option.getD_some, e] at this
namespace Te
set_option maxHeartbeats 1000000 in
theorem ends_ (d : Nat) (hd : d < 400000000000000000) : LF Try.prog 114 [.k (.int .i64 (d : Int))] (fun _ => .k (.bool (endsB d))) none := by
 unfold endsB
 by_cases h1 : d % 2 = 0
 ·rw [show decide (d % 2 = 0) = true from decide_eq_true h1, Bool.true_and]
  by_cases h2 : d ≤ 64
  ·rw [show decide (d ≤ 64) = true from decide_eq_true h2]
   refine LFx.mk' tt Try.func114 rfl rfl rfl (by kernel_rfl) rfl rfl fun F => ?_
   exact wk trueW trueW trueW
  ·rw [show decide (d ≤ 64) = false from decide_eq_false h2]
   refine LFx.mk' tt Try.func114 rfl rfl rfl (by kernel_rfl) rfl rfl fun F => ?_
   exact wk trueW trueW trueW
 ·rw [show decide (d % 2 = 0) = false from decide_eq_false h1, Bool.false_and]
  refine LFx.mk' tt Try.func114 rfl rfl rfl (by kernel_rfl) rfl rfl fun F => ?_
  exact wk trueW trueW trueW
set_option maxHeartbeats 1000000 in
theorem halves_ (p : List UInt8) (hp : p.length < 400000000000000000) : LF Try.prog 113 [bV p] (fun _ => .k (.bool (halvesB p))) none := by
  refine LFx.mk' tt Try.func113 rfl rfl rfl (by kernel_rfl) rfl rfl fun F => ?_
  refine wk ?_ trueW trueW
  refine LC.loopN (fun i => [(5, bV p), (6, .k (.int .i64 ((p.length : Nat) : Int))), (7, .k (.int .i64 ((i : Nat) : Int)))]) (fun i => []) (fun i => i ≤ p.length ∧ ∀ j, j < i → (p.getD j default).toNat ≤ 15) ((p.length - ·)) (0) ⟨by omega, fun j hj => by omega⟩ ⟨rfl, rfl, rfl, trivial⟩ trivial rfl rfW rfW ?_
  rintro i ⟨hi, hall⟩
  rcases Nat.lt_or_ge i p.length with h | h
  · by_cases hb : (p.getD i default).toNat ≤ 15
    · have hok : i + 1 ≤ p.length ∧ ∀ j, j < i + 1 → (p.getD j default).toNat ≤ 15 := ⟨h, fun j hj => by
        by_cases e : j = i
        · subst e; exact hb
        · exact hall j (by omega)⟩
      clear hall
      exact wk trueW trueW trueW
    · have hF : halvesB p = false := by
        rw [← Bool.not_eq_true]
        exact fun hh => hb (of_decide_eq_true (getD_lt hh h))
      rw [hF]
      clear hall hF
      exact wk trueW trueW trueW
  · obtain rfl : i = p.length := by omega
    have hT : halvesB p = true := all_getD fun i hi => decide_eq_true (hall i hi)
    rw [hT]
    clear hall hT
    exact wk trueW trueW trueW
end Te
end Lf
open Go.RowKit Rg Wm Ar
set_option maxRecDepth 100000
namespace Lf
open Tr
def ndV : Nd → V
 | .no => .k .nilIface
 | .leaf p v => .i 174 (.a [bV (pB p), bV v])
 | .road p k => .i 177 (.a [bV (pB p), ndV k])
 | .fork ks v => .i 181 (.a ((List.finRange 16).map (fun i => ndV (ks i)) ++ [bV v]))
def fkC (ks : Fin 16 → Nd) (v : List UInt8) : List V := (List.finRange 16).map (fun i => ndV (ks i)) ++ [bV v]
def kdC (ks : Fin 16 → Nd) : List V := (List.finRange 16).map (fun i => ndV (ks i))
theorem ndV_no : ndV .no = .k .nilIface := by rw [ndV]
theorem ndV_leaf (p : Pa) (v : List UInt8) : ndV (.leaf p v) = .i 174 (.a [bV (pB p), bV v]) := by rw [ndV]
theorem ndV_road (p : Pa) (k : Nd) : ndV (.road p k) = .i 177 (.a [bV (pB p), ndV k]) := by rw [ndV]
theorem ndV_fork (ks : Fin 16 → Nd) (v : List UInt8) : ndV (.fork ks v) = .i 181 (.a (fkC ks v)) := by rw [ndV]; rfl
theorem fk_list (ks : Fin 16 → Nd) (v : List UInt8) : fkC ks v = [ndV (ks 0), ndV (ks 1), ndV (ks 2), ndV (ks 3), ndV (ks 4), ndV (ks 5), ndV (ks 6), ndV (ks 7), ndV (ks 8), ndV (ks 9), ndV (ks 10), ndV (ks 11), ndV (ks 12), ndV (ks 13), ndV (ks 14), ndV (ks 15), bV v] := rfl
theorem fk_kd (ks : Fin 16 → Nd) (v : List UInt8) : fkC ks v = kdC ks ++ [bV v] := rfl
theorem kd_len (ks : Fin 16 → Nd) : (kdC ks).length = 16 := by unfold kdC; rw [List.length_map, List.length_finRange]
theorem fk_len (ks : Fin 16 → Nd) (v : List UInt8) : (fkC ks v).length = 17 := by rw [fk_kd, List.length_append, kd_len]; rfl
theorem kd_at (ks : Fin 16 → Nd) (x : Fin 16) : (kdC ks)[x.val]? = some (ndV (ks x)) := by
 unfold kdC
 rw [List.getElem?_map, List.getElem?_eq_getElem (by simp)]
 simp
theorem fk_at (ks : Fin 16 → Nd) (v : List UInt8) (x : Fin 16) : (fkC ks v)[x.val]? = some (ndV (ks x)) := by
 rw [fk_kd, List.getElem?_append_left (by rw [kd_len]; exact x.isLt), kd_at]
theorem fk_v (ks : Fin 16 → Nd) (v : List UInt8) : (fkC ks v)[16]? = some (bV v) := by
 rw [fk_kd, List.getElem?_append_right (by rw [kd_len]; omega), kd_len]; rfl
theorem nd_cells (n : Nd) : (ndV n).cells = [ndV n] := by cases n <;> simp only [ndV_no, ndV_leaf, ndV_road, ndV_fork, V.cells]
theorem nd_ok (n : Nd) : (ndV n).ok = true := by cases n <;> simp only [ndV_no, ndV_leaf, ndV_road, ndV_fork] <;> rfl
theorem nd_refs (m : Mem) : ∀ n : Nd, (ndV n).refs m = true
 | .no => by rw [ndV_no]; rfl
 | .leaf p v => by rw [ndV_leaf]; rfl
 | .road p k => by rw [ndV_road]; simp only [V.refs, V.refs.go, nd_refs m k, Bool.and_self]
 | .fork ks v => by
  rw [ndV_fork, fk_list]
  simp only [V.refs, V.refs.go, nd_refs m (ks 0), nd_refs m (ks 1), nd_refs m (ks 2), nd_refs m (ks 3), nd_refs m (ks 4), nd_refs m (ks 5), nd_refs m (ks 6), nd_refs m (ks 7), nd_refs m (ks 8), nd_refs m (ks 9), nd_refs m (ks 10), nd_refs m (ks 11), nd_refs m (ks 12), nd_refs m (ks 13), nd_refs m (ks 14), nd_refs m (ks 15), Bool.and_self]
theorem refs_all {m : Mem} {l : List V} (h : ∀ u ∈ l, u.refs m = true) : V.refs.go m l = true := by
 induction l with
 | nil => rfl
 | cons a r ih => rw [V.refs.go, h a (by simp), ih fun u hu => h u (by simp [hu])]; rfl
theorem kd_refs (m : Mem) (ks : Fin 16 → Nd) : V.refs.go m (kdC ks) = true := refs_all fun u hu => by
 obtain ⟨i, _, rfl⟩ := List.mem_map.1 hu; exact nd_refs m _
theorem fk_refs (m : Mem) (ks : Fin 16 → Nd) (v : List UInt8) : V.refs.go m (fkC ks v) = true := refs_all fun u hu => by
 rw [fk_kd] at hu
 rcases List.mem_append.1 hu with hu | hu
 ·obtain ⟨i, _, rfl⟩ := List.mem_map.1 hu; exact nd_refs m _
 ·simp at hu; subst hu; rfl
theorem cv_all {keep : Nat → Bool} {nn : Bool} {l : List V} (h : ∀ u ∈ l, u.cv keep nn = u) : V.cv.go keep nn l = l := by
 induction l with
 | nil => rfl
 | cons a r ih => rw [V.cv.go, h a (by simp), ih fun u hu => h u (by simp [hu])]
theorem nd_cv (keep : Nat → Bool) (nn : Bool) : ∀ n : Nd, (ndV n).cv keep nn = ndV n
 | .no => by rw [ndV_no]; rfl
 | .leaf p v => by rw [ndV_leaf]; rfl
 | .road p k => by rw [ndV_road]; simp only [V.cv, V.cv.go, nd_cv keep nn k]
 | .fork ks v => by
  rw [ndV_fork]
  simp only [V.cv]
  rw [cv_all fun u hu => by
   rw [fk_kd] at hu
   rcases List.mem_append.1 hu with hu | hu
   ·obtain ⟨i, _, rfl⟩ := List.mem_map.1 hu; exact nd_cv keep nn _
   ·simp at hu; subst hu; rfl]
theorem fk_get {ks : Fin 16 → Nd} {v : List UInt8} {x : Fin 16} {ti : TI} {off : Nat} (hd : ti.d.agg = false) (h : off = x.val) : ti.part (fkC ks v) off = some (ndV (ks x)) := by
 subst h
 unfold TI.part
 simp [hd, fk_at]
theorem fk_val {ks : Fin 16 → Nd} {v : List UInt8} {ti : TI} {off : Nat} (hd : ti.d.agg = false) (h : off = 16) : ti.part (fkC ks v) off = some (bV v) := by
 subst h
 unfold TI.part
 simp [hd, fk_v]
theorem fk_kids {ks : Fin 16 → Nd} {v : List UInt8} {ti : TI} {off : Nat} (hd : ti.d.agg = true) (hs : ti.size = 16) (h : off = 0) : ti.part (fkC ks v) off = some (.a (kdC ks)) := by
 subst h
 have e : (fkC ks v).take 16 = kdC ks := by rw [fk_kd, ← kd_len ks, List.take_left]
 unfold TI.part
 simp [hd, hs, e, fk_len]
 rfl
theorem kd_get {ks : Fin 16 → Nd} {x : Fin 16} {ti : TI} {off : Nat} (hd : ti.d.agg = false) (h : off = x.val) : ti.part (kdC ks) off = some (ndV (ks x)) := by
 subst h
 unfold TI.part
 simp [hd, kd_at]
theorem fk_set {ks : Fin 16 → Nd} {v : List UInt8} {x : Fin 16} {n : Nd} {off : Nat} (h : off = x.val) : splice (fkC ks v) off (ndV n).cells = fkC (setK ks x n) v := by
 subst h
 rw [nd_cells]
 have hx := x.isLt
 apply List.ext_getElem?
 intro j
 rw [splice_get (by rw [fk_len]; show x.val + 1 ≤ 17; omega)]
 by_cases hj : j < 16
 ·have e2 := fk_at (setK ks x n) v ⟨j, hj⟩
  rw [show (⟨j, hj⟩ : Fin 16).val = j from rfl] at e2
  rw [e2]
  split
  ·rename_i h
   simp at h
   obtain rfl : j = x.val := by omega
   rw [show (⟨x.val, hj⟩ : Fin 16) = x from rfl, setK_at, Nat.sub_self]
   rfl
  ·rename_i h
   simp at h
   have e3 := fk_at ks v ⟨j, hj⟩
   rw [show (⟨j, hj⟩ : Fin 16).val = j from rfl] at e3
   rw [e3, setK_off ks n (fun e => by rw [← e] at h; simp at h; omega)]
 ·rw [if_neg (by simp; omega)]
  by_cases h16 : j = 16
  ·subst h16; rw [fk_v, fk_v]
  ·rw [List.getElem?_eq_none (by rw [fk_len]; omega), List.getElem?_eq_none (by rw [fk_len]; omega)]
theorem fk_setv {ks : Fin 16 → Nd} {v u : List UInt8} {off : Nat} (h : off = 16) : splice (fkC ks v) off (bV u).cells = fkC ks u := by
 subst h
 have e : (bV u).cells = [bV u] := rfl
 rw [e]
 unfold splice
 rw [fk_kd, fk_kd, List.take_left' (kd_len ks), List.drop_of_length_le (by rw [List.length_append, kd_len]; simp), List.append_nil]
theorem fk_cv (keep : Nat → Bool) (nn : Bool) (ks : Fin 16 → Nd) (v : List UInt8) : V.cv.go keep nn (fkC ks v) = fkC ks v := cv_all fun u hu => by
 rw [fk_kd] at hu
 rcases List.mem_append.1 hu with hu | hu
 ·obtain ⟨i, _, rfl⟩ := List.mem_map.1 hu; exact nd_cv keep nn _
 ·simp at hu; subst hu; rfl
theorem tr_refs (m : Mem) : (∀ n, (ndV n).refs m = true) ∧ (∀ ks v, V.refs.go m (fkC ks v) = true) ∧ (∀ ks, V.refs.go m (kdC ks) = true) ∧ (∀ x, V.refs.go m (rnC x) = true) := ⟨nd_refs m, fk_refs m, kd_refs m, rnC_refs m⟩
theorem tr_cv (keep : Nat → Bool) (nn : Bool) : (∀ n, (ndV n).cv keep nn = ndV n) ∧ (∀ ks v, V.cv.go keep nn (fkC ks v) = fkC ks v) ∧ (∀ x, V.cv.go keep nn (rnC x) = rnC x) := ⟨nd_cv keep nn, fk_cv keep nn, fun x => rnC_cv x keep nn⟩
attribute [irreducible] ndV fkC kdC
theorem LC.boxeq {P : Program} {F : Fr0} {N : Nat} {c : Code} {Q : LQ} {env : Env} {mem : Mem} {cs cs' : List V} (i : Nat) (h : aget mem i = some (.b cs)) (e : cs = cs') (hK : LC P F N c Q env ((i, .b cs') :: mem)) : LC P F N c Q env mem := by
 subst e
 refine ⟨fun F0 hx g a w hr => hK.go F0 hx g a w (hr.congr ⟨fun _ => rfl, fun j => ?_⟩)⟩
 rw [aget_cons]
 split
 ·rename_i e; subst e; exact h
 ·rfl
end Lf
open Go.RowKit Rg Wm Ar
set_option linter.unusedVariables false
set_option maxRecDepth 100000
namespace Lf
open Tr
def plen : Nd → Nat
 | .leaf p _ => p.length
 | .road p _ => p.length
 | _ => 0
theorem right_le : ∀ {n : Nd} {d : Nat}, Right n d → n ≠ .no → d + plen n ≤ 64
 | .no, _, _, h => absurd rfl h
 | .leaf p v, d, h, _ => h.1.2
 | .road p k, d, h, _ => by
  have hk : k ≠ .no := fun e => by have := h.2.1; rw [e] at this; cases this
  have := right_le h.2.2 hk
  show d + p.length ≤ 64
  omega
 | .fork ks v, d, h, _ => by
  show d + 0 ≤ 64
  rcases h.2.2.2 with ⟨h1, _⟩ | ⟨i, _, _, h1, _⟩
  ·have := (h.2.1 h1).2; omega
  ·have := right_le (h.2.2.1 i) h1; omega
namespace Te
set_option maxHeartbeats 1000000 in
theorem own_ (l : List UInt8) (hl : l.length < 1000000000) (k : Nat) : LM Try.prog 64 [bV l] [] fun o m => o = .ret (.s (some k) (l.map bK)) ∧ m = [(k, .r 5 1 l.length)] := by
 refine LM.row1 (k0 := 3) (fun ρ => by simp [V.ren]) ?_ k
 refine LFx.mk' tt Try.func64 rfl rfl rfl (by kernel_rfl) rfl rfl fun F => ?_
 exact wk trueW trueW trueW
set_option maxHeartbeats 1000000 in
theorem join_ (a b : List UInt8) (hl : a.length + b.length < 1000000000) (k : Nat) : LM Try.prog 99 [bV a, bV b] [] fun o m => o = .ret (.s (some k) ((a ++ b).map bK)) ∧ m = [(k, .r 5 1 (a ++ b).length)] := by
 refine LM.row1 (k0 := 6) (fun ρ => by simp [V.ren]) ?_ k
 have c1 := own_ a (by omega) 6
 refine LFx.mk' tt Try.func99 rfl rfl rfl (by kernel_rfl) rfl rfl fun F => ?_
 exact wk trueW trueW trueW
set_option maxHeartbeats 4000000 in
theorem behind_ (p : Pa) (n : Nd) (hl : p.length + plen n < 1000000000) : LF Try.prog 122 [bV (pB p), ndV n] (fun _ => ndV (Tr.behind p n)) none := by
 have hpl := pB_len p
 have hrf := tr_refs
 have hcv := tr_cv
 cases p with
 | nil =>
  have e : Tr.behind [] n = n := by cases n <;> rfl
  rw [e]
  clear hl e
  have h0 : (pB []).length = 0 := rfl
  refine LFx.mk' tt Try.func122 rfl rfl rfl (by kernel_rfl) rfl rfl fun F => ?_
  exact wk trueW trueW trueW
 | cons a p =>
  have h1 : 0 < (pB (a :: p)).length := by rw [hpl]; simp
  cases n with
  | no =>
   simp only [Tr.behind, ndV_no]
   refine LFx.mk' tt Try.func122 rfl rfl rfl (by kernel_rfl) rfl rfl fun F => ?_
   exact wk trueW trueW trueW
  | leaf q v =>
   have hq := pB_len q
   have hlen : (pB (a :: p)).length + (pB q).length < 1000000000 := by rw [hpl, hq]; exact hl
   have c1 := join_ (pB (a :: p)) (pB q) hlen
   simp only [Tr.behind, ndV_leaf, pB_app]
   generalize pB (a :: p) = P at *
   generalize pB q = Q at *
   clear hpl hq hl
   refine LFx.mk' tt Try.func122 rfl rfl rfl (by kernel_rfl) rfl rfl fun F => ?_
   exact wk trueW trueW trueW
  | road q k =>
   have hq := pB_len q
   have hlen : (pB (a :: p)).length + (pB q).length < 1000000000 := by rw [hpl, hq]; exact hl
   have c1 := join_ (pB (a :: p)) (pB q) hlen
   simp only [Tr.behind, ndV_road, pB_app]
   generalize pB (a :: p) = P at *
   generalize pB q = Q at *
   clear hpl hq hl
   cases k with
   | no =>
    simp only [ndV_no]
    refine LFx.mk' tt Try.func122 rfl rfl rfl (by kernel_rfl) rfl rfl fun F => ?_
    exact wk trueW trueW trueW
   | leaf q v =>
    simp only [ndV_leaf]
    refine LFx.mk' tt Try.func122 rfl rfl rfl (by kernel_rfl) rfl rfl fun F => ?_
    exact wk trueW trueW trueW
   | road q v =>
    simp only [ndV_road]
    refine LFx.mk' tt Try.func122 rfl rfl rfl (by kernel_rfl) rfl rfl fun F => ?_
    exact wk trueW trueW trueW
   | fork q v =>
    simp only [ndV_fork]
    refine LFx.mk' tt Try.func122 rfl rfl rfl (by kernel_rfl) rfl rfl fun F => ?_
    exact wk trueW trueW trueW
  | fork ks v =>
   have hlen : (pB (a :: p)).length < 1000000000 := by rw [hpl]; exact Nat.lt_of_le_of_lt (Nat.le_add_right ..) hl
   have c1 := own_ (pB (a :: p)) hlen
   have hfk := fk_len ks v
   simp only [Tr.behind, ndV_road, ndV_fork]
   generalize pB (a :: p) = P at *
   clear hpl hl
   refine LFx.mk' tt Try.func122 rfl rfl rfl (by kernel_rfl) rfl rfl fun F => ?_
   exact wk trueW trueW trueW
end Te
end Lf
open Go.RowKit Rg Wm Ar
set_option linter.unusedVariables false
set_option maxRecDepth 100000
namespace Lf
open Tr
theorem keyP_app : ∀ a b : List UInt8, keyP (a ++ b) = keyP a ++ keyP b
 | [], _ => rfl
 | x :: a, b => by simp only [List.cons_append, keyP, keyP_app a b]
theorem keyP_take {b : List UInt8} {i : Nat} (h : i < b.length) : pB (keyP (b.take (i + 1))) = pB (keyP (b.take i)) ++ [UInt8.ofNat (hi4 (b.getD i default)).val, UInt8.ofNat (lo4 (b.getD i default)).val] := by
 rw [List.take_succ_eq_append_getElem h, keyP_app, pB_app, List.getD_eq_getElem?_getD, List.getElem?_eq_getElem h]
 rfl
theorem shr4 (x : UInt8) : ((x.toNat : Nat) : Int).fdiv (2 ^ (min (4 : Int).toNat IntKind.u8.bits)) = ((UInt8.ofNat (hi4 x).val).toNat : Int) := by
 rw [half_byte]
 exact shr_u8r (a := x.toNat) (s := 4) (by decide)
theorem and15 (x : UInt8) : IntKind.u8.wrap (((BitVec.ofInt IntKind.u8.bits (x.toNat : Int) &&& BitVec.ofInt IntKind.u8.bits 15).toNat : Nat) : Int) = ((UInt8.ofNat (lo4 x).val).toNat : Int) := by
 rw [half_byte]
 have h1 : IntKind.u8.wrap (((BitVec.ofInt IntKind.u8.bits (x.toNat : Int) &&& BitVec.ofInt IntKind.u8.bits 15).toNat : Nat) : Int) = ((x &&& 15).toNat : Int) := bandn (a := x) (n := 15)
 rw [h1, UInt8.toNat_and]
 have : x.toNat &&& 15 = x.toNat % 16 := Nat.and_two_pow_sub_one_eq_mod x.toNat 4
 exact congrArg Int.ofNat this
theorem common_le : ∀ p q : Pa, Tr.common p q ≤ p.length ∧ Tr.common p q ≤ q.length
 | [], q => by simp [Tr.common]
 | x :: p, [] => by simp [Tr.common]
 | x :: p, y :: q => by
  have ih := common_le p q
  simp only [Tr.common, List.length_cons]
  split <;> omega
theorem common_lt : ∀ (p q : Pa) (i : Nat), i < Tr.common p q → p.getD i 0 = q.getD i 0
 | [], q, i, h => by simp [Tr.common] at h
 | x :: p, [], i, h => by simp [Tr.common] at h
 | x :: p, y :: q, i, h => by
  simp only [Tr.common] at h
  by_cases e : x = y
  ·rw [if_pos e] at h
   cases i with
   | zero => exact e
   | succ i => rw [List.getD_cons_succ, List.getD_cons_succ]; exact common_lt p q i (by omega)
  ·rw [if_neg e] at h; omega
theorem common_at : ∀ (p q : Pa), Tr.common p q < p.length → Tr.common p q < q.length → p.getD (Tr.common p q) 0 ≠ q.getD (Tr.common p q) 0
 | [], q, h, _ => by simp [Tr.common] at h
 | x :: p, [], _, h => by simp [Tr.common] at h
 | x :: p, y :: q, h1, h2 => by
  by_cases e : x = y
  ·simp only [Tr.common, if_pos e, List.length_cons] at h1 h2 ⊢
   rw [List.getD_cons_succ, List.getD_cons_succ]
   exact common_at p q (by omega) (by omega)
  ·simp only [Tr.common, if_neg e]
   exact e
theorem pB_get {p : Pa} {i : Nat} (h : i < p.length) : (((pB p).getD i default).toNat : Int) = ((p.getD i 0).val : Int) := by
 rw [List.getD_eq_getElem?_getD, List.getD_eq_getElem?_getD, List.getElem?_eq_getElem (by rw [pB_len]; exact h), List.getElem?_eq_getElem h]
 simp only [Option.getD_some]
 unfold pB
 rw [List.getElem_map, half_byte]
theorem pB_eq {p q : Pa} (i : Nat) (h1 : i < p.length) (h2 : i < q.length) : ((((pB p).getD i default).toNat : Int) = (((pB q).getD i default).toNat : Int)) ↔ p.getD i 0 = q.getD i 0 := by
 rw [pB_get h1, pB_get h2]
 exact ⟨fun h => Fin.ext (by omega), fun h => by rw [h]⟩
namespace Te
set_option maxHeartbeats 1000000 in
theorem Halves_ (b : List UInt8) (hb : b.length < 1000000000) : LF Try.prog 60 [bV b] (fun _ => bV (pB (keyP b))) none := by
 refine LFx.mk' tt Try.func60 rfl rfl rfl (by kernel_rfl) rfl rfl fun F => ?_
 refine wk ?_ trueW trueW
 refine LC.nilrow 3 3 5 1 rfl rfl rfl ?_
 refine LC.loop2 (fun i S => [(3, .s (some 3) (S.map bK)), (6, bV b), (7, .k (.int .i64 ((b.length : Nat) : Int))), (8, .k (.int .i64 ((i : Nat) : Int)))]) (fun i S => [(3, .r 5 1 S.length)]) (fun i S => i ≤ b.length ∧ S = pB (keyP (b.take i))) ((b.length - ·)) (0) ([]) ⟨by omega, by rw [List.take_zero]; rfl⟩ ⟨rfl, rfl, rfl, rfl, trivial⟩ ⟨rfl, trivial⟩ rfl rfW rfW ?_
 rintro i S ⟨hi, hS⟩
 have hSl : S.length = 2 * i := by rw [hS, pB_len, keyP_len, List.length_take]; omega
 rcases Nat.lt_or_ge i b.length with h | h
 ·have e1 := shr4 (b.getD i default)
  have e2 := and15 (b.getD i default)
  have hok : i + 1 ≤ b.length ∧ S ++ [UInt8.ofNat (hi4 (b.getD i default)).val, UInt8.ofNat (lo4 (b.getD i default)).val] = pB (keyP (b.take (i + 1))) := ⟨h, by rw [keyP_take h, hS]⟩
  clear hS
  exact wk trueW trueW trueW
 ·obtain rfl : i = b.length := by omega
  rw [List.take_length] at hS
  rw [← hS]
  clear hS
  exact wk trueW trueW trueW
set_option maxHeartbeats 2000000 in
theorem Common_ (p q : Pa) (hp : p.length < 1000000000) (hq : q.length < 1000000000) : LF Try.prog 61 [bV (pB p), bV (pB q)] (fun _ => .k (.int .i64 ((Tr.common p q : Nat) : Int))) none := by
 have hpl := pB_len p
 have hql := pB_len q
 obtain ⟨k1, k2⟩ := common_le p q
 have k3 := @pB_eq p q
 have k4 := common_lt p q
 have k5 := common_at p q
 generalize Tr.common p q = C at *
 generalize pB p = P at *
 generalize pB q = Q at *
 obtain ⟨m, hm1, hm2⟩ : ∃ m : Nat, (m = p.length ∨ m = q.length) ∧ m ≤ p.length ∧ m ≤ q.length ∧ (if (Q.length : Int) < (P.length : Int) then (Q.length : Int) else (P.length : Int)) = (m : Int) := by
  by_cases h : Q.length < P.length
  ·exact ⟨q.length, .inr rfl, by omega, by omega, by rw [if_pos (by omega)]; omega⟩
  ·exact ⟨p.length, .inl rfl, by omega, by omega, by rw [if_neg (by omega)]; omega⟩
 obtain ⟨hm2, hm3, hm4⟩ := hm2
 refine LFx.mk' tt Try.func61 rfl rfl rfl (by kernel_rfl) rfl rfl fun F => ?_
 refine wk ?_ trueW trueW
 refine LC.loopN (fun i => [(0, bV P), (1, bV Q), (5, .k (.int .i64 ((i : Nat) : Int)))]) (fun i => []) (fun i => i ≤ C) ((C - ·)) (0) (by omega) ⟨rfl, rfl, rfl, trivial⟩ trivial rfl rfW rfW ?_
 intro i hi
 by_cases h1 : i < m
 ·have h2 := k3 i (by omega) (by omega)
  have k4' := k4 i
  have k5' := k5
  by_cases h3 : i < C
  ·have h4 := h2.2 (k4 i h3)
   have hok : i + 1 ≤ C := h3
   clear k3 k4 k5 h2 k4' k5'
   exact wk trueW trueW trueW
  ·obtain rfl : i = C := by omega
   have h4 : ¬ ((P.getD i default).toNat : Int) = ((Q.getD i default).toNat : Int) := fun e => k5 (by omega) (by omega) (h2.1 e)
   clear k3 k4 k5 h2 k4' k5'
   exact wk trueW trueW trueW
 ·obtain rfl : i = C := by omega
  clear k3 k4 k5
  exact wk trueW trueW trueW
end Te
end Lf
open Go.RowKit Rg Wm Ar
set_option linter.unusedVariables false
set_option maxRecDepth 100000
namespace Lf
open Tr
namespace Te
set_option maxHeartbeats 1000000 in
theorem wrong_ (p : Pa) (hp : p.length < 1000000000) : LF Try.prog 100 [bV (pB p)] (fun _ => .k (.bool false)) none := by
 have hpl := pB_len p
 have hb : ∀ i, i < p.length → ((pB p).getD i default).toNat ≤ 15 := fun i h => by
  have := pB_get h
  have := (p.getD i 0).isLt
  omega
 generalize pB p = P at *
 refine LFx.mk' tt Try.func100 rfl rfl rfl (by kernel_rfl) rfl rfl fun F => ?_
 refine wk ?_ trueW trueW
 refine LC.loopN (fun i => [(5, bV P), (6, .k (.int .i64 ((P.length : Nat) : Int))), (7, .k (.int .i64 ((i : Nat) : Int)))]) (fun i => []) (fun i => i ≤ P.length) ((P.length - ·)) (0) (by omega) ⟨rfl, rfl, rfl, trivial⟩ trivial rfl rfW rfW ?_
 intro i hi
 rcases Nat.lt_or_ge i P.length with h | h
 ·have h2 := hb i (by omega)
  have hok : i + 1 ≤ P.length := h
  clear hb
  exact wk trueW trueW trueW
 ·obtain rfl : i = P.length := by omega
  clear hb
  exact wk trueW trueW trueW
set_option maxHeartbeats 1000000 in
theorem Join_ (p : Pa) (hp : p.length < 1000000000) (he : p.length % 2 = 0) : LF Try.prog 67 [bV (pB p)] (fun _ => .t [bV (keyB p), .k (.int .i64 0)]) none := by
 have hpl := pB_len p
 have c1 := wrong_ p hp
 refine LFx.mk' tt Try.func67 rfl rfl rfl (by kernel_rfl) rfl rfl fun F => ?_
 refine wk ?_ trueW trueW
 refine LC.nilrow 4 40 5 1 rfl rfl rfl ?_
 refine LC.loop3 (fun R S => [(0, bV (pB R)), (4, .s (some 40) (S.map bK))]) (fun R S => [(40, .r 5 1 S.length)]) (fun R S => R.length % 2 = 0 ∧ S ++ keyB R = keyB p ∧ R.length ≤ p.length ∧ S.length ≤ p.length - R.length) ((fun R => R.length)) (p) ([]) ⟨he, rfl, by omega, by simp⟩ ⟨rfl, rfl, trivial⟩ ⟨rfl, trivial⟩ rfl rfW rfW ?_
 rintro R S ⟨h1, h2, h3, h4⟩
 rcases R with _ | ⟨a, _ | ⟨b, R⟩⟩
 ·rw [show keyB [] = [] from rfl, List.append_nil] at h2
  rw [← h2]
  clear h2 c1
  exact wk trueW trueW trueW
 ·simp at h1
 ·have ha := a.isLt
  have hb := b.isLt
  have hE : (UInt8.ofNat (((pB (a :: b :: R)).getD 0 default).toNat * 2 ^ 4) ||| (pB (a :: b :: R)).getD 1 default) = UInt8.ofNat (a.val * 16 + b.val) := by
   rw [show (pB (a :: b :: R)).getD 0 default = UInt8.ofNat a.val from rfl, show (pB (a :: b :: R)).getD 1 default = UInt8.ofNat b.val from rfl, half_byte]
   apply UInt8.toNat_inj.1
   rw [UInt8.toNat_or]
   have h1 : (UInt8.ofNat (a.val * 2 ^ 4)).toNat = 2 ^ 4 * a.val := by simp only [UInt8.toNat_ofNat']; omega
   have h2 : (UInt8.ofNat b.val).toNat = b.val := half_byte b
   have h3 : (UInt8.ofNat (a.val * 16 + b.val)).toNat = 2 ^ 4 * a.val + b.val := by simp only [UInt8.toNat_ofNat']; omega
   rw [h1, h2, h3, Nat.two_pow_add_eq_or_of_lt (by omega)]
  simp only [List.length_cons] at h1 h3 h4
  have hok : R.length % 2 = 0 ∧ (S ++ [UInt8.ofNat (((pB (a :: b :: R)).getD 0 default).toNat * 2 ^ 4) ||| (pB (a :: b :: R)).getD 1 default]) ++ keyB R = keyB p ∧ R.length ≤ p.length ∧ (S ++ [UInt8.ofNat (((pB (a :: b :: R)).getD 0 default).toNat * 2 ^ 4) ||| (pB (a :: b :: R)).getD 1 default]).length ≤ p.length - R.length := ⟨by omega, by rw [hE, ← h2, List.append_assoc]; rfl, by omega, by rw [List.length_append]; simp; omega⟩
  have hbl : (pB (a :: b :: R)).length = R.length + 2 := by rw [pB_len]; rfl
  clear h2 c1 hE ha hb
  exact wk trueW trueW trueW
end Te
end Lf
namespace Pk
open Ps
inductive Itm where
 | mk (l : Bool) (t : List UInt8) (ks : List Itm)
 deriving Inhabited
mutual
def Itm.size : Itm → Nat
 | .mk _ t ks => 1 + t.length + Itm.sizeL ks
def Itm.sizeL : List Itm → Nat
 | [] => 0
 | k :: r => k.size + 1 + Itm.sizeL r
end
def numL : Nat → List UInt8
 | 0 => []
 | n + 1 => numL ((n + 1) / 256) ++ [UInt8.ofNat ((n + 1) % 256)]
decreasing_by omega
theorem beN_append (l m : List UInt8) : beN (l ++ m) = beN l * 256 ^ m.length + beN m := by
 unfold beN
 rw [show nat8 (l ++ m) = nat8 l ++ nat8 m by simp [nat8], pos_append]
 simp [nat8]
theorem beN_numL : ∀ n, beN (numL n) = n
 | 0 => by rw [numL]; rfl
 | n + 1 => by
  have h : (n + 1) / 256 < n + 1 := by omega
  rw [numL, beN_append, beN_numL ((n + 1) / 256)]
  have : beN [UInt8.ofNat ((n + 1) % 256)] = (n + 1) % 256 := by simp [beN, nat8, pos]
  rw [this]
  simp only [List.length_cons, List.length_nil]
  omega
decreasing_by omega
theorem numL_head : ∀ n, (numL n).head? ≠ some 0
 | 0 => by rw [numL]; simp
 | n + 1 => by
  have h : (n + 1) / 256 < n + 1 := by omega
  rw [numL]
  have ih := numL_head ((n + 1) / 256)
  cases hl : numL ((n + 1) / 256) with
  | nil =>
   have e := beN_numL ((n + 1) / 256)
   rw [hl] at e
   have e0 : beN [] = 0 := rfl
   rw [e0] at e
   intro h0
   simp only [List.nil_append, List.head?_cons, Option.some.injEq] at h0
   have := congrArg UInt8.toNat h0
   simp at this
   omega
  | cons a r => rw [hl] at ih; simpa using ih
decreasing_by omega
theorem numL_uniq {n : Nat} {l : List UInt8} (h : l.head? ≠ some 0) (k : beN l = n) : l = numL n := beN_inj h (numL_head n) (k.trans (beN_numL n).symm)
theorem strip_num {l : List UInt8} {n : Nat} (h : beN l = n) : strip l = numL n := numL_uniq (strip_head l) ((beN_strip l).trans h)
theorem numL_len {n k : Nat} (h : n < 256 ^ k) : (numL n).length ≤ k := by
 rcases Nat.lt_or_ge k (numL n).length with hlt | hge
 ·exfalso
  have hh := numL_head n
  have hb := beN_numL n
  cases hl : numL n with
  | nil => rw [hl] at hlt; simp at hlt
  | cons a r =>
   rw [hl] at hh hb hlt
   have ha : a.toNat ≠ 0 := fun e => hh (by simp only [List.head?_cons, Option.some.injEq]; exact UInt8.toNat_inj.1 (by rw [e]; rfl))
   have := pos_ge (B := 256) (a := a.toNat) (l := nat8 r) ha
   have e : pos 256 (a.toNat :: nat8 r) = n := hb
   rw [e] at this
   have hp : 256 ^ k ≤ 256 ^ (nat8 r).length := Nat.pow_le_pow_right (by decide) (by simp [nat8] at hlt ⊢; omega)
   omega
 ·exact hge
theorem numL_pos {n : Nat} (h : 0 < n) : 0 < (numL n).length := by
 rcases Nat.eq_zero_or_pos (numL n).length with h0 | h0
 ·have e := beN_numL n
  rw [List.eq_nil_of_length_eq_zero h0] at e
  have e0 : beN [] = 0 := rfl
  omega
 ·exact h0
def head (base n : Nat) : List UInt8 := if n < 48 then [UInt8.ofNat (base + n)] else UInt8.ofNat (base + 48 + ((numL n).length - 1)) :: numL n
mutual
def enc : Itm → List UInt8
 | .mk false t _ => if t.length = 1 ∧ t.getD 0 default < 128 then t else head 128 t.length ++ t
 | .mk true _ ks => head 192 (encL ks).length ++ encL ks
def encL : List Itm → List UInt8
 | [] => []
 | k :: r => enc k ++ encL r
end
mutual
def nrm : Itm → Itm
 | .mk false t _ => .mk false t []
 | .mk true _ ks => .mk true [] (nrmL ks)
def nrmL : List Itm → List Itm
 | [] => []
 | k :: r => nrm k :: nrmL r
end
mutual
def same : Itm → Itm → Bool
 | .mk l t ks, .mk l' t' ks' => decide (l = l') && (if l = false then decide (t = t') else decide (ks.length = ks'.length) && sameL ks ks')
def sameL : List Itm → List Itm → Bool
 | a :: r, b :: s => same a b && sameL r s
 | [], _ => true
 | _ :: _, [] => true
end
def take? (n : Nat) (l : List UInt8) : Option (List UInt8 × List UInt8) := if n ≤ l.length then some (l.take n, l.drop n) else none
def lenR (c base : Nat) (l : List UInt8) : Option (Nat × List UInt8) :=
 if c < base + 48 then some (c - base, l)
 else match take? (c - base - 48 + 1) l with
  | none => none
  | some (h, r) => if h.head? = some 0 ∨ 8 < h.length then none else if beN h < 48 then none else some (beN h, r)
def part (c base : Nat) (l : List UInt8) : Option (List UInt8 × List UInt8) :=
 match lenR c base l with
 | none => none
 | some (n, r) => take? n r
theorem take?_spec {n : Nat} {l a r : List UInt8} (h : take? n l = some (a, r)) : l = a ++ r ∧ a.length = n := by
 unfold take? at h
 split at h
 ·cases h
  exact ⟨(List.take_append_drop n l).symm, by simp; omega⟩
 ·cases h
theorem take?_app (a r : List UInt8) : take? a.length (a ++ r) = some (a, r) := by simp [take?]
theorem lenR_spec {c base n : Nat} {l r : List UInt8} (h : lenR c base l = some (n, r)) : r.length ≤ l.length := by
 unfold lenR at h
 split at h
 ·cases h; exact Nat.le_refl _
 ·split at h
  ·cases h
  ·rename_i h' r' ht
   obtain ⟨rfl, _⟩ := take?_spec ht
   split at h
   ·cases h
   ·split at h
    ·cases h
    ·cases h; simp
theorem part_spec {c base : Nat} {l a r : List UInt8} (h : part c base l = some (a, r)) : a.length + r.length ≤ l.length := by
 unfold part at h
 split at h
 ·cases h
 ·rename_i n r' hl
  have := lenR_spec hl
  obtain ⟨rfl, _⟩ := take?_spec h
  simpa using this
mutual
def rd : List UInt8 → Option (Itm × List UInt8)
 | [] => none
 | c :: l =>
  if c.toNat < 128 then some (.mk false [c] [], l)
  else if c.toNat < 192 then
   match part c.toNat 128 l with
   | none => none
   | some (b, r) => if b.length = 1 ∧ b.getD 0 default < 128 then none else some (.mk false b [], r)
  else match _hp : part c.toNat 192 l with
   | none => none
   | some (b, r) =>
    match rdL b with
    | none => none
    | some ks => some (.mk true [] ks, r)
termination_by l => (l.length, 0)
decreasing_by
 have := part_spec _hp
 exact Prod.Lex.left _ _ (by simp; omega)
def rdL (b : List UInt8) : Option (List Itm) :=
 if b = [] then some []
 else match rd b with
  | none => none
  | some (k, r) =>
   if r.length < b.length then
    match rdL r with
    | none => none
    | some ks => some (k :: ks)
   else none
termination_by (b.length, 1)
decreasing_by
 ·exact Prod.Lex.right _ (by decide)
 ·rename_i h; exact Prod.Lex.left _ _ h
end
theorem rd_len {l r : List UInt8} {k : Itm} (h : rd l = some (k, r)) : r.length < l.length := by
 cases l with
 | nil => rw [rd] at h; cases h
 | cons c l =>
  rw [rd] at h
  split at h
  ·cases h; simp
  ·split at h
   ·split at h
    ·cases h
    ·rename_i b r' hp
     have := part_spec hp
     split at h
     ·cases h
     ·cases h; simp; omega
   ·split at h
    ·cases h
    ·rename_i b r' hp
     have := part_spec hp
     split at h
     ·cases h
     ·cases h; simp; omega
theorem rdL_cons {b r : List UInt8} {k : Itm} (h : rd b = some (k, r)) : rdL b = (rdL r).map (k :: ·) := by
 rw [rdL]
 have hl := rd_len h
 have hb : b ≠ [] := fun e => by subst e; simp at hl
 rw [if_neg hb, h]
 simp only [hl, if_true]
 cases rdL r <;> rfl
theorem rdL_none {b : List UInt8} (hb : b ≠ []) (h : rd b = none) : rdL b = none := by
 rw [rdL, if_neg hb, h]
theorem ofNat_toNat {n : Nat} (h : n < 256) : (UInt8.ofNat n).toNat = n := by simp; omega
theorem part_head {base : Nat} {t r : List UInt8} (hb : base + 64 ≤ 256) (ht : t.length < 2 ^ 64) : ∃ c h, head base t.length = c :: h ∧ base ≤ c.toNat ∧ c.toNat < base + 64 ∧ part c.toNat base (h ++ (t ++ r)) = some (t, r) := by
 unfold head
 rcases Nat.lt_or_ge t.length 48 with h | h
 ·rw [if_pos h]
  have e := ofNat_toNat (n := base + t.length) (by omega)
  refine ⟨_, _, rfl, by omega, by omega, ?_⟩
  rw [e]
  unfold part lenR
  rw [if_pos (by omega)]
  simp only [List.nil_append, Nat.add_sub_cancel_left]
  exact take?_app t r
 ·rw [if_neg (by omega)]
  have h8 : (numL t.length).length ≤ 8 := numL_len (by simpa using ht)
  have h0 := numL_pos (n := t.length) (by omega)
  have e := ofNat_toNat (n := base + 48 + ((numL t.length).length - 1)) (by omega)
  refine ⟨_, _, rfl, by omega, by omega, ?_⟩
  rw [e]
  unfold part lenR
  rw [if_neg (by omega), show base + 48 + ((numL t.length).length - 1) - base - 48 + 1 = (numL t.length).length by omega, take?_app]
  simp only []
  rw [if_neg (by intro hh; rcases hh with hh | hh; exact numL_head _ hh; omega), beN_numL, if_neg (by omega)]
  exact take?_app t r
theorem part_uniq {base c : Nat} {l a r : List UInt8} (hc : base ≤ c) (hc2 : c < base + 64) (_hb : base + 64 ≤ 256) (h : part c base l = some (a, r)) : UInt8.ofNat c :: l = head base a.length ++ (a ++ r) := by
 unfold part at h
 split at h
 ·cases h
 ·rename_i n r' hl
  unfold lenR at hl
  split at hl
  ·cases hl
   obtain ⟨rfl, hn⟩ := take?_spec h
   unfold head
   rw [if_pos (by omega), show base + a.length = c by omega]
   rfl
  ·split at hl
   ·cases hl
   ·rename_i h' r'' ht
    obtain ⟨rfl, hn'⟩ := take?_spec ht
    split at hl
    ·cases hl
    ·split at hl
     ·cases hl
     ·rename_i hz hs
      cases hl
      obtain ⟨rfl, hn⟩ := take?_spec h
      have e : h' = numL a.length := numL_uniq (fun e => hz (.inl e)) hn.symm
      unfold head
      rw [if_neg (by omega), ← e, show base + 48 + (h'.length - 1) = c by omega]
      simp
mutual
theorem rd_enc : ∀ (a : Itm) (r : List UInt8), (enc a).length < 2 ^ 64 → rd (enc a ++ r) = some (nrm a, r)
 | .mk false t ks, r, h => by
  unfold enc at h ⊢
  split
  ·rename_i h1
   obtain ⟨h1, h2⟩ := h1
   match t, h1 with
   | [c], _ =>
    have : c.toNat < 128 := h2
    simp only [List.cons_append, List.nil_append]
    rw [rd, if_pos this]
    rfl
  ·rename_i h1
   rw [if_neg h1] at h
   obtain ⟨c, hh, e1, e2, e3, e4⟩ := part_head (base := 128) (t := t) (r := r) (by decide) (by simp at h; omega)
   rw [e1, List.cons_append, List.cons_append, List.append_assoc, rd, if_neg (by omega), if_pos (by omega), e4]
   simp only []
   rw [if_neg h1]
   rfl
 | .mk true t ks, r, h => by
  unfold enc at h ⊢
  have hl : (encL ks).length < 2 ^ 64 := by simp at h; omega
  obtain ⟨c, hh, e1, e2, e3, e4⟩ := part_head (base := 192) (t := encL ks) (r := r) (by decide) hl
  have ih := rdL_enc ks hl
  rw [e1, List.cons_append, List.cons_append, List.append_assoc, rd, if_neg (by omega), if_neg (by omega)]
  split
  ·rename_i hp; rw [e4] at hp; cases hp
  ·rename_i b r' hp
   rw [e4] at hp
   cases hp
   rw [ih]
   rfl
theorem rdL_enc : ∀ (a : List Itm), (encL a).length < 2 ^ 64 → rdL (encL a) = some (nrmL a)
 | [], _ => by rw [rdL]; rfl
 | k :: s, h => by
  unfold encL at h ⊢
  have h1 := rd_enc k (encL s) (by simp at h; omega)
  rw [rdL_cons h1, rdL_enc s (by simp at h; omega)]
  rfl
end
theorem rd_uniq : ∀ (n : Nat), (∀ (l r : List UInt8) (k : Itm), l.length ≤ n → rd l = some (k, r) → l = enc k ++ r ∧ nrm k = k) ∧ (∀ (l : List UInt8) (ks : List Itm), l.length ≤ n → rdL l = some ks → l = encL ks ∧ nrmL ks = ks) := by
 intro n
 induction n with
 | zero =>
  refine ⟨fun l r k hl h => ?_, fun l ks hl h => ?_⟩
  ·have := rd_len h; omega
  ·have : l = [] := List.eq_nil_of_length_eq_zero (by omega)
   subst this
   rw [rdL] at h
   simp at h
   subst h
   exact ⟨rfl, rfl⟩
 | succ n ih =>
  have key : ∀ (l r : List UInt8) (k : Itm), l.length ≤ n + 1 → rd l = some (k, r) → l = enc k ++ r ∧ nrm k = k := by
   intro l r k hl h
   cases l with
   | nil => rw [rd] at h; cases h
   | cons c l =>
    have hc := c.toNat_lt
    have hcc : UInt8.ofNat c.toNat = c := by simp
    rw [rd] at h
    split at h
    ·rename_i h1
     cases h
     refine ⟨?_, rfl⟩
     unfold enc
     rw [if_pos ⟨rfl, h1⟩]
     rfl
    ·rename_i h1
     split at h
     ·rename_i h2
      split at h
      ·cases h
      ·rename_i b r' hp
       split at h
       ·cases h
       ·rename_i h3
        cases h
        refine ⟨?_, rfl⟩
        have := part_uniq (by omega) (by omega) (by decide) hp
        rw [hcc] at this
        unfold enc
        rw [if_neg h3, List.append_assoc]
        exact this
     ·rename_i h2
      split at h
      ·cases h
      ·rename_i b r' hp
       split at h
       ·cases h
       ·rename_i ks hks
        cases h
        have hps := part_spec hp
        obtain ⟨e1, e2⟩ := ih.2 b ks (by simp at hl; omega) hks
        have := part_uniq (by omega) (by omega) (by decide) hp
        rw [hcc] at this
        unfold enc nrm
        rw [e2, ← e1, List.append_assoc]
        exact ⟨this, rfl⟩
  refine ⟨key, fun l ks hl h => ?_⟩
  rcases Nat.eq_zero_or_pos l.length with h0 | h0
  ·have : l = [] := List.eq_nil_of_length_eq_zero h0
   subst this
   rw [rdL] at h
   simp at h
   subst h
   exact ⟨rfl, rfl⟩
  ·cases hr : rd l with
   | none =>
    rw [rdL_none (fun e => by subst e; simp at h0) hr] at h; cases h
   | some x =>
    obtain ⟨k, r⟩ := x
    rw [rdL_cons hr] at h
    obtain ⟨ks', hks, rfl⟩ := Option.map_eq_some_iff.1 h
    have hlen := rd_len hr
    obtain ⟨e1, e2⟩ := key l r k hl hr
    obtain ⟨e3, e4⟩ := ih.2 r ks' (by omega) hks
    unfold encL nrmL
    rw [e2, e4, ← e3]
    exact ⟨e1, rfl⟩
def dec (b : List UInt8) : Option Itm :=
 match rd b with
 | some (k, []) => some k
 | _ => none
theorem dec_enc {a : Itm} (h : (enc a).length < 2 ^ 64) : dec (enc a) = some (nrm a) := by
 have := rd_enc a [] h
 rw [List.append_nil] at this
 unfold dec
 rw [this]
theorem dec_uniq {b : List UInt8} {k : Itm} (h : dec b = some k) : b = enc k := by
 unfold dec at h
 cases hr : rd b with
 | none => rw [hr] at h; cases h
 | some x =>
  obtain ⟨k', r⟩ := x
  rw [hr] at h
  cases r with
  | cons => cases h
  | nil =>
   cases h
   have := ((rd_uniq b.length).1 b [] k (Nat.le_refl _) hr).1
   simpa using this
theorem head_len {b n : Nat} (h : n < 2 ^ 64) : (head b n).length ≤ 9 := by
 unfold head
 split
 ·simp
 ·have := numL_len (n := n) (k := 8) (by simpa using h)
  simp only [List.length_cons]; omega
mutual
theorem enc_len : ∀ a : Itm, a.size < 2 ^ 56 → (enc a).length ≤ 9 * a.size
 | .mk false t ks, h => by
  unfold enc Itm.size at *
  split
  ·omega
  ·have : (head 128 t.length).length ≤ 9 := head_len (by omega)
   simp only [List.length_append]; omega
 | .mk true t ks, h => by
  unfold enc Itm.size at *
  have := encL_len ks (by omega)
  have h2 : (head 192 (encL ks).length).length ≤ 9 := head_len (by omega)
  simp only [List.length_append]; omega
theorem encL_len : ∀ a : List Itm, Itm.sizeL a < 2 ^ 56 → (encL a).length ≤ 9 * Itm.sizeL a
 | [], _ => by simp [encL]
 | k :: r, h => by
  unfold encL Itm.sizeL at *
  have h1 := enc_len k (by omega)
  have h2 := encL_len r (by omega)
  simp only [List.length_append]; omega
end
attribute [irreducible] head enc encL lenR part
end Pk
set_option maxRecDepth 100000
namespace Ro
open Tr Pk
def tagH (n : Nat) (leaf : Bool) : Fin 16 := ⟨n % 2 + (if leaf then 2 else 0), by split <;> omega⟩
def tagPa (q : Pa) (leaf : Bool) : Pa := tagH q.length leaf :: (if q.length % 2 = 0 then 0 :: q else q)
def tag (q : Pa) (leaf : Bool) : List UInt8 := keyB (tagPa q leaf)
def untagPa : Pa → Option (Pa × Bool)
 | x :: y :: r => if 3 < x.val then none else if x.val % 2 = 0 then (if y.val = 0 then some (r, decide (2 ≤ x.val)) else none) else some (y :: r, decide (2 ≤ x.val))
 | _ => none
theorem untagPa_cons (x y : Fin 16) (r : Pa) : untagPa (x :: y :: r) = (if 3 < x.val then none else if x.val % 2 = 0 then (if y.val = 0 then some (r, decide (2 ≤ x.val)) else none) else some (y :: r, decide (2 ≤ x.val))) := rfl
def untag (b : List UInt8) : Option (Pa × Bool) := untagPa (keyP b)
theorem tagPa_even (q : Pa) (leaf : Bool) : (tagPa q leaf).length % 2 = 0 := by
 unfold tagPa
 split <;> simp only [List.length_cons] <;> omega
theorem tagPa_len (q : Pa) (leaf : Bool) : (tagPa q leaf).length ≤ q.length + 2 := by
 unfold tagPa
 split <;> simp
theorem keyP_tag (q : Pa) (leaf : Bool) : keyP (tag q leaf) = tagPa q leaf := keyP_B (tagPa_even q leaf)
theorem tag_len (q : Pa) (leaf : Bool) : 2 * (tag q leaf).length ≤ q.length + 2 := by
 have := keyP_len (tag q leaf)
 rw [keyP_tag] at this
 have := tagPa_len q leaf
 omega
theorem untagPa_tag (q : Pa) (leaf : Bool) : untagPa (tagPa q leaf) = some (q, leaf) := by
 unfold tagPa
 have h2 : decide (2 ≤ (tagH q.length leaf).val) = leaf := by
  cases leaf
  ·exact decide_eq_false (by show ¬ 2 ≤ q.length % 2 + 0; omega)
  ·exact decide_eq_true (by show 2 ≤ q.length % 2 + 2; omega)
 have h3 : ¬ 3 < (tagH q.length leaf).val := by
  show ¬ 3 < q.length % 2 + (if leaf then 2 else 0)
  split <;> omega
 have h4 : (tagH q.length leaf).val % 2 = q.length % 2 := by
  show (q.length % 2 + (if leaf then 2 else 0)) % 2 = _
  split <;> omega
 by_cases h : q.length % 2 = 0
 ·rw [if_pos h]
  rw [untagPa_cons, if_neg h3, if_pos (by omega), h2]
  rfl
 ·rw [if_neg h]
  cases q with
  | nil => simp at h
  | cons y r =>
   rw [untagPa_cons, if_neg h3, if_neg (by omega), h2]
theorem untag_tag (q : Pa) (leaf : Bool) : untag (tag q leaf) = some (q, leaf) := by unfold untag; rw [keyP_tag, untagPa_tag]
theorem tagPa_untag {p q : Pa} {leaf : Bool} (he : p.length % 2 = 0) (h : untagPa p = some (q, leaf)) : tagPa q leaf = p := by
 match p, h with
 | x :: y :: r, h =>
  have hx := x.isLt
  rw [untagPa_cons] at h
  by_cases h3 : 3 < x.val
  ·rw [if_pos h3] at h; cases h
  ·rw [if_neg h3] at h
   have hx2 : ∀ n, x.val % 2 = n % 2 → tagH n (decide (2 ≤ x.val)) = x := fun n hn => by
    refine Fin.ext ?_
    show n % 2 + (if decide (2 ≤ x.val) = true then 2 else 0) = x.val
    by_cases h2 : 2 ≤ x.val
    ·rw [if_pos (decide_eq_true h2)]; omega
    ·rw [if_neg (by simpa using h2)]; omega
   simp only [List.length_cons] at he
   by_cases h4 : x.val % 2 = 0
   ·rw [if_pos h4] at h
    by_cases h5 : y.val = 0
    ·rw [if_pos h5] at h
     cases h
     unfold tagPa
     rw [hx2 _ (by omega), if_pos (by omega)]
     rw [show y = 0 from Fin.ext h5]
    ·rw [if_neg h5] at h; cases h
   ·rw [if_neg h4] at h
    cases h
    unfold tagPa
    rw [hx2 _ (by simp only [List.length_cons]; omega), if_neg (by simp only [List.length_cons]; omega)]
theorem tag_untag {b : List UInt8} {q : Pa} {leaf : Bool} (h : untag b = some (q, leaf)) : tag q leaf = b := by
 unfold tag
 rw [tagPa_untag (by rw [keyP_len]; omega) h, keyB_P]
structure Shp where
 kind : Int
 path : List UInt8
 value : List UInt8
 kids : List (List UInt8)
abbrev tx (t : List UInt8) : Itm := .mk false t []
abbrev ls (l : List Itm) : Itm := .mk true [] l
def itxt : Itm → List UInt8
 | .mk _ t _ => t
def ilst : Itm → Bool
 | .mk l _ _ => l
def ikds : Itm → List Itm
 | .mk _ _ ks => ks
def sum0 (b : List UInt8) : Bool := decide (b.length = 32) || decide (b.length = 0)
def full (ks : List (List UInt8)) : Nat := (ks.filter fun k => decide (k.length ≠ 0)).length
def itmS (s : Shp) : Option Itm :=
 if s.kind = 0 then some (tx [])
 else if s.kind = 1 then (if halvesB s.path = true ∧ 0 < s.value.length ∧ s.value.length ≤ 1024 then some (ls [tx (tag (pOf s.path) true), tx s.value]) else none)
 else if s.kind = 2 then (if halvesB s.path = true ∧ 0 < s.path.length ∧ s.kids.length = 1 ∧ (s.kids.getD 0 default).length = 32 then some (ls [tx (tag (pOf s.path) false), tx (s.kids.getD 0 default)]) else none)
 else if s.kind = 3 then (if s.kids.length = 16 ∧ s.value.length ≤ 1024 ∧ s.kids.all sum0 = true ∧ 2 ≤ min s.value.length 1 + full s.kids then some (ls (s.kids.map tx ++ [tx s.value])) else none)
 else none
def shp2 (v : List UInt8) : Option (Pa × Bool) → Option Shp
 | none => none
 | some (p, true) => some ⟨1, pB p, v, []⟩
 | some (p, false) => some ⟨2, pB p, [], [v]⟩
def shpI (it : Itm) : Option Shp :=
 if ilst it = false then (if (itxt it).length = 0 then some ⟨0, [], [], []⟩ else none)
 else if (ikds it).any ilst = true then none
 else if (ikds it).length = 17 then some ⟨3, [], itxt ((ikds it).getD 16 default), ((ikds it).take 16).map itxt⟩
 else if (ikds it).length = 2 then shp2 (itxt ((ikds it).getD 1 default)) (untag (itxt ((ikds it).getD 0 default)))
 else none
def readS (code : List UInt8) : Option Shp :=
 match dec code with
 | none => none
 | some it => match shpI it with
  | none => none
  | some s => if (itmS s).isSome = true then some s else none
def normS (s : Shp) : Shp :=
 if s.kind = 0 then ⟨0, [], [], []⟩ else if s.kind = 1 then ⟨1, s.path, s.value, []⟩ else if s.kind = 2 then ⟨2, s.path, [], s.kids⟩ else ⟨3, [], s.value, s.kids⟩
theorem nrmL_map (l : List (List UInt8)) : nrmL (l.map tx) = l.map tx := by
 induction l with
 | nil => rfl
 | cons a r ih => rw [List.map_cons, nrmL, ih]; rfl
theorem nrm_ls (l : List (List UInt8)) : nrm (ls (l.map tx)) = ls (l.map tx) := by unfold ls; rw [nrm, nrmL_map]
theorem any_tx (l : List (List UInt8)) : (l.map tx).any ilst = false := by
 rw [List.any_map, List.any_eq_false]
 intro x _
 simp [ilst]
theorem map_itxt (l : List (List UInt8)) : (l.map tx).map itxt = l := by
 rw [List.map_map]
 conv => rhs; rw [← List.map_id l]
 exact List.map_congr_left fun x _ => rfl
theorem getD_tx (l : List (List UInt8)) (i : Nat) (h : i < l.length) : itxt ((l.map tx).getD i default) = l.getD i default := by
 rw [List.getD_eq_getElem?_getD, List.getElem?_map, List.getElem?_eq_getElem h, List.getD_eq_getElem?_getD, List.getElem?_eq_getElem h]
 rfl
theorem itmS_list {s : Shp} {it : Itm} (h : itmS s = some it) : (s.kind = 0 ∧ it = tx []) ∨ ∃ l : List (List UInt8), it = ls (l.map tx) ∧ (s.kind = 1 ∧ l = [tag (pOf s.path) true, s.value] ∧ halvesB s.path = true ∧ 0 < s.value.length ∧ s.value.length ≤ 1024 ∨ s.kind = 2 ∧ l = [tag (pOf s.path) false, s.kids.getD 0 default] ∧ halvesB s.path = true ∧ 0 < s.path.length ∧ s.kids.length = 1 ∧ (s.kids.getD 0 default).length = 32 ∨ s.kind = 3 ∧ l = s.kids ++ [s.value] ∧ s.kids.length = 16 ∧ s.value.length ≤ 1024 ∧ s.kids.all sum0 = true ∧ 2 ≤ min s.value.length 1 + full s.kids) := by
 unfold itmS at h
 split at h
 ·rename_i k; cases h; exact .inl ⟨k, rfl⟩
 ·split at h
  ·rename_i k
   split at h
   ·rename_i c; cases h; exact .inr ⟨_, rfl, .inl ⟨k, rfl, c⟩⟩
   ·cases h
  ·split at h
   ·rename_i k
    split at h
    ·rename_i c; cases h; exact .inr ⟨_, rfl, .inr (.inl ⟨k, rfl, c⟩)⟩
    ·cases h
   ·split at h
    ·rename_i k
     split at h
     ·rename_i c; cases h; exact .inr ⟨s.kids ++ [s.value], by rw [List.map_append]; rfl, .inr (.inr ⟨k, rfl, c⟩)⟩
     ·cases h
    ·cases h
theorem itmS_nrm {s : Shp} {it : Itm} (h : itmS s = some it) : nrm it = it := by
 rcases itmS_list h with ⟨_, rfl⟩ | ⟨l, rfl, _⟩
 ·rfl
 ·exact nrm_ls l
theorem ilst_ls (l : List Itm) : ilst (ls l) = true := rfl
theorem ikds_ls (l : List Itm) : ikds (ls l) = l := rfl
theorem len_one {l : List (List UInt8)} (h : l.length = 1) : [l.getD 0 default] = l := by
 match l, h with
 | [x], _ => rfl
theorem shp_itm {s : Shp} {it : Itm} (h : itmS s = some it) : shpI it = some (normS s) ∧ itmS (normS s) = some it ∧ (normS s).kind = s.kind := by
 have h0 := h
 rcases itmS_list h with ⟨k, rfl⟩ | ⟨l, rfl, ⟨k, rfl, c⟩ | ⟨k, rfl, c⟩ | ⟨k, rfl, c⟩⟩
 ·unfold normS
  rw [if_pos k]
  exact ⟨rfl, by unfold itmS; rw [if_pos rfl], k.symm⟩
 ·have e : normS s = ⟨1, s.path, s.value, []⟩ := by unfold normS; rw [if_neg (by omega), if_pos k]
  rw [e]
  refine ⟨?_, ?_, k.symm⟩
  ·unfold shpI
   rw [ilst_ls, ikds_ls, any_tx]
   simp only [List.map_cons, List.map_nil, List.length_cons, List.length_nil]
   rw [if_neg (by decide), if_neg (by decide), if_neg (by decide), if_pos trivial]
   show shp2 s.value (untag (tag (pOf s.path) true)) = _
   rw [untag_tag, shp2, pB_of c.1]
  ·rw [← h0]
   unfold itmS
   simp only [k, Int.reduceEq, if_true, if_false]
 ·have e : normS s = ⟨2, s.path, [], s.kids⟩ := by unfold normS; rw [if_neg (by omega), if_neg (by omega), if_pos k]
  rw [e]
  refine ⟨?_, ?_, k.symm⟩
  ·unfold shpI
   rw [ilst_ls, ikds_ls, any_tx]
   simp only [List.map_cons, List.map_nil, List.length_cons, List.length_nil]
   rw [if_neg (by decide), if_neg (by decide), if_neg (by decide), if_pos trivial]
   show shp2 (s.kids.getD 0 default) (untag (tag (pOf s.path) false)) = _
   rw [untag_tag, shp2, pB_of c.1, len_one c.2.2.1]
  ·rw [← h0]
   unfold itmS
   simp only [k, Int.reduceEq, if_true, if_false]
 ·have e : normS s = ⟨3, [], s.value, s.kids⟩ := by unfold normS; rw [if_neg (by omega), if_neg (by omega), if_neg (by omega)]
  rw [e]
  have hl : (s.kids ++ [s.value]).length = 17 := by rw [List.length_append, c.1]; rfl
  refine ⟨?_, ?_, k.symm⟩
  ·unfold shpI
   rw [ilst_ls, ikds_ls, any_tx, List.length_map, hl]
   rw [if_neg (by decide), if_neg (by decide), if_pos rfl, getD_tx _ _ (by omega), List.map_append, List.take_left' (by rw [List.length_map]; exact c.1), map_itxt]
   rw [List.getD_eq_getElem?_getD, List.getElem?_append_right (by omega), c.1]
   rfl
  ·rw [← h0]
   unfold itmS
   simp only [k, Int.reduceEq, if_true, if_false]
theorem not_list {l : List Itm} (hn : nrmL l = l) (ha : l.any ilst = false) : ∃ ts : List (List UInt8), l = ts.map tx := by
 induction l with
 | nil => exact ⟨[], rfl⟩
 | cons a r ih =>
  rw [nrmL] at hn
  injection hn with h1 h2
  rw [List.any_cons, Bool.or_eq_false_iff] at ha
  obtain ⟨ts, rfl⟩ := ih h2 ha.2
  obtain ⟨b, t, ks⟩ := a
  have hb : b = false := ha.1
  subst hb
  rw [nrm] at h1
  exact ⟨t :: ts, by rw [List.map_cons]; unfold tx; rw [← h1]⟩
theorem itm_shp {it it' : Itm} {s : Shp} (hn : nrm it = it) (h : shpI it = some s) (h' : itmS s = some it') : it' = it ∧ normS s = s := by
 obtain ⟨b, t, ks⟩ := it
 unfold shpI at h
 cases b with
 | false =>
  rw [if_pos (show ilst (.mk false t ks) = false from rfl)] at h
  split at h
  ·rename_i ht
   cases h
   have ht' : t = [] := List.eq_nil_of_length_eq_zero ht
   subst ht'
   unfold itmS at h'
   rw [if_pos rfl] at h'
   cases h'
   rw [nrm] at hn
   exact ⟨hn, rfl⟩
  ·cases h
 | true =>
  rw [if_neg (by simp [ilst])] at h
  rw [nrm] at hn
  injection hn with _ hn1 hn2
  subst hn1
  by_cases ha : ks.any ilst = true
  ·rw [show ikds (.mk true [] ks) = ks from rfl, if_pos ha] at h; cases h
  rw [show ikds (.mk true [] ks) = ks from rfl, if_neg ha] at h
  obtain ⟨ts, rfl⟩ := not_list hn2 (by simpa using ha)
  by_cases h17 : (ts.map tx).length = 17
  ·rw [if_pos h17] at h
   cases h
   rw [List.length_map] at h17
   unfold itmS at h'
   simp only [Int.reduceEq, if_true, if_false] at h'
   split at h'
   ·cases h'
    refine ⟨?_, ?_⟩
    ·show ls _ = ls _
     congr 1
     rw [getD_tx _ _ (by omega), ← List.map_take, map_itxt, ← List.map_singleton (f := tx), ← List.map_append]
     congr 1
     apply List.ext_getElem?
     intro j
     rcases Nat.lt_or_ge j 16 with hj | hj
     ·rw [List.getElem?_append_left (by rw [List.length_take]; omega), List.getElem?_take, if_pos hj]
     ·rw [List.getElem?_append_right (by rw [List.length_take]; omega), List.length_take, show min 16 ts.length = 16 by omega]
      rcases Nat.eq_or_lt_of_le hj with hj | hj
      ·subst hj
       rw [List.getD_eq_getElem?_getD, List.getElem?_eq_getElem (show 16 < ts.length by omega)]
       rfl
      ·rw [List.getElem?_eq_none (by simp; omega), List.getElem?_eq_none (by omega)]
    ·rfl
   ·cases h'
  ·rw [if_neg h17] at h
   by_cases h2 : (ts.map tx).length = 2
   ·rw [if_pos h2] at h
    rw [List.length_map] at h2
    match ts, h2 with
    | [a, b], _ =>
     rw [show itxt ((List.map tx [a, b]).getD 0 default) = a from rfl, show itxt ((List.map tx [a, b]).getD 1 default) = b from rfl] at h
     cases hu : untag a with
     | none => rw [hu] at h; cases h
     | some x =>
      obtain ⟨p, leaf⟩ := x
      rw [hu] at h
      cases leaf with
      | true =>
       cases h
       unfold itmS at h'
       simp only [Int.reduceEq, if_true, if_false] at h'
       split at h'
       ·cases h'
        rw [pOf_B, tag_untag hu]
        exact ⟨rfl, rfl⟩
       ·cases h'
      | false =>
       cases h
       unfold itmS at h'
       simp only [Int.reduceEq, if_true, if_false] at h'
       split at h'
       ·cases h'
        rw [pOf_B, tag_untag hu]
        exact ⟨rfl, rfl⟩
       ·cases h'
   ·rw [if_neg h2] at h; cases h
theorem dec_nrm' {b : List UInt8} {k : Itm} (h : dec b = some k) : nrm k = k := by
 unfold dec at h
 cases hr : rd b with
 | none => rw [hr] at h; cases h
 | some x =>
  obtain ⟨k', r⟩ := x
  rw [hr] at h
  cases r with
  | cons => cases h
  | nil => cases h; exact ((rd_uniq b.length).1 b [] k (Nat.le_refl _) hr).2
theorem read_code {s : Shp} {it : Itm} (h : itmS s = some it) (hl : (enc it).length < 2 ^ 64) : readS (enc it) = some (normS s) := by
 obtain ⟨h1, h2, h3⟩ := shp_itm h
 unfold readS
 rw [dec_enc hl, itmS_nrm h]
 simp only []
 rw [h1]
 simp only []
 rw [h2]
 rfl
theorem code_read {code : List UInt8} {s : Shp} (h : readS code = some s) : ∃ it, itmS s = some it ∧ enc it = code ∧ normS s = s := by
 unfold readS at h
 cases hd : dec code with
 | none => rw [hd] at h; cases h
 | some it =>
  rw [hd] at h
  simp only [] at h
  cases hs : shpI it with
  | none => rw [hs] at h; cases h
  | some s' =>
   rw [hs] at h
   simp only [] at h
   split at h
   ·rename_i hi
    cases h
    obtain ⟨it', hi'⟩ := Option.isSome_iff_exists.1 hi
    obtain ⟨rfl, e⟩ := itm_shp (dec_nrm' hd) hs hi'
    exact ⟨it', hi', (dec_uniq hd).symm, e⟩
   ·cases h
end Ro
end Go.Proofs.Ytkbimhccaacobaa

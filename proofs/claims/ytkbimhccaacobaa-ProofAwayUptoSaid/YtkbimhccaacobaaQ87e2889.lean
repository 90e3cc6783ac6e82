/- A part of the proof: texts joined. -/
import Derived.Test.YtkbimhccaacobaaQ7309375
namespace Go.Proofs.Ytkbimhccaacobaa
open Go.RowKit Rg Wm Ar
set_option linter.unusedVariables false
set_option maxRecDepth 100000
namespace Lf
open Tr
mutual
def rnC : Rn → List V
  | .mk k p v ks => [.k (.int .i64 k), bV p, bV v, .s none (rnL ks)]
def rnL : List Rn → List V
  | [] => []
  | k :: r => .a (rnC k) :: rnL r
end
abbrev rnV (x : Rn) : V := .a (rnC x)
theorem rnL_map : ∀ ks : List Rn, rnL ks = ks.map rnV
  | [] => rfl
  | k :: r => by rw [rnL, rnL_map r]; rfl
theorem rnC_eq (k : Int) (p v : List UInt8) (ks : List Rn) : rnC (.mk k p v ks) = [.k (.int .i64 k), bV p, bV v, .s none (ks.map rnV)] := by rw [rnC, rnL_map]
theorem rnC_len (x : Rn) : (rnC x).length = 4 := by obtain ⟨k, p, v, ks⟩ := x; rw [rnC_eq]; rfl
theorem rnC_refs (m : Mem) (x : Rn) : V.refs.go m (rnC x) = true := by obtain ⟨k, p, v, ks⟩ := x; rw [rnC_eq]; rfl
theorem rnC_bare (x : Rn) : (rnV x).bare = some (rnV x) := by obtain ⟨k, p, v, ks⟩ := x; simp only [rnV, rnC_eq]; rfl
theorem rnC_cv (x : Rn) (keep : Nat → Bool) (nn : Bool) : V.cv.go keep nn (rnC x) = rnC x := by obtain ⟨k, p, v, ks⟩ := x; rw [rnC_eq]; simp [V.cv.go, V.cv]
attribute [irreducible] rnC
theorem getD_lt {l : List UInt8} {P : UInt8 → Bool} (h : l.all P = true) {i : Nat} (hi : i < l.length) : P (l.getD i default) = true := by
  rw [List.getD_eq_getElem?_getD, List.getElem?_eq_getElem hi]
  exact List.all_eq_true.1 h _ (List.getElem_mem hi)
theorem all_getD {l : List UInt8} {P : UInt8 → Bool} (h : ∀ i, i < l.length → P (l.getD i default) = true) : l.all P = true := by
  rw [List.all_eq_true]
  intro x hx
  obtain ⟨i, hi, e⟩ := List.mem_iff_getElem.1 hx
  have := h i hi
  rwa [List.getD_eq_getElem?_getD, List.getElem?_eq_getElem hi, Option.getD_some, e] at this
namespace Te
set_option maxHeartbeats 1000000 in
theorem ends_ (d : Nat) (hd : d < 400000000000000000) : LF Try.prog 114 [.k (.int .i64 (d : Int))] (fun _ => .k (.bool (endsB d))) none := by
  unfold endsB
  by_cases h1 : d % 2 = 0
  · rw [show decide (d % 2 = 0) = true from decide_eq_true h1, Bool.true_and]
    by_cases h2 : d ≤ 64
    · rw [show decide (d ≤ 64) = true from decide_eq_true h2]
      refine LFx.mk' tt Try.func114 rfl rfl rfl (by kernel_rfl) rfl rfl fun F => ?_
      exact wk trueW trueW trueW
    · rw [show decide (d ≤ 64) = false from decide_eq_false h2]
      refine LFx.mk' tt Try.func114 rfl rfl rfl (by kernel_rfl) rfl rfl fun F => ?_
      exact wk trueW trueW trueW
  · rw [show decide (d % 2 = 0) = false from decide_eq_false h1, Bool.false_and]
    refine LFx.mk' tt Try.func114 rfl rfl rfl (by kernel_rfl) rfl rfl fun F => ?_
    exact wk trueW trueW trueW
set_option maxHeartbeats 1000000 in
theorem halves_ (p : List UInt8) (hp : p.length < 400000000000000000) : LF Try.prog 113 [bV p] (fun _ => .k (.bool (halvesB p))) none := by
  refine LFx.mk' tt Try.func113 rfl rfl rfl (by kernel_rfl) rfl rfl fun F => ?_
  refine wk ?_ trueW trueW
  refine LC.loopN (fun i => [(5, bV p), (6, .k (.int .i64 ((p.length : Nat) : Int))), (7, .k (.int .i64 ((i : Nat) : Int)))]) (fun i => []) (fun i => i ≤ p.length ∧ ∀ j, j < i → (p.getD j default).toNat ≤ 15) ((p.length - ·)) (0) ⟨by omega, fun j hj => by omega⟩ ⟨rfl, rfl, rfl, trivial⟩ trivial rfl rfW rfW ?_
  rintro i ⟨hi, hall⟩
  rcases Nat.lt_or_ge i p.length with h | h
  · by_cases hb : (p.getD i default).toNat ≤ 15
    · have hok : i + 1 ≤ p.length ∧ ∀ j, j < i + 1 → (p.getD j default).toNat ≤ 15 := ⟨h, fun j hj => by
        by_cases e : j = i
        · subst e; exact hb
        · exact hall j (by omega)⟩
      clear hall
      exact wk trueW trueW trueW
    · have hF : halvesB p = false := by
        rw [← Bool.not_eq_true]
        exact fun hh => hb (of_decide_eq_true (getD_lt hh h))
      rw [hF]
      clear hall hF
      exact wk trueW trueW trueW
  · obtain rfl : i = p.length := by omega
    have hT : halvesB p = true := all_getD fun i hi => decide_eq_true (hall i hi)
    rw [hT]
    clear hall hT
    exact wk trueW trueW trueW
end Te
end Lf
open Go.RowKit Rg Wm Ar
set_option maxRecDepth 100000
namespace Lf
open Tr
def ndV : Nd → V
  | .no => .k .nilIface
  | .leaf p v => .i 174 (.a [bV (pB p), bV v])
  | .road p k => .i 177 (.a [bV (pB p), ndV k])
  | .fork ks v => .i 181 (.a ((List.finRange 16).map (fun i => ndV (ks i)) ++ [bV v]))
def fkC (ks : Fin 16 → Nd) (v : List UInt8) : List V := (List.finRange 16).map (fun i => ndV (ks i)) ++ [bV v]
def kdC (ks : Fin 16 → Nd) : List V := (List.finRange 16).map (fun i => ndV (ks i))
theorem ndV_no : ndV .no = .k .nilIface := by rw [ndV]
theorem ndV_leaf (p : Pa) (v : List UInt8) : ndV (.leaf p v) = .i 174 (.a [bV (pB p), bV v]) := by rw [ndV]
theorem ndV_road (p : Pa) (k : Nd) : ndV (.road p k) = .i 177 (.a [bV (pB p), ndV k]) := by rw [ndV]
theorem ndV_fork (ks : Fin 16 → Nd) (v : List UInt8) : ndV (.fork ks v) = .i 181 (.a (fkC ks v)) := by rw [ndV]; rfl
theorem fk_list (ks : Fin 16 → Nd) (v : List UInt8) : fkC ks v = [ndV (ks 0), ndV (ks 1), ndV (ks 2), ndV (ks 3), ndV (ks 4), ndV (ks 5), ndV (ks 6), ndV (ks 7), ndV (ks 8), ndV (ks 9), ndV (ks 10), ndV (ks 11), ndV (ks 12), ndV (ks 13), ndV (ks 14), ndV (ks 15), bV v] := rfl
theorem fk_kd (ks : Fin 16 → Nd) (v : List UInt8) : fkC ks v = kdC ks ++ [bV v] := rfl
theorem kd_len (ks : Fin 16 → Nd) : (kdC ks).length = 16 := by unfold kdC; rw [List.length_map, List.length_finRange]
theorem fk_len (ks : Fin 16 → Nd) (v : List UInt8) : (fkC ks v).length = 17 := by rw [fk_kd, List.length_append, kd_len]; rfl
theorem kd_at (ks : Fin 16 → Nd) (x : Fin 16) : (kdC ks)[x.val]? = some (ndV (ks x)) := by
  unfold kdC
  rw [List.getElem?_map, List.getElem?_eq_getElem (by simp)]
  simp
theorem fk_at (ks : Fin 16 → Nd) (v : List UInt8) (x : Fin 16) : (fkC ks v)[x.val]? = some (ndV (ks x)) := by
  rw [fk_kd, List.getElem?_append_left (by rw [kd_len]; exact x.isLt), kd_at]
theorem fk_v (ks : Fin 16 → Nd) (v : List UInt8) : (fkC ks v)[16]? = some (bV v) := by
  rw [fk_kd, List.getElem?_append_right (by rw [kd_len]; omega), kd_len]; rfl
theorem nd_cells (n : Nd) : (ndV n).cells = [ndV n] := by cases n <;> simp only [ndV_no, ndV_leaf, ndV_road, ndV_fork, V.cells]
theorem nd_ok (n : Nd) : (ndV n).ok = true := by cases n <;> simp only [ndV_no, ndV_leaf, ndV_road, ndV_fork] <;> rfl
theorem nd_refs (m : Mem) : ∀ n : Nd, (ndV n).refs m = true
  | .no => by rw [ndV_no]; rfl
  | .leaf p v => by rw [ndV_leaf]; rfl
  | .road p k => by rw [ndV_road]; simp only [V.refs, V.refs.go, nd_refs m k, Bool.and_self]
  | .fork ks v => by
    rw [ndV_fork, fk_list]
    simp only [V.refs, V.refs.go, nd_refs m (ks 0), nd_refs m (ks 1), nd_refs m (ks 2), nd_refs m (ks 3), nd_refs m (ks 4), nd_refs m (ks 5), nd_refs m (ks 6), nd_refs m (ks 7), nd_refs m (ks 8), nd_refs m (ks 9), nd_refs m (ks 10), nd_refs m (ks 11), nd_refs m (ks 12), nd_refs m (ks 13), nd_refs m (ks 14), nd_refs m (ks 15), Bool.and_self]
theorem refs_all {m : Mem} {l : List V} (h : ∀ u ∈ l, u.refs m = true) : V.refs.go m l = true := by
  induction l with
  | nil => rfl
  | cons a r ih => rw [V.refs.go, h a (by simp), ih fun u hu => h u (by simp [hu])]; rfl
theorem kd_refs (m : Mem) (ks : Fin 16 → Nd) : V.refs.go m (kdC ks) = true := refs_all fun u hu => by
  obtain ⟨i, _, rfl⟩ := List.mem_map.1 hu; exact nd_refs m _
theorem fk_refs (m : Mem) (ks : Fin 16 → Nd) (v : List UInt8) : V.refs.go m (fkC ks v) = true := refs_all fun u hu => by
  rw [fk_kd] at hu
  rcases List.mem_append.1 hu with hu | hu
  · obtain ⟨i, _, rfl⟩ := List.mem_map.1 hu; exact nd_refs m _
  · simp at hu; subst hu; rfl
theorem cv_all {keep : Nat → Bool} {nn : Bool} {l : List V} (h : ∀ u ∈ l, u.cv keep nn = u) : V.cv.go keep nn l = l := by
  induction l with
  | nil => rfl
  | cons a r ih => rw [V.cv.go, h a (by simp), ih fun u hu => h u (by simp [hu])]
theorem nd_cv (keep : Nat → Bool) (nn : Bool) : ∀ n : Nd, (ndV n).cv keep nn = ndV n
  | .no => by rw [ndV_no]; rfl
  | .leaf p v => by rw [ndV_leaf]; rfl
  | .road p k => by rw [ndV_road]; simp only [V.cv, V.cv.go, nd_cv keep nn k]
  | .fork ks v => by
    rw [ndV_fork]
    simp only [V.cv]
    rw [cv_all fun u hu => by
      rw [fk_kd] at hu
      rcases List.mem_append.1 hu with hu | hu
      · obtain ⟨i, _, rfl⟩ := List.mem_map.1 hu; exact nd_cv keep nn _
      · simp at hu; subst hu; rfl]
theorem fk_get {ks : Fin 16 → Nd} {v : List UInt8} {x : Fin 16} {ti : TI} {off : Nat} (hd : ti.d.agg = false) (h : off = x.val) : ti.part (fkC ks v) off = some (ndV (ks x)) := by
  subst h
  unfold TI.part
  simp [hd, fk_at]
theorem fk_val {ks : Fin 16 → Nd} {v : List UInt8} {ti : TI} {off : Nat} (hd : ti.d.agg = false) (h : off = 16) : ti.part (fkC ks v) off = some (bV v) := by
  subst h
  unfold TI.part
  simp [hd, fk_v]
theorem fk_kids {ks : Fin 16 → Nd} {v : List UInt8} {ti : TI} {off : Nat} (hd : ti.d.agg = true) (hs : ti.size = 16) (h : off = 0) : ti.part (fkC ks v) off = some (.a (kdC ks)) := by
  subst h
  have e : (fkC ks v).take 16 = kdC ks := by rw [fk_kd, ← kd_len ks, List.take_left]
  unfold TI.part
  simp [hd, hs, e, fk_len]
  rfl
theorem kd_get {ks : Fin 16 → Nd} {x : Fin 16} {ti : TI} {off : Nat} (hd : ti.d.agg = false) (h : off = x.val) : ti.part (kdC ks) off = some (ndV (ks x)) := by
  subst h
  unfold TI.part
  simp [hd, kd_at]
theorem fk_set {ks : Fin 16 → Nd} {v : List UInt8} {x : Fin 16} {n : Nd} {off : Nat} (h : off = x.val) : splice (fkC ks v) off (ndV n).cells = fkC (setK ks x n) v := by
  subst h
  rw [nd_cells]
  have hx := x.isLt
  apply List.ext_getElem?
  intro j
  rw [splice_get (by rw [fk_len]; show x.val + 1 ≤ 17; omega)]
  by_cases hj : j < 16
  · have e2 := fk_at (setK ks x n) v ⟨j, hj⟩
    rw [show (⟨j, hj⟩ : Fin 16).val = j from rfl] at e2
    rw [e2]
    split
    · rename_i h
      simp at h
      obtain rfl : j = x.val := by omega
      rw [show (⟨x.val, hj⟩ : Fin 16) = x from rfl, setK_at, Nat.sub_self]
      rfl
    · rename_i h
      simp at h
      have e3 := fk_at ks v ⟨j, hj⟩
      rw [show (⟨j, hj⟩ : Fin 16).val = j from rfl] at e3
      rw [e3, setK_off ks n (fun e => by rw [← e] at h; simp at h; omega)]
  · rw [if_neg (by simp; omega)]
    by_cases h16 : j = 16
    · subst h16; rw [fk_v, fk_v]
    · rw [List.getElem?_eq_none (by rw [fk_len]; omega), List.getElem?_eq_none (by rw [fk_len]; omega)]
theorem fk_setv {ks : Fin 16 → Nd} {v u : List UInt8} {off : Nat} (h : off = 16) : splice (fkC ks v) off (bV u).cells = fkC ks u := by
  subst h
  have e : (bV u).cells = [bV u] := rfl
  rw [e]
  unfold splice
  rw [fk_kd, fk_kd, List.take_left' (kd_len ks), List.drop_of_length_le (by rw [List.length_append, kd_len]; simp), List.append_nil]
theorem fk_cv (keep : Nat → Bool) (nn : Bool) (ks : Fin 16 → Nd) (v : List UInt8) : V.cv.go keep nn (fkC ks v) = fkC ks v := cv_all fun u hu => by
  rw [fk_kd] at hu
  rcases List.mem_append.1 hu with hu | hu
  · obtain ⟨i, _, rfl⟩ := List.mem_map.1 hu; exact nd_cv keep nn _
  · simp at hu; subst hu; rfl
theorem tr_refs (m : Mem) : (∀ n, (ndV n).refs m = true) ∧ (∀ ks v, V.refs.go m (fkC ks v) = true) ∧ (∀ ks, V.refs.go m (kdC ks) = true) ∧ (∀ x, V.refs.go m (rnC x) = true) := ⟨nd_refs m, fk_refs m, kd_refs m, rnC_refs m⟩
theorem tr_cv (keep : Nat → Bool) (nn : Bool) : (∀ n, (ndV n).cv keep nn = ndV n) ∧ (∀ ks v, V.cv.go keep nn (fkC ks v) = fkC ks v) ∧ (∀ x, V.cv.go keep nn (rnC x) = rnC x) := ⟨nd_cv keep nn, fk_cv keep nn, fun x => rnC_cv x keep nn⟩
attribute [irreducible] ndV fkC kdC
theorem LC.boxeq {P : Program} {F : Fr0} {N : Nat} {c : Code} {Q : LQ} {env : Env} {mem : Mem} {cs cs' : List V} (i : Nat) (h : aget mem i = some (.b cs)) (e : cs = cs') (hK : LC P F N c Q env ((i, .b cs') :: mem)) : LC P F N c Q env mem := by
  subst e
  refine ⟨fun F0 hx g a w hr => hK.go F0 hx g a w (hr.congr ⟨fun _ => rfl, fun j => ?_⟩)⟩
  rw [aget_cons]
  split
  · rename_i e; subst e; exact h
  · rfl
end Lf
open Go.RowKit Rg Wm Ar
set_option linter.unusedVariables false
set_option maxRecDepth 100000
namespace Lf
open Tr
def plen : Nd → Nat
  | .leaf p _ => p.length
  | .road p _ => p.length
  | _ => 0
theorem right_le : ∀ {n : Nd} {d : Nat}, Right n d → n ≠ .no → d + plen n ≤ 64
  | .no, _, _, h => absurd rfl h
  | .leaf p v, d, h, _ => h.1.2
  | .road p k, d, h, _ => by
    have hk : k ≠ .no := fun e => by have := h.2.1; rw [e] at this; cases this
    have := right_le h.2.2 hk
    show d + p.length ≤ 64
    omega
  | .fork ks v, d, h, _ => by
    show d + 0 ≤ 64
    rcases h.2.2.2 with ⟨h1, _⟩ | ⟨i, _, _, h1, _⟩
    · have := (h.2.1 h1).2; omega
    · have := right_le (h.2.2.1 i) h1; omega
namespace Te
set_option maxHeartbeats 1000000 in
theorem own_ (l : List UInt8) (hl : l.length < 1000000000) (k : Nat) : LM Try.prog 64 [bV l] [] fun o m => o = .ret (.s (some k) (l.map bK)) ∧ m = [(k, .r 5 1 l.length)] := by
  refine LM.row1 (k0 := 3) (fun ρ => by simp [V.ren]) ?_ k
  refine LFx.mk' tt Try.func64 rfl rfl rfl (by kernel_rfl) rfl rfl fun F => ?_
  exact wk trueW trueW trueW
set_option maxHeartbeats 1000000 in
theorem join_ (a b : List UInt8) (hl : a.length + b.length < 1000000000) (k : Nat) : LM Try.prog 99 [bV a, bV b] [] fun o m => o = .ret (.s (some k) ((a ++ b).map bK)) ∧ m = [(k, .r 5 1 (a ++ b).length)] := by
  refine LM.row1 (k0 := 6) (fun ρ => by simp [V.ren]) ?_ k
  have c1 := own_ a (by omega) 6
  refine LFx.mk' tt Try.func99 rfl rfl rfl (by kernel_rfl) rfl rfl fun F => ?_
  exact wk trueW trueW trueW
set_option maxHeartbeats 4000000 in
theorem behind_ (p : Pa) (n : Nd) (hl : p.length + plen n < 1000000000) : LF Try.prog 122 [bV (pB p), ndV n] (fun _ => ndV (Tr.behind p n)) none := by
  have hpl := pB_len p
  have hrf := tr_refs
  have hcv := tr_cv
  cases p with
  | nil =>
    have e : Tr.behind [] n = n := by cases n <;> rfl
    rw [e]
    clear hl e
    have h0 : (pB []).length = 0 := rfl
    refine LFx.mk' tt Try.func122 rfl rfl rfl (by kernel_rfl) rfl rfl fun F => ?_
    exact wk trueW trueW trueW
  | cons a p =>
    have h1 : 0 < (pB (a :: p)).length := by rw [hpl]; simp
    cases n with
    | no =>
      simp only [Tr.behind, ndV_no]
      refine LFx.mk' tt Try.func122 rfl rfl rfl (by kernel_rfl) rfl rfl fun F => ?_
      exact wk trueW trueW trueW
    | leaf q v =>
      have hq := pB_len q
      have hlen : (pB (a :: p)).length + (pB q).length < 1000000000 := by rw [hpl, hq]; exact hl
      have c1 := join_ (pB (a :: p)) (pB q) hlen
      simp only [Tr.behind, ndV_leaf, pB_app]
      generalize pB (a :: p) = P at *
      generalize pB q = Q at *
      clear hpl hq hl
      refine LFx.mk' tt Try.func122 rfl rfl rfl (by kernel_rfl) rfl rfl fun F => ?_
      exact wk trueW trueW trueW
    | road q k =>
      have hq := pB_len q
      have hlen : (pB (a :: p)).length + (pB q).length < 1000000000 := by rw [hpl, hq]; exact hl
      have c1 := join_ (pB (a :: p)) (pB q) hlen
      simp only [Tr.behind, ndV_road, pB_app]
      generalize pB (a :: p) = P at *
      generalize pB q = Q at *
      clear hpl hq hl
      cases k with
      | no =>
        simp only [ndV_no]
        refine LFx.mk' tt Try.func122 rfl rfl rfl (by kernel_rfl) rfl rfl fun F => ?_
        exact wk trueW trueW trueW
      | leaf q v =>
        simp only [ndV_leaf]
        refine LFx.mk' tt Try.func122 rfl rfl rfl (by kernel_rfl) rfl rfl fun F => ?_
        exact wk trueW trueW trueW
      | road q v =>
        simp only [ndV_road]
        refine LFx.mk' tt Try.func122 rfl rfl rfl (by kernel_rfl) rfl rfl fun F => ?_
        exact wk trueW trueW trueW
      | fork q v =>
        simp only [ndV_fork]
        refine LFx.mk' tt Try.func122 rfl rfl rfl (by kernel_rfl) rfl rfl fun F => ?_
        exact wk trueW trueW trueW
    | fork ks v =>
      have hlen : (pB (a :: p)).length < 1000000000 := by rw [hpl]; exact Nat.lt_of_le_of_lt (Nat.le_add_right ..) hl
      have c1 := own_ (pB (a :: p)) hlen
      have hfk := fk_len ks v
      simp only [Tr.behind, ndV_road, ndV_fork]
      generalize pB (a :: p) = P at *
      clear hpl hl
      refine LFx.mk' tt Try.func122 rfl rfl rfl (by kernel_rfl) rfl rfl fun F => ?_
      exact wk trueW trueW trueW
end Te
end Lf
open Go.RowKit Rg Wm Ar
set_option linter.unusedVariables false
set_option maxRecDepth 100000
namespace Lf
open Tr
theorem keyP_app : ∀ a b : List UInt8, keyP (a ++ b) = keyP a ++ keyP b
  | [], _ => rfl
  | x :: a, b => by simp only [List.cons_append, keyP, keyP_app a b]
theorem keyP_take {b : List UInt8} {i : Nat} (h : i < b.length) : pB (keyP (b.take (i + 1))) = pB (keyP (b.take i)) ++ [UInt8.ofNat (hi4 (b.getD i default)).val, UInt8.ofNat (lo4 (b.getD i default)).val] := by
  rw [List.take_succ_eq_append_getElem h, keyP_app, pB_app, List.getD_eq_getElem?_getD, List.getElem?_eq_getElem h]
  rfl
theorem shr4 (x : UInt8) : ((x.toNat : Nat) : Int).fdiv (2 ^ (min (4 : Int).toNat IntKind.u8.bits)) = ((UInt8.ofNat (hi4 x).val).toNat : Int) := by
  rw [half_byte]
  exact shr_u8r (a := x.toNat) (s := 4) (by decide)
theorem and15 (x : UInt8) : IntKind.u8.wrap (((BitVec.ofInt IntKind.u8.bits (x.toNat : Int) &&& BitVec.ofInt IntKind.u8.bits 15).toNat : Nat) : Int) = ((UInt8.ofNat (lo4 x).val).toNat : Int) := by
  rw [half_byte]
  have h1 : IntKind.u8.wrap (((BitVec.ofInt IntKind.u8.bits (x.toNat : Int) &&& BitVec.ofInt IntKind.u8.bits 15).toNat : Nat) : Int) = ((x &&& 15).toNat : Int) := bandn (a := x) (n := 15)
  rw [h1, UInt8.toNat_and]
  have : x.toNat &&& 15 = x.toNat % 16 := Nat.and_two_pow_sub_one_eq_mod x.toNat 4
  exact congrArg Int.ofNat this
theorem common_le : ∀ p q : Pa, Tr.common p q ≤ p.length ∧ Tr.common p q ≤ q.length
  | [], q => by simp [Tr.common]
  | x :: p, [] => by simp [Tr.common]
  | x :: p, y :: q => by
    have ih := common_le p q
    simp only [Tr.common, List.length_cons]
    split <;> omega
theorem common_lt : ∀ (p q : Pa) (i : Nat), i < Tr.common p q → p.getD i 0 = q.getD i 0
  | [], q, i, h => by simp [Tr.common] at h
  | x :: p, [], i, h => by simp [Tr.common] at h
  | x :: p, y :: q, i, h => by
    simp only [Tr.common] at h
    by_cases e : x = y
    · rw [if_pos e] at h
      cases i with
      | zero => exact e
      | succ i => rw [List.getD_cons_succ, List.getD_cons_succ]; exact common_lt p q i (by omega)
    · rw [if_neg e] at h; omega
theorem common_at : ∀ (p q : Pa), Tr.common p q < p.length → Tr.common p q < q.length → p.getD (Tr.common p q) 0 ≠ q.getD (Tr.common p q) 0
  | [], q, h, _ => by simp [Tr.common] at h
  | x :: p, [], _, h => by simp [Tr.common] at h
  | x :: p, y :: q, h1, h2 => by
    by_cases e : x = y
    · simp only [Tr.common, if_pos e, List.length_cons] at h1 h2 ⊢
      rw [List.getD_cons_succ, List.getD_cons_succ]
      exact common_at p q (by omega) (by omega)
    · simp only [Tr.common, if_neg e]
      exact e
theorem pB_get {p : Pa} {i : Nat} (h : i < p.length) : (((pB p).getD i default).toNat : Int) = ((p.getD i 0).val : Int) := by
  rw [List.getD_eq_getElem?_getD, List.getD_eq_getElem?_getD, List.getElem?_eq_getElem (by rw [pB_len]; exact h), List.getElem?_eq_getElem h]
  simp only [Option.getD_some]
  unfold pB
  rw [List.getElem_map, half_byte]
theorem pB_eq {p q : Pa} (i : Nat) (h1 : i < p.length) (h2 : i < q.length) : ((((pB p).getD i default).toNat : Int) = (((pB q).getD i default).toNat : Int)) ↔ p.getD i 0 = q.getD i 0 := by
  rw [pB_get h1, pB_get h2]
  exact ⟨fun h => Fin.ext (by omega), fun h => by rw [h]⟩
namespace Te
set_option maxHeartbeats 1000000 in
theorem Halves_ (b : List UInt8) (hb : b.length < 1000000000) : LF Try.prog 60 [bV b] (fun _ => bV (pB (keyP b))) none := by
  refine LFx.mk' tt Try.func60 rfl rfl rfl (by kernel_rfl) rfl rfl fun F => ?_
  refine wk ?_ trueW trueW
  refine LC.nilrow 3 3 5 1 rfl rfl rfl ?_
  refine LC.loop2 (fun i S => [(3, .s (some 3) (S.map bK)), (6, bV b), (7, .k (.int .i64 ((b.length : Nat) : Int))), (8, .k (.int .i64 ((i : Nat) : Int)))]) (fun i S => [(3, .r 5 1 S.length)]) (fun i S => i ≤ b.length ∧ S = pB (keyP (b.take i))) ((b.length - ·)) (0) ([]) ⟨by omega, by rw [List.take_zero]; rfl⟩ ⟨rfl, rfl, rfl, rfl, trivial⟩ ⟨rfl, trivial⟩ rfl rfW rfW ?_
  rintro i S ⟨hi, hS⟩
  have hSl : S.length = 2 * i := by rw [hS, pB_len, keyP_len, List.length_take]; omega
  rcases Nat.lt_or_ge i b.length with h | h
  · have e1 := shr4 (b.getD i default)
    have e2 := and15 (b.getD i default)
    have hok : i + 1 ≤ b.length ∧ S ++ [UInt8.ofNat (hi4 (b.getD i default)).val, UInt8.ofNat (lo4 (b.getD i default)).val] = pB (keyP (b.take (i + 1))) := ⟨h, by rw [keyP_take h, hS]⟩
    clear hS
    exact wk trueW trueW trueW
  · obtain rfl : i = b.length := by omega
    rw [List.take_length] at hS
    rw [← hS]
    clear hS
    exact wk trueW trueW trueW
set_option maxHeartbeats 2000000 in
theorem Common_ (p q : Pa) (hp : p.length < 1000000000) (hq : q.length < 1000000000) : LF Try.prog 61 [bV (pB p), bV (pB q)] (fun _ => .k (.int .i64 ((Tr.common p q : Nat) : Int))) none := by
  have hpl := pB_len p
  have hql := pB_len q
  obtain ⟨k1, k2⟩ := common_le p q
  have k3 := @pB_eq p q
  have k4 := common_lt p q
  have k5 := common_at p q
  generalize Tr.common p q = C at *
  generalize pB p = P at *
  generalize pB q = Q at *
  obtain ⟨m, hm1, hm2⟩ : ∃ m : Nat, (m = p.length ∨ m = q.length) ∧ m ≤ p.length ∧ m ≤ q.length ∧ (if (Q.length : Int) < (P.length : Int) then (Q.length : Int) else (P.length : Int)) = (m : Int) := by
    by_cases h : Q.length < P.length
    · exact ⟨q.length, .inr rfl, by omega, by omega, by rw [if_pos (by omega)]; omega⟩
    · exact ⟨p.length, .inl rfl, by omega, by omega, by rw [if_neg (by omega)]; omega⟩
  obtain ⟨hm2, hm3, hm4⟩ := hm2
  refine LFx.mk' tt Try.func61 rfl rfl rfl (by kernel_rfl) rfl rfl fun F => ?_
  refine wk ?_ trueW trueW
  refine LC.loopN (fun i => [(0, bV P), (1, bV Q), (5, .k (.int .i64 ((i : Nat) : Int)))]) (fun i => []) (fun i => i ≤ C) ((C - ·)) (0) (by omega) ⟨rfl, rfl, rfl, trivial⟩ trivial rfl rfW rfW ?_
  intro i hi
  by_cases h1 : i < m
  · have h2 := k3 i (by omega) (by omega)
    have k4' := k4 i
    have k5' := k5
    by_cases h3 : i < C
    · have h4 := h2.2 (k4 i h3)
      have hok : i + 1 ≤ C := h3
      clear k3 k4 k5 h2 k4' k5'
      exact wk trueW trueW trueW
    · obtain rfl : i = C := by omega
      have h4 : ¬ ((P.getD i default).toNat : Int) = ((Q.getD i default).toNat : Int) := fun e => k5 (by omega) (by omega) (h2.1 e)
      clear k3 k4 k5 h2 k4' k5'
      exact wk trueW trueW trueW
  · obtain rfl : i = C := by omega
    clear k3 k4 k5
    exact wk trueW trueW trueW
end Te
end Lf
open Go.RowKit Rg Wm Ar
set_option linter.unusedVariables false
set_option maxRecDepth 100000
namespace Lf
open Tr
namespace Te
set_option maxHeartbeats 1000000 in
theorem wrong_ (p : Pa) (hp : p.length < 1000000000) : LF Try.prog 100 [bV (pB p)] (fun _ => .k (.bool false)) none := by
  have hpl := pB_len p
  have hb : ∀ i, i < p.length → ((pB p).getD i default).toNat ≤ 15 := fun i h => by
    have := pB_get h
    have := (p.getD i 0).isLt
    omega
  generalize pB p = P at *
  refine LFx.mk' tt Try.func100 rfl rfl rfl (by kernel_rfl) rfl rfl fun F => ?_
  refine wk ?_ trueW trueW
  refine LC.loopN (fun i => [(5, bV P), (6, .k (.int .i64 ((P.length : Nat) : Int))), (7, .k (.int .i64 ((i : Nat) : Int)))]) (fun i => []) (fun i => i ≤ P.length) ((P.length - ·)) (0) (by omega) ⟨rfl, rfl, rfl, trivial⟩ trivial rfl rfW rfW ?_
  intro i hi
  rcases Nat.lt_or_ge i P.length with h | h
  · have h2 := hb i (by omega)
    have hok : i + 1 ≤ P.length := h
    clear hb
    exact wk trueW trueW trueW
  · obtain rfl : i = P.length := by omega
    clear hb
    exact wk trueW trueW trueW
set_option maxHeartbeats 1000000 in
theorem Join_ (p : Pa) (hp : p.length < 1000000000) (he : p.length % 2 = 0) : LF Try.prog 67 [bV (pB p)] (fun _ => .t [bV (keyB p), .k (.int .i64 0)]) none := by
  have hpl := pB_len p
  have c1 := wrong_ p hp
  refine LFx.mk' tt Try.func67 rfl rfl rfl (by kernel_rfl) rfl rfl fun F => ?_
  refine wk ?_ trueW trueW
  refine LC.nilrow 4 40 5 1 rfl rfl rfl ?_
  refine LC.loop3 (fun R S => [(0, bV (pB R)), (4, .s (some 40) (S.map bK))]) (fun R S => [(40, .r 5 1 S.length)]) (fun R S => R.length % 2 = 0 ∧ S ++ keyB R = keyB p ∧ R.length ≤ p.length ∧ S.length ≤ p.length - R.length) ((fun R => R.length)) (p) ([]) ⟨he, rfl, by omega, by simp⟩ ⟨rfl, rfl, trivial⟩ ⟨rfl, trivial⟩ rfl rfW rfW ?_
  rintro R S ⟨h1, h2, h3, h4⟩
  rcases R with _ | ⟨a, _ | ⟨b, R⟩⟩
  · rw [show keyB [] = [] from rfl, List.append_nil] at h2
    rw [← h2]
    clear h2 c1
    exact wk trueW trueW trueW
  · simp at h1
  · have ha := a.isLt
    have hb := b.isLt
    have hE : (UInt8.ofNat (((pB (a :: b :: R)).getD 0 default).toNat * 2 ^ 4) ||| (pB (a :: b :: R)).getD 1 default) = UInt8.ofNat (a.val * 16 + b.val) := by
      rw [show (pB (a :: b :: R)).getD 0 default = UInt8.ofNat a.val from rfl, show (pB (a :: b :: R)).getD 1 default = UInt8.ofNat b.val from rfl, half_byte]
      apply UInt8.toNat_inj.1
      rw [UInt8.toNat_or]
      have h1 : (UInt8.ofNat (a.val * 2 ^ 4)).toNat = 2 ^ 4 * a.val := by simp only [UInt8.toNat_ofNat']; omega
      have h2 : (UInt8.ofNat b.val).toNat = b.val := half_byte b
      have h3 : (UInt8.ofNat (a.val * 16 + b.val)).toNat = 2 ^ 4 * a.val + b.val := by simp only [UInt8.toNat_ofNat']; omega
      rw [h1, h2, h3, Nat.two_pow_add_eq_or_of_lt (by omega)]
    simp only [List.length_cons] at h1 h3 h4
    have hok : R.length % 2 = 0 ∧ (S ++ [UInt8.ofNat (((pB (a :: b :: R)).getD 0 default).toNat * 2 ^ 4) ||| (pB (a :: b :: R)).getD 1 default]) ++ keyB R = keyB p ∧ R.length ≤ p.length ∧ (S ++ [UInt8.ofNat (((pB (a :: b :: R)).getD 0 default).toNat * 2 ^ 4) ||| (pB (a :: b :: R)).getD 1 default]).length ≤ p.length - R.length := ⟨by omega, by rw [hE, ← h2, List.append_assoc]; rfl, by omega, by rw [List.length_append]; simp; omega⟩
    have hbl : (pB (a :: b :: R)).length = R.length + 2 := by rw [pB_len]; rfl
    clear h2 c1 hE ha hb
    exact wk trueW trueW trueW
end Te
end Lf
open Go.RowKit Rg Wm Ar
set_option linter.unusedVariables false
set_option maxRecDepth 100000
namespace Lf
open Tr
theorem rn_kind {x : Rn} {ti : TI} (hd : ti.d.agg = false) : ti.part (rnC x) 0 = some (.k (.int .i64 x.kind)) := by
  obtain ⟨k, p, v, ks⟩ := x
  rw [rnC_eq]
  unfold TI.part
  simp [hd, Rn.kind]
theorem many_take {ks : List Rn} {i : Nat} (h : i < ks.length) : many (ks.take (i + 1)) = many (ks.take i) + (if (ks.getD i default).kind = 0 then 0 else 1) := by
  rw [List.take_succ_eq_append_getElem h]
  unfold many
  rw [List.filter_append, List.length_append, List.getD_eq_getElem?_getD, List.getElem?_eq_getElem h, Option.getD_some]
  by_cases hk : ks[i].kind = 0
  · simp [hk]
  · simp [hk]
theorem many_le (ks : List Rn) (i : Nat) : many (ks.take i) ≤ i := by
  unfold many
  exact Nat.le_trans (List.length_filter_le _ _) (by rw [List.length_take]; omega)
namespace Te
def RtC (x : Rn) (d : Nat) : Prop := LF Try.prog 84 [rnV x, .k (.int .i64 (d : Int))] (fun _ => .k (.bool (rt x d))) none
set_option maxHeartbeats 4000000 in
theorem rightFork_ (p v : List UInt8) (ks : List Rn) (d : Nat) (hd : d < 300000000000000000) (hv : v.length < 200000000000000000) (hkl : ks.length < 200000000000000000) (ih : ∀ i, i < ks.length → RtC (ks.getD i default) (d + 1)) :
    LF Try.prog 115 [rnV (.mk 3 p v ks), .k (.int .i64 (d : Int))] (fun _ => .k (.bool (rt (.mk 3 p v ks) d))) none := by
  unfold RtC at ih
  rw [rt_eq]
  simp only [Int.reduceEq, if_true, if_false]
  simp only [rnV, rnC_eq]
  by_cases h1 : ks.length = 16
  case neg =>
    rw [show decide (ks.length = 16) = false from decide_eq_false h1]
    simp only [Bool.false_and]
    clear ih
    refine LFx.mk' tt Try.func115 rfl rfl rfl (by kernel_rfl) rfl rfl fun F => ?_
    exact wk trueW trueW trueW
  rw [show decide (ks.length = 16) = true from decide_eq_true h1, Bool.true_and]
  by_cases h2 : v.length ≤ 1024
  case neg =>
    rw [show decide (v.length ≤ 1024) = false from decide_eq_false h2]
    simp only [Bool.false_and]
    clear ih
    refine LFx.mk' tt Try.func115 rfl rfl rfl (by kernel_rfl) rfl rfl fun F => ?_
    exact wk trueW trueW trueW
  rw [show decide (v.length ≤ 1024) = true from decide_eq_true h2, Bool.true_and]
  have c2 := ends_ d (by omega)
  by_cases hE : 0 < v.length ∧ endsB d = false
  · obtain ⟨h3, h4⟩ := hE
    rw [h4] at c2 ⊢
    rw [show decide (v.length = 0) = false from decide_eq_false (by omega)]
    simp only [Bool.false_or, Bool.false_and]
    clear ih
    refine LFx.mk' tt Try.func115 rfl rfl rfl (by kernel_rfl) rfl rfl fun F => ?_
    exact wk trueW trueW trueW
  have hE2 : v.length = 0 ∨ (0 < v.length ∧ endsB d = true) := by
    rcases Nat.eq_zero_or_pos v.length with h | h
    · exact .inl h
    · exact .inr ⟨h, by cases hb : endsB d with
        | true => rfl
        | false => exact absurd ⟨h, hb⟩ hE⟩
  have hE3 : (decide (v.length = 0) || endsB d) = true := by
    rcases hE2 with h | ⟨_, h⟩
    · rw [show decide (v.length = 0) = true from decide_eq_true h, Bool.true_or]
    · rw [h, Bool.or_true]
  rw [hE3, Bool.true_and]
  obtain ⟨m, hm1, hm2, hm3⟩ : ∃ m, m = min v.length 1 ∧ m ≤ 1 ∧ (if (1 : Int) < (v.length : Int) then (1 : Int) else (v.length : Int)) = (m : Int) := ⟨_, rfl, Nat.min_le_right .., by split <;> omega⟩
  rw [← hm1]
  have hg := rtL_get (ks := ks) (d := d + 1)
  clear hE hE3 hm1
  rcases hE2 with h3 | ⟨h3, h4⟩
  case' inr => rw [h4] at c2
  all_goals
    refine LFx.mk' tt Try.func115 rfl rfl rfl (by kernel_rfl) rfl rfl fun F => ?_
    refine wk ?_ trueW trueW
    refine LC.loop2 (fun i S => [(1, .k (.int .i64 ((d : Nat) : Int))), (2, .p 2 0), (5, .k (.int .i64 ((S : Nat) : Int))), (34, .s none (ks.map rnV)), (35, .k (.int .i64 ((ks.length : Nat) : Int))), (36, .k (.int .i64 ((i : Nat) : Int)))]) (fun i S => [(2, .b [.k (.int .i64 3), bV p, bV v, .s none (ks.map rnV)])]) (fun i S => i ≤ ks.length ∧ S = m + many (ks.take i) ∧ ∀ j, j < i → rt (ks.getD j default) (d + 1) = true) ((ks.length - ·)) (0) (m) ⟨by omega, by rw [List.take_zero]; rfl, fun j hj => by omega⟩ ⟨rfl, rfl, rfl, rfl, rfl, rfl, trivial⟩ ⟨rfl, trivial⟩ rfl rfW rfW ?_
    rintro i S ⟨hi, hS, hall⟩
    rcases Nat.lt_or_ge i ks.length with h | h
    · have c1 := ih i h
      have hk4 := rnC_len (ks.getD i default)
      have hMt := many_take h
      have hMl := many_le ks i
      have ld1 := @rn_kind
      have hrf := rnC_refs
      cases hrt : rt (ks.getD i default) (d + 1) with
      | true =>
        rw [hrt] at c1
        have hall2 : ∀ j, j < i + 1 → rt (ks.getD j default) (d + 1) = true := fun j hj => by
          by_cases e : j = i
          · subst e; exact hrt
          · exact hall j (by omega)
        by_cases hk0 : (ks.getD i default).kind = 0
        · rw [if_pos hk0] at hMt
          have hok : i + 1 ≤ ks.length ∧ S = m + many (ks.take (i + 1)) ∧ ∀ j, j < i + 1 → rt (ks.getD j default) (d + 1) = true := ⟨h, by omega, hall2⟩
          clear ih hg hall hall2 hrt
          exact wk trueW trueW trueW
        · rw [if_neg hk0] at hMt
          have hok : i + 1 ≤ ks.length ∧ S + 1 = m + many (ks.take (i + 1)) ∧ ∀ j, j < i + 1 → rt (ks.getD j default) (d + 1) = true := ⟨h, by omega, hall2⟩
          clear ih hg hall hall2 hrt
          exact wk trueW trueW trueW
      | false =>
        rw [hrt] at c1
        have hF : rtL ks (d + 1) = false := by rw [← Bool.not_eq_true]; exact fun hh => by rw [hg.1 hh i h] at hrt; cases hrt
        rw [hF]
        simp only [Bool.false_and]
        clear ih hg hall hrt hF
        exact wk trueW trueW trueW
    · obtain rfl : i = ks.length := by omega
      rw [List.take_length] at hS
      rw [hg.2 hall, Bool.true_and, ← hS]
      clear ih hg hall
      by_cases h5 : 2 ≤ S
      · rw [show decide (2 ≤ S) = true from decide_eq_true h5]
        exact wk trueW trueW trueW
      · rw [show decide (2 ≤ S) = false from decide_eq_false h5]
        exact wk trueW trueW trueW
end Te
end Lf
open Go.RowKit Rg Wm Ar
set_option linter.unusedVariables false
set_option maxRecDepth 100000
namespace Lf
open Tr
namespace Te
set_option maxHeartbeats 4000000 in
theorem right_ : ∀ (n : Nat) (x : Rn) (d : Nat), x.size ≤ n → n < 100000000000000000 → d + x.size < 200000000000000000 → RtC x d := by
  intro n
  induction n with
  | zero => intro x d hx; obtain ⟨k, p, v, ks⟩ := x; rw [size_eq] at hx; omega
  | succ n ih =>
    intro x d hx hn hd
    obtain ⟨k, p, v, ks⟩ := x
    rw [size_eq] at hx hd
    have hkl := sizeL_len ks
    have kid : ∀ i, i < ks.length → ∀ e, e ≤ d + p.length + 1 → RtC (ks.getD i default) e := fun i hi e he => by
      have := sizeL_get hi
      exact ih _ e (by omega) (by omega) (by omega)
    clear ih
    unfold RtC
    by_cases h3 : k = 3
    · subst h3
      have c1 := rightFork_ p v ks d (by omega) (by omega) (by omega) fun i hi => kid i hi (d + 1) (by omega)
      generalize rt (.mk 3 p v ks) d = r at *
      simp only [rnV, rnC_eq] at c1 ⊢
      clear kid
      refine LFx.mk' tt Try.func84 rfl rfl rfl (by kernel_rfl) rfl rfl fun F => ?_
      exact wk trueW trueW trueW
    by_cases h0 : k = 0
    · subst h0
      have e : rt (.mk 0 p v ks) d = true := by rw [rt_eq]; rfl
      rw [e]
      simp only [rnV, rnC_eq]
      clear kid e
      refine LFx.mk' tt Try.func84 rfl rfl rfl (by kernel_rfl) rfl rfl fun F => ?_
      exact wk trueW trueW trueW
    by_cases h1 : k = 1
    · subst h1
      rw [show rt (.mk 1 p v ks) d = (halvesB p && endsB (d + p.length) && decide (0 < v.length) && decide (v.length ≤ 1024)) by rw [rt_eq]; rfl]
      simp only [rnV, rnC_eq]
      have c1 := halves_ p (by omega)
      have c2 := ends_ (d + p.length) (by omega)
      clear kid
      cases hA : halvesB p with
      | false =>
        rw [hA] at c1
        simp only [Bool.false_and]
        clear c2
        refine LFx.mk' tt Try.func84 rfl rfl rfl (by kernel_rfl) rfl rfl fun F => ?_
        exact wk trueW trueW trueW
      | true =>
        rw [hA] at c1
        cases hB : endsB (d + p.length) with
        | false =>
          rw [hB] at c2
          simp only [Bool.false_and, Bool.true_and]
          refine LFx.mk' tt Try.func84 rfl rfl rfl (by kernel_rfl) rfl rfl fun F => ?_
          exact wk trueW trueW trueW
        | true =>
          rw [hB] at c2
          simp only [Bool.true_and]
          by_cases hC : 0 < v.length
          · rw [show decide (0 < v.length) = true from decide_eq_true hC, Bool.true_and]
            by_cases hD : v.length ≤ 1024
            · rw [show decide (v.length ≤ 1024) = true from decide_eq_true hD]
              refine LFx.mk' tt Try.func84 rfl rfl rfl (by kernel_rfl) rfl rfl fun F => ?_
              exact wk trueW trueW trueW
            · rw [show decide (v.length ≤ 1024) = false from decide_eq_false hD]
              refine LFx.mk' tt Try.func84 rfl rfl rfl (by kernel_rfl) rfl rfl fun F => ?_
              exact wk trueW trueW trueW
          · rw [show decide (0 < v.length) = false from decide_eq_false hC, Bool.false_and]
            refine LFx.mk' tt Try.func84 rfl rfl rfl (by kernel_rfl) rfl rfl fun F => ?_
            exact wk trueW trueW trueW
    by_cases h2 : k = 2
    · subst h2
      rw [show rt (.mk 2 p v ks) d = (decide (0 < p.length) && halvesB p && decide (ks.length = 1) && decide ((ks.getD 0 default).kind = 3) && rtL ks (d + p.length)) by rw [rt_eq]; rfl]
      simp only [rnV, rnC_eq]
      have c1 := halves_ p (by omega)
      by_cases hA : 0 < p.length
      case neg =>
        rw [show decide (0 < p.length) = false from decide_eq_false hA]
        simp only [Bool.false_and]
        clear kid c1
        refine LFx.mk' tt Try.func84 rfl rfl rfl (by kernel_rfl) rfl rfl fun F => ?_
        exact wk trueW trueW trueW
      rw [show decide (0 < p.length) = true from decide_eq_true hA, Bool.true_and]
      cases hB : halvesB p with
      | false =>
        rw [hB] at c1
        simp only [Bool.false_and]
        clear kid
        refine LFx.mk' tt Try.func84 rfl rfl rfl (by kernel_rfl) rfl rfl fun F => ?_
        exact wk trueW trueW trueW
      | true =>
        rw [hB] at c1
        rw [Bool.true_and]
        by_cases hC : ks.length = 1
        case neg =>
          rw [show decide (ks.length = 1) = false from decide_eq_false hC]
          simp only [Bool.false_and]
          clear kid
          refine LFx.mk' tt Try.func84 rfl rfl rfl (by kernel_rfl) rfl rfl fun F => ?_
          exact wk trueW trueW trueW
        rw [show decide (ks.length = 1) = true from decide_eq_true hC, Bool.true_and]
        have hk4 := rnC_len (ks.getD 0 default)
        have ld1 := @rn_kind
        have hrf := rnC_refs
        by_cases hD : (ks.getD 0 default).kind = 3
        case neg =>
          rw [show decide ((ks.getD 0 default).kind = 3) = false from decide_eq_false hD]
          simp only [Bool.false_and]
          clear kid
          refine LFx.mk' tt Try.func84 rfl rfl rfl (by kernel_rfl) rfl rfl fun F => ?_
          exact wk trueW trueW trueW
        rw [show decide ((ks.getD 0 default).kind = 3) = true from decide_eq_true hD, Bool.true_and]
        have hE : rtL ks (d + p.length) = rt (ks.getD 0 default) (d + p.length) := by
          match ks, hC with
          | [y], _ => rw [rtL, rtL, Bool.and_true, List.getD_cons_zero]
        rw [hE]
        have c2 := kid 0 (by omega) (d + p.length) (by omega)
        unfold RtC at c2
        generalize rt (ks.getD 0 default) (d + p.length) = r at *
        clear kid hE
        refine LFx.mk' tt Try.func84 rfl rfl rfl (by kernel_rfl) rfl rfl fun F => ?_
        exact wk trueW trueW trueW
    · rw [show rt (.mk k p v ks) d = false by rw [rt_eq, if_neg h0, if_neg h1, if_neg h2, if_neg h3]]
      simp only [rnV, rnC_eq]
      clear kid
      refine LFx.mk' tt Try.func84 rfl rfl rfl (by kernel_rfl) rfl rfl fun F => ?_
      exact wk trueW trueW trueW
theorem RightL_ (x : Rn) (hx : x.size < 100000000000000000) : LF Try.prog 45 [rnV x] (fun _ => .k (.bool (rt x 0))) none := by
  have c1 := right_ x.size x 0 (Nat.le_refl _) hx (by omega)
  unfold RtC at c1
  have hk4 := rnC_len x
  have hrf := rnC_refs
  generalize rt x 0 = r at *
  refine LFx.mk' tt Try.func45 rfl rfl rfl (by kernel_rfl) rfl rfl fun F => ?_
  exact wk trueW trueW trueW
theorem Right_ (x : Rn) (hx : x.size < 1000000000) : LF Try.prog 45 [rnV x] (fun _ => .k (.bool (rt x 0))) none := RightL_ x (by omega)
end Te
end Lf
end Go.Proofs.Ytkbimhccaacobaa

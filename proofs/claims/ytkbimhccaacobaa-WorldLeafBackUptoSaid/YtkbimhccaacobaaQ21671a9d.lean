/- A part of the proof: texts joined. -/
import Derived.Test.YtkbimhccaacobaaQ207c093c
namespace Go.Proofs.Ytkbimhccaacobaa
open Go.RowKit Rg Wm Ar
set_option linter.unusedVariables false
set_option maxRecDepth 100000
namespace Lf
open Tr Ro Pk
theorem drop_cons {α : Type} [Inhabited α] {l : List α} {i : Nat} (h : i < l.length) : l.drop i = l.getD i default :: l.drop (i + 1) := by
 rw [List.drop_eq_getElem_cons h, List.getD_eq_getElem?_getD, List.getElem?_eq_getElem h]
 rfl
namespace Rw
end Rw
end Lf
namespace Lf
namespace Rw
end Rw
end Lf
namespace Lf
end Lf
namespace Lf
namespace Sr
end Sr
end Lf
open Go.RowKit Rg
set_option linter.unusedVariables false
set_option maxRecDepth 100000
namespace Lf
namespace Sr
def blocks (b : List UInt8) : Nat := b.length / 32 + 1 + (if b.length % 32 = 31 then 1 else 0)
end Sr
end Lf
namespace Lf
namespace Sr
end Sr
end Lf
open Go.RowKit Rg
set_option linter.unusedVariables false
set_option maxRecDepth 100000
namespace Lf
def hE (E : List (List UInt8 × Nat)) : List (Value × V) := E.map fun p => (hashK p.1, .k (.int .i64 ((p.2 : Nat) : Int)))
theorem hks {E : List (List UInt8 × Nat)} (h : ∀ p ∈ E, p.1.length = 32) : KeysV Try.prog 34 (hE E) := ⟨fun p hp => by
 obtain ⟨q, hq, rfl⟩ := List.mem_map.1 hp
 exact key_hashK (h q hq)⟩
theorem hno {E : List (List UInt8 × Nat)} {h : List UInt8} (hn : ∀ p ∈ E, p.1 ≠ h) : MNo (hE E) (hashK h) := ⟨fun p hp e => by
 obtain ⟨q, hq, rfl⟩ := List.mem_map.1 hp
 exact hn q hq (hashK_inj e)⟩
def Clashes (ts : List (List UInt8)) : Prop := ∃ a ∈ ts, ∃ b ∈ ts, sumB a = sumB b ∧ a ≠ b
structure ClashAt (ts : List (List UInt8)) (i : Nat) (E : List (List UInt8 × Nat)) : Prop where
 one : ∀ p ∈ E, ∀ q ∈ E, p.1 = q.1 → p = q
 at_ : ∀ p ∈ E, p.2 < i ∧ p.1 = sumB (ts.getD p.2 default)
 all : ∀ j, j < i → ∃ p ∈ E, p.1 = sumB (ts.getD j default) ∧ ts.getD p.2 default = ts.getD j default
theorem ClashAt.len {ts : List (List UInt8)} {i : Nat} {E : List (List UInt8 × Nat)} (h : ClashAt ts i E) : ∀ p ∈ E, p.1.length = 32 := fun p hp => by rw [(h.at_ p hp).2]; exact sumB_len _
theorem ClashAt.no {ts : List (List UInt8)} {E : List (List UInt8 × Nat)} (h : ClashAt ts ts.length E) : ¬ Clashes ts := by
 rintro ⟨a, ha, b, hb, h1, h2⟩
 obtain ⟨i, hi, ei⟩ := List.mem_iff_getElem.1 ha
 obtain ⟨j, hj, ej⟩ := List.mem_iff_getElem.1 hb
 have gi : ts.getD i default = a := by rw [List.getD_eq_getElem?_getD, List.getElem?_eq_getElem hi]; exact ei
 have gj : ts.getD j default = b := by rw [List.getD_eq_getElem?_getD, List.getElem?_eq_getElem hj]; exact ej
 obtain ⟨p, p1, p2, p3⟩ := h.all i hi
 obtain ⟨q, q1, q2, q3⟩ := h.all j hj
 rw [gi] at p2 p3
 rw [gj] at q2 q3
 have := h.one p p1 q q1 (by rw [p2, q2, h1])
 subst this
 exact h2 (p3.symm.trans q3)
namespace Sr
end Sr
end Lf
namespace Lf
namespace Rw
end Rw
end Lf
open Go.RowKit Rg Wm Ar
set_option linter.unusedVariables false
set_option maxRecDepth 100000
namespace Lf
open Tr Ro Pk
theorem neS_t' {a b : List UInt8} (h : a ≠ b) : arithS .neq ⟨a.toArray⟩ ⟨b.toArray⟩ = some (.bool true) := by
 simp only [arithS, ByteArray.toList_mk]
 simp [h]
theorem neS_f' (a : List UInt8) : arithS .neq ⟨a.toArray⟩ ⟨a.toArray⟩ = some (.bool false) := by
 simp only [arithS, ByteArray.toList_mk]
 simp
namespace Rw
end Rw
end Lf
open Go.RowKit Rg Wm Ar
set_option linter.unusedVariables false
set_option maxRecDepth 100000
namespace Lf
open Pk Ro Tr
namespace Wo
theorem sl_kinds (s : Slot) : KindsOf (slC s) (List.replicate 4 .u64 ++ List.replicate 4 .u64) := by
 rw [slC_eq]
 exact KindsOf.maps (f := uK) (k := .u64) (fun _ => rfl) (KindsOf.map1 (f := uK) (fun _ => rfl) (limbs_len _)) (limbs_len _)
theorem slC_inj {s t : Slot} (hs : s.ok) (ht : t.ok) : slC s = slC t ↔ s = t := by
 constructor
 ·intro h
  rw [slC_eq, slC_eq] at h
  obtain ⟨h1, h2⟩ := List.append_inj h (by rw [List.length_map, List.length_map, limbs_len, limbs_len])
  have hu : ∀ {a b : Nat}, uK a = uK b → a = b := fun {a b} e => by
   injection e with e
   injection e with _ e
   exact Int.ofNat.inj e
  have hm : ∀ {l m : List Nat}, l.map uK = m.map uK → l = m := fun {l} => by
   induction l with
   | nil => intro m e; cases m with
    | nil => rfl
    | cons y r => cases e
   | cons x r ih => intro m e; cases m with
    | nil => cases e
    | cons y s => rw [List.map_cons, List.map_cons] at e; obtain ⟨e1, e2⟩ := List.cons.inj e; rw [hu e1, ih e2]
  have k1 := limbs_inj (hm h1)
  have k2 := limbs_inj (hm h2)
  rw [Nat.mod_eq_of_lt hs.1, Nat.mod_eq_of_lt ht.1] at k1
  rw [Nat.mod_eq_of_lt hs.2, Nat.mod_eq_of_lt ht.2] at k2
  exact Prod.ext k1 k2
 ·rintro rfl; rfl
theorem ac_eq {a b : Ac} : a = b ↔ a.nonce = b.nonce ∧ a.money = b.money ∧ a.code = b.code ∧ a.slots = b.slots := by
 constructor
 ·rintro rfl; exact ⟨rfl, rfl, rfl, rfl⟩
 ·rintro ⟨h1, h2, h3, h4⟩
  cases a; cases b
  simp only at h1 h2 h3 h4
  rw [h1, h2, h3, h4]
theorem list_ext_getD {α : Type} [Inhabited α] {l m : List α} (hl : l.length = m.length) (h : ∀ j, j < l.length → l.getD j default = m.getD j default) : l = m := by
 refine List.ext_getElem hl fun i h1 h2 => ?_
 have := h i h1
 rwa [getD_get h1, getD_get h2] at this
set_option maxHeartbeats 4000000 in
theorem SameAccount_ (a b : Ac) (ha : a.ok) (hb : b.ok) : LF Try.prog 44 [acV a, acV b] (fun _ => .k (.bool (decide (a = b)))) none := by
 have hac := ha.cl
 have hbc := hb.cl
 have has := ha.sl
 have hbs := hb.sl
 have han := ha.nonce
 have hbn := hb.nonce
 have ld1 := @ac_n
 have ld2 := @ac_m
 have ld3 := @ac_c
 have ld4 := @ac_s
 have hla : (acC a).length = 7 := acS_len
 have hlb : (acC b).length = 7 := acS_len
 have hl4 := limbs_len a.money
 have hl5 := limbs_len b.money
 have hrf := And.intro acS_refs slC_refs
 have hcv := And.intro acS_cv slC_cv
 by_cases h1 : a.nonce = b.nonce
 case neg =>
  rw [decide_eq_false fun e => h1 (ac_eq.1 e).1]
  have hm := ha.money
  clear ha hb hm
  refine LFx.mk' tt Try.func44 rfl rfl rfl (by kernel_rfl) rfl rfl fun F => ?_
  exact wk trueW trueW trueW
 by_cases h2 : a.money = b.money
 case neg =>
  rw [decide_eq_false fun e => h2 (ac_eq.1 e).2.1]
  have hm := limbs_ne ha.money hb.money h2
  clear ha hb h2
  refine LFx.mk' tt Try.func44 rfl rfl rfl (by kernel_rfl) rfl rfl fun F => ?_
  exact wk trueW trueW trueW
 have hm : limbs a.money = limbs b.money := by rw [h2]
 have hm2 : ¬ ¬ limbs a.money = limbs b.money := fun k => k hm
 by_cases h3 : a.code = b.code
 case neg =>
  rw [decide_eq_false fun e => h3 (ac_eq.1 e).2.2.1]
  have hs := neS_t' h3
  clear ha hb h2
  refine LFx.mk' tt Try.func44 rfl rfl rfl (by kernel_rfl) rfl rfl fun F => ?_
  exact wk trueW trueW trueW
 have hs : arithS .neq ⟨a.code.toArray⟩ ⟨b.code.toArray⟩ = some (.bool false) := by rw [h3]; exact neS_f' _
 by_cases h4 : a.slots.length = b.slots.length
 case neg =>
  rw [decide_eq_false fun e => h4 (congrArg List.length (ac_eq.1 e).2.2.2)]
  clear ha hb h2 h3
  refine LFx.mk' tt Try.func44 rfl rfl rfl (by kernel_rfl) rfl rfl fun F => ?_
  exact wk trueW trueW trueW
 obtain ⟨r, hr⟩ : ∃ r, r = decide (a = b) := ⟨_, rfl⟩
 rw [← hr]
 refine LFx.mk' tt Try.func44 rfl rfl rfl (by kernel_rfl) rfl rfl fun F => ?_
 refine wk ?_ trueW trueW
 refine LC.loopN (fun i => [(2, .p 2 0), (3, .p 3 0), (38, .k (.int .i64 ((a.slots.length : Nat) : Int))), (39, .k (.int .i64 ((i : Nat) : Int)))]) (fun i => [(2, .b (acC a)), (3, .b (acC b))]) (fun i => i ≤ a.slots.length ∧ ∀ j, j < i → a.slots.getD j default = b.slots.getD j default) ((a.slots.length - ·)) (0) ⟨by omega, fun j hj => by omega⟩ ⟨rfl, rfl, rfl, rfl, trivial⟩ ⟨rfl, rfl, trivial⟩ rfl rfW rfW ?_
 rintro i ⟨hi, hall⟩
 have hma : (a.slots.map slV).length = a.slots.length := List.length_map _
 have hmb : (b.slots.map slV).length = b.slots.length := List.length_map _
 rcases Nat.lt_or_ge i a.slots.length with h | h
 ·have hib : i < b.slots.length := by omega
  have hk1 := sl_kinds (a.slots.getD i default)
  have hk2 := sl_kinds (b.slots.getD i default)
  have hx1 := slC_len (a.slots.getD i default)
  have hx2 := slC_len (b.slots.getD i default)
  have hinj := slC_inj (ha.slots _ (getD_in h)) (hb.slots _ (getD_in hib))
  by_cases e : a.slots.getD i default = b.slots.getD i default
  ·have e1 : slC (a.slots.getD i default) = slC (b.slots.getD i default) := hinj.2 e
   have e2 : ¬ ¬ slC (a.slots.getD i default) = slC (b.slots.getD i default) := fun k => k e1
   have hok : i + 1 ≤ a.slots.length ∧ ∀ j, j < i + 1 → a.slots.getD j default = b.slots.getD j default := ⟨h, fun j hj => by
    by_cases e2 : j = i
    ·subst e2; exact e
    ·exact hall j (by omega)⟩
   clear hall e hr ha hb hinj h2 h3
   exact wk trueW trueW trueW
  ·have e1 : ¬ slC (a.slots.getD i default) = slC (b.slots.getD i default) := fun k => e (hinj.1 k)
   have hrf' : r = false := by rw [hr]; exact decide_eq_false fun e2 => e (by rw [e2])
   subst hrf'
   clear hall e hr ha hb hinj h2 h3
   exact wk trueW trueW trueW
 ·obtain rfl : i = a.slots.length := by omega
  have hrt : r = true := by
   rw [hr]
   exact decide_eq_true (ac_eq.2 ⟨h1, h2, h3, list_ext_getD h4 hall⟩)
  subst hrt
  clear hall hr ha hb h2 h3
  exact wk trueW trueW trueW
theorem ho_eq {x y : Ho} : x = y ↔ x.addr = y.addr ∧ x.acc = y.acc := by
 constructor
 ·rintro rfl; exact ⟨rfl, rfl⟩
 ·rintro ⟨h1, h2⟩
  cases x; cases y
  simp only at h1 h2
  rw [h1, h2]
set_option maxHeartbeats 4000000 in
theorem SameWorld_ (a b : List Ho) (ha : ∀ x ∈ a, x.ok) (hb : ∀ x ∈ b, x.ok) (hna : a.length < 2000000) (hnb : b.length < 2000000) : LF Try.prog 39 [hosV a, hosV b] (fun _ => .k (.bool (decide (a = b)))) none := by
 have hma : (a.map hoV).length = a.length := List.length_map _
 have hmb : (b.map hoV).length = b.length := List.length_map _
 have hrf := And.intro refs_b acS_refs
 have hrg := hoS_refs
 have hcv := hoS_cv
 by_cases hl : a.length = b.length
 case neg =>
  rw [decide_eq_false (fun e => hl (congrArg List.length e))]
  clear ha hb
  refine LFx.mk' tt Try.func39 rfl rfl rfl (by kernel_rfl) rfl rfl fun F => ?_
  exact wk trueW trueW trueW
 obtain ⟨r, hr⟩ : ∃ r, r = decide (a = b) := ⟨_, rfl⟩
 rw [← hr]
 refine LFx.mk' tt Try.func39 rfl rfl rfl (by kernel_rfl) rfl rfl fun F => ?_
 refine wk ?_ trueW trueW
 refine LC.loopN (fun i => [(0, hosV a), (1, hosV b), (12, .k (.int .i64 ((a.length : Nat) : Int))), (13, .k (.int .i64 ((i : Nat) : Int)))]) (fun i => []) (fun i => i ≤ a.length ∧ ∀ j, j < i → a.getD j default = b.getD j default) ((a.length - ·)) (0) ⟨by omega, fun j hj => by omega⟩ ⟨rfl, rfl, rfl, rfl, trivial⟩ trivial rfl rfW rfW ?_
 rintro i ⟨hi, hall⟩
 rcases Nat.lt_or_ge i a.length with h | h
 ·have hib : i < b.length := by omega
  have hx := ha _ (getD_in h)
  have hy := hb _ (getD_in hib)
  have hxa := hx.addr
  have hya := hy.addr
  have ld1 := @ho_a
  have ld2 := @ho_ac
  have hx1 : (hoC (a.getD i default)).length = 15 := hoS_len hxa
  have hx2 : (hoC (b.getD i default)).length = 15 := hoS_len hya
  have d1 := hoC_drop hxa
  have d2 := hoC_drop hya
  have hrd1 : ∀ m, V.refs.go m (List.drop 8 (hoC (a.getD i default))) = true := fun m => by rw [d1]; exact acS_refs _ _ _ _ _
  have hrd2 : ∀ m, V.refs.go m (List.drop 8 (hoC (b.getD i default))) = true := fun m => by rw [d2]; exact acS_refs _ _ _ _ _
  have c1 : LF Try.prog 44 [.a (List.drop 8 (hoC (a.getD i default))), .a (List.drop 8 (hoC (b.getD i default)))] (fun _ => .k (.bool (decide ((a.getD i default).acc = (b.getD i default).acc)))) none := by
   rw [d1, d2]; exact SameAccount_ (a.getD i default).acc (b.getD i default).acc hx.acc hy.acc
  clear hrf
  have hrf := And.intro hrd1 hrd2
  clear d1 d2
  by_cases e : (a.getD i default).addr = (b.getD i default).addr
  ·have e2 : ¬ ¬ (a.getD i default).addr = (b.getD i default).addr := fun k => k e
   by_cases e3 : (a.getD i default).acc = (b.getD i default).acc
   ·rw [decide_eq_true e3] at c1
    have hok : i + 1 ≤ a.length ∧ ∀ j, j < i + 1 → a.getD j default = b.getD j default := ⟨h, fun j hj => by
     by_cases e2 : j = i
     ·subst e2; exact ho_eq.2 ⟨e, e3⟩
     ·exact hall j (by omega)⟩
    clear hall hr ha hb hx hy e3
    exact wk trueW trueW trueW
   ·rw [decide_eq_false e3] at c1
    have hrf' : r = false := by rw [hr]; exact decide_eq_false fun k => e3 (by rw [k])
    subst hrf'
    clear hall hr ha hb hx hy e3
    exact wk trueW trueW trueW
  ·have hrf' : r = false := by rw [hr]; exact decide_eq_false fun k => e (by rw [k])
   subst hrf'
   generalize decide ((a.getD i default).acc = (b.getD i default).acc) = q at *
   clear hall hr ha hb hx hy
   exact wk trueW trueW trueW
 ·obtain rfl : i = a.length := by omega
  have hrt : r = true := by
   rw [hr]
   exact decide_eq_true (list_ext_getD hl hall)
  subst hrt
  clear hall hr ha hb
  exact wk trueW trueW trueW
end Wo
end Lf
set_option maxRecDepth 100000
namespace Ro
open Tr Pk
section
variable (S : List UInt8 → List UInt8)
def nxN : Nd → Pa → Option (Nd × Pa)
 | .road p k, q => (rest p q).map fun r => (k, r)
 | .fork ks _, x :: q => if isNo (ks x) = true then none else some (ks x, q)
 | _, _ => none
theorem nxN_road (p : Pa) (k : Nd) (q : Pa) : nxN (.road p k) q = (rest p q).map fun r => (k, r) := rfl
theorem nxN_fork (ks : Fin 16 → Nd) (v : List UInt8) (x : Fin 16) (q : Pa) : nxN (.fork ks v) (x :: q) = if isNo (ks x) = true then none else some (ks x, q) := rfl
def vlN : Nd → Pa → List UInt8
 | .leaf p v, q => if p = q then v else []
 | .fork _ v, [] => v
 | _, _ => []
def nxS (s : Shp) (p : List UInt8) : List UInt8 × List UInt8 × List UInt8 :=
 if s.kind = 1 then (if s.path = p then ([], [], s.value) else ([], [], []))
 else if s.kind = 2 then (match rest (pOf s.path) (pOf p) with
  | some r => (s.kids.getD 0 default, pB r, [])
  | none => ([], [], []))
 else if s.kind = 3 then (match p with
  | [] => ([], [], s.value)
  | x :: r => (s.kids.getD x.toNat default, r, []))
 else ([], [], [])
def ck : List (List UInt8) → Bool → List UInt8 → List UInt8 → Nat × List UInt8
 | [], _, _, _ => (5, [])
 | c :: r, first, h, p =>
  if S c = h then
   (match readS c with
   | none => (1, [])
   | some s => if s.kind = 0 ∧ first = false then (1, []) else
    if (nxS s p).1.length = 0 then (if r = [] then (0, (nxS s p).2.2) else (6, [])) else ck r false (nxS s p).1 (nxS s p).2.1)
  else (4, [])
def way : Nat → Nd → Pa → List (List UInt8)
 | 0, _, _ => []
 | f + 1, n, q => hcode S n :: (match nxN n q with
  | some (k, r) => way f k r
  | none => [])
theorem nxN_right {n k : Nd} {q r : Pa} {d : Nat} (hr : Right n d) (h : nxN n q = some (k, r)) : ∃ d', d < d' ∧ Right k d' ∧ k ≠ .no ∧ r.length < q.length ∧ d' + r.length = d + q.length ∧ Tr.get n q = Tr.get k r ∧ ∀ c ∈ cds S k, c ∈ cds S n := by
 cases n with
 | no => cases h
 | leaf p v => cases h
 | road p k' =>
  rw [nxN_road] at h
  cases hq : rest p q with
  | none => rw [hq] at h; cases h
  | some r' =>
   rw [hq] at h
   cases h
   have e := rest_some hq
   have hp := List.length_pos_iff.2 hr.1
   obtain ⟨ks, v, hk⟩ := fork_is hr.2.1
   refine ⟨_, by omega, hr.2.2, fun e => (by rw [e] at hk; cases hk), by rw [e, List.length_append]; omega, by rw [e, List.length_append]; omega, ?_, fun c hc => ?_⟩
   ·rw [e, get_road]
   ·rw [cds_road]; exact List.mem_cons_of_mem _ hc
 | fork ks v =>
  cases q with
  | nil => cases h
  | cons x q =>
   rw [nxN_fork] at h
   split at h
   ·cases h
   ·rename_i hno
    cases h
    exact ⟨_, Nat.lt_succ_self d, hr.2.2.1 x, fun e => hno (isNo_eq.2 e), by simp, by simp; omega, rfl, fun c hc => mem_kid S (fun e => hno (isNo_eq.2 e)) hc⟩
theorem nxN_none {n : Nd} {q : Pa} (h : nxN n q = none) : Tr.get n q = vlN n q := by
 cases n with
 | no => rfl
 | leaf p v => rfl
 | road p k =>
  rw [nxN_road] at h
  unfold Tr.get
  cases hq : rest p q with
  | none => rfl
  | some r => rw [hq] at h; cases h
 | fork ks v =>
  cases q with
  | nil => rfl
  | cons x q =>
   rw [nxN_fork] at h
   split at h
   ·rename_i hno
    unfold Tr.get
    rw [isNo_eq.1 hno]
    rfl
   ·cases h
variable (hS : ∀ b, (S b).length = 32)
include hS
omit hS in
theorem nxS_shp (n : Nd) (q : Pa) : (∀ k r, nxN n q = some (k, r) → nxS (shpN S n) (pB q) = (S (hcode S k), pB r, [])) ∧ (nxN n q = none → (nxS (shpN S n) (pB q)).1.length = 0 ∧ (nxS (shpN S n) (pB q)).2.2 = vlN n q) := by
 cases n with
 | no => exact ⟨fun k r h => (by cases h), fun _ => ⟨rfl, rfl⟩⟩
 | leaf p v =>
  refine ⟨fun k r h => (by cases h), fun _ => ?_⟩
  unfold nxS shpN vlN
  simp only [if_true]
  by_cases h : p = q
  ·subst h; simp
  ·rw [if_neg (fun e => h (pB_inj e)), if_neg h]; exact ⟨rfl, rfl⟩
 | road p k' =>
  rw [nxN_road]
  unfold nxS shpN
  simp only [Int.reduceEq, if_true, if_false, pOf_B]
  cases hq : rest p q with
  | none => exact ⟨fun k r h => (by cases h), fun _ => ⟨rfl, rfl⟩⟩
  | some r' => exact ⟨fun k r h => (by cases h; rfl), fun h => (by cases h)⟩
 | fork ks v =>
  unfold nxS shpN
  simp only [Int.reduceEq, if_true, if_false]
  cases q with
  | nil => exact ⟨fun k r h => (by cases h), fun _ => ⟨rfl, rfl⟩⟩
  | cons x q =>
   have hg : (ksums S ks).getD (UInt8.ofNat x.val).toNat default = ksum S (ks x) := by rw [half_byte, ksums_get]
   rw [nxN_fork]
   simp only [show pB (x :: q) = UInt8.ofNat x.val :: pB q from rfl, hg]
   unfold ksum
   by_cases hno : isNo (ks x) = true
   ·rw [if_pos hno, if_pos hno]
    refine ⟨fun k r h => (by cases h), fun _ => ⟨rfl, rfl⟩⟩
   ·rw [if_neg hno, if_neg hno]
    exact ⟨fun k r h => (by cases h; rfl), fun h => (by cases h)⟩
omit hS in
theorem kind_shp {n : Nd} (h : n ≠ .no) : (shpN S n).kind ≠ 0 := by
 cases n <;> first | exact absurd rfl h | simp [shpN]
theorem ck_way : ∀ (f : Nat) (n : Nd) (q : Pa) (d : Nat) (first : Bool), Right n d → (first = false → n ≠ .no) → q.length < f → ck S (way S f n q) first (S (hcode S n)) (pB q) = (0, Tr.get n q) := by
 intro f
 induction f with
 | zero => intro n q d first _ _ h; omega
 | succ f ih =>
  intro n q d first hr hf hq
  unfold way ck
  rw [if_pos rfl, read_hcode S hS hr]
  simp only []
  rw [if_neg (fun e => kind_shp S (hf e.2) e.1)]
  obtain ⟨k1, k2⟩ := nxS_shp S n q
  cases hn : nxN n q with
  | none =>
   obtain ⟨e1, e2⟩ := k2 hn
   simp only []
   rw [if_pos e1, if_pos trivial, e2, nxN_none hn]
  | some x =>
   obtain ⟨k, r⟩ := x
   have e := k1 k r hn
   obtain ⟨d', _, h2, h3, h4, _, h6, _⟩ := nxN_right S hr hn
   simp only [e]
   rw [if_neg (by rw [hS]; omega), ih k r d' false h2 (fun _ => h3) (by omega), h6]
omit hS in
theorem way_mem : ∀ (f : Nat) (n : Nd) (q : Pa) (d : Nat), Right n d → ∀ c ∈ way S f n q, c ∈ cds S n := by
 intro f
 induction f with
 | zero => intro n q d _ c hc; cases hc
 | succ f ih =>
  intro n q d hr c hc
  unfold way at hc
  rcases List.mem_cons.1 hc with e | e
  ·rw [e]; exact mem_head S n
  ·cases hn : nxN n q with
   | none => rw [hn] at e; cases e
   | some x =>
    obtain ⟨k, r⟩ := x
    rw [hn] at e
    obtain ⟨d', _, h2, _, _, _, _, h7⟩ := nxN_right S hr hn
    exact h7 c (ih k r d' h2 c e)
omit hS in
theorem way_len : ∀ (f : Nat) (n : Nd) (q : Pa), (way S f n q).length ≤ f := by
 intro f
 induction f with
 | zero => intro n q; exact Nat.le_refl _
 | succ f ih =>
  intro n q
  unfold way
  rw [List.length_cons]
  cases nxN n q with
  | none => simp
  | some x => have := ih x.1 x.2; simp only []; omega
end
end Ro
end Go.Proofs.Ytkbimhccaacobaa

/- A part of the proof: texts joined. -/
import Derived.Laws.Externs
import Derived.Lib.Bytealg
import Derived.Shelf.Spec.SlicesInsert
import Derived.RangeFuncIn
import Derived.RangeFuncRecord
import Derived.RangeFuncSeq
import Derived.Test.YtkbimhccaacobaaQ16fa1be6
namespace Go.Proofs.Ytkbimhccaacobaa
open Go.RowKit Rg Wm Ar
set_option maxRecDepth 100000
namespace Lf
open Tr Ro Pk
abbrev hcB (n : Nd) : List UInt8 := hcode sumB n
abbrev cdB (n : Nd) : List (List UInt8) := cds sumB n
def kidR (k : Int) (y : Rn) : List UInt8 := if k = 1 ∨ y.kind = 0 then [] else sumB (hcB (toN y))
def kidC (k : Int) (y : Rn) : List (List UInt8) := if k = 1 ∨ y.kind = 0 then [] else cdB (toN y)
theorem map_fin {α β : Type} [Inhabited α] {f : α → β} {l : List α} (h : l.length = 16) : l.map f = (List.finRange 16).map fun i => f (l.getD i.val default) := by
 apply List.ext_getElem?
 intro j
 by_cases hj : j < 16
 ·rw [List.getElem?_map, List.getElem?_eq_getElem (by omega), List.getElem?_map, List.getElem?_eq_getElem (by simp; omega)]
  simp only [List.getElem_finRange, Option.map_some, Fin.cast_mk]
  rw [List.getD_eq_getElem?_getD, List.getElem?_eq_getElem (show j < l.length by omega)]
  rfl
 ·rw [List.getElem?_eq_none (by simp; omega), List.getElem?_eq_none (by simp; omega)]
theorem codes_plain {k : Int} {p v : List UInt8} {ks : List Rn} {d : Nat} (h : rt (.mk k p v ks) d = true) (h0 : k = 0 → p = [] ∧ v = [] ∧ ks = []) :
    itmS ⟨k, p, v, ks.map (kidR k)⟩ = some (nItm sumB (toN (.mk k p v ks))) ∧ cdB (toN (.mk k p v ks)) = hcB (toN (.mk k p v ks)) :: ks.flatMap (kidC k) := by
  have h' := h
  rw [rt_eq] at h
  rw [toN_eq]
  by_cases k0 : k = 0
  · subst k0
    obtain ⟨rfl, rfl, rfl⟩ := h0 rfl
    exact ⟨rfl, rfl⟩
  rw [if_neg k0] at h
  by_cases k1 : k = 1
  · subst k1
    simp only [if_true, Bool.and_eq_true, decide_eq_true_eq] at h ⊢
    obtain ⟨⟨⟨a1, _⟩, a3⟩, a4⟩ := h
    refine ⟨?_, ?_⟩
    · unfold itmS
      simp only [Int.reduceEq, if_true, if_false]
      rw [if_pos ⟨a1, a3, a4⟩]
      rfl
    · have : ks.flatMap (kidC 1) = [] := by
        rw [List.flatMap_eq_nil_iff]
        intro y _
        unfold kidC
        rw [if_pos (.inl rfl)]
      rw [this]
      rfl
  rw [if_neg k1] at h ⊢
  by_cases k2 : k = 2
  · subst k2
    simp only [if_true, Bool.and_eq_true, decide_eq_true_eq] at h ⊢
    obtain ⟨⟨⟨⟨a1, a2⟩, a3⟩, a4⟩, a5⟩ := h
    match ks, a3 with
    | [y], _ =>
      have hy : y.kind = 3 := a4
      have hr : kidR 2 y = sumB (hcB (toN y)) := by unfold kidR; rw [if_neg (by rw [hy]; decide)]
      have hc : kidC 2 y = cdB (toN y) := by unfold kidC; rw [if_neg (by rw [hy]; decide)]
      rw [List.map_cons, List.map_nil, hr, List.flatMap_cons, List.flatMap_nil, hc, List.append_nil]
      refine ⟨?_, rfl⟩
      unfold itmS
      simp only [Int.reduceEq, if_true, if_false]
      rw [if_pos ⟨a2, a1, rfl, sumB_len _⟩]
      rfl
  rw [if_neg k2] at h ⊢
  by_cases k3 : k = 3
  · subst k3
    have hR := rt_right _ _ d (Nat.le_refl _) h'
    rw [toN_eq] at hR
    simp only [Int.reduceEq, if_true, if_false] at h hR ⊢
    simp only [Bool.and_eq_true, decide_eq_true_eq] at h
    obtain ⟨⟨⟨⟨a1, a2⟩, a3⟩, a4⟩, a5⟩ := h
    have hk := rtL_get.1 a4
    have hn : ∀ i : Fin 16, isNo (toN (ks.getD i.val default)) = decide ((ks.getD i.val default).kind = 0) := fun i => by
      have := toN_no (hk i.val (by omega))
      by_cases e : (ks.getD i.val default).kind = 0
      · rw [decide_eq_true e]; exact isNo_eq.2 (this.2 e)
      · rw [decide_eq_false e]; exact isNo_ne.2 fun e2 => e (this.1 e2)
    have e1 : ks.map (kidR 3) = ksums sumB fun i => toN (ks.getD i.val default) := by
      rw [map_fin a1]
      unfold ksums
      refine List.map_congr_left fun i _ => ?_
      unfold kidR ksum
      rw [hn i]
      by_cases e : (ks.getD i.val default).kind = 0
      · rw [if_pos (.inr e), if_pos (decide_eq_true e)]
      · rw [if_neg (by rintro (h | h)
                       · cases h
                       · exact e h), if_neg (by simpa using e)]
    have e2 : ks.flatMap (kidC 3) = (List.finRange 16).flatMap fun i => kcds sumB (toN (ks.getD i.val default)) := by
      rw [List.flatMap_def, map_fin a1, ← List.flatMap_def]
      rw [List.flatMap_def, List.flatMap_def]
      congr 1
      refine List.map_congr_left fun i _ => ?_
      unfold kidC kcds
      rw [hn i]
      by_cases e : (ks.getD i.val default).kind = 0
      · rw [if_pos (.inr e), if_pos (decide_eq_true e)]
      · rw [if_neg (by rintro (h | h)
                       · cases h
                       · exact e h), if_neg (by simpa using e)]
    rw [e1, e2]
    have hi := itm_shpN sumB sumB_len hR
    refine ⟨?_, cds_fork _ _ _⟩
    rw [← hi]
    rfl
  · rw [if_neg k3] at h; cases h
theorem cds_size : ∀ (n : Nat) (x : Rn) (d : Nat), x.size ≤ n → rt x d = true → (x.kind = 0 → x = Rn.no) → (cdB (toN x)).length ≤ x.size := by
 intro n
 induction n with
 | zero => intro x d hx; obtain ⟨k, p, v, ks⟩ := x; rw [size_eq] at hx; omega
 | succ n ih =>
  intro x d hx hr h0
  obtain ⟨k, p, v, ks⟩ := x
  have h0' : k = 0 → p = [] ∧ v = [] ∧ ks = [] := fun e => by
   have := h0 e
   unfold Rn.no at this
   cases this
   exact ⟨rfl, rfl, rfl⟩
  rw [(codes_plain hr h0').2, List.length_cons]
  rw [size_eq] at hx ⊢
  have hkr : ∀ i, i < ks.length → k ≠ 1 → (ks.getD i default).kind ≠ 0 → ∃ e, rt (ks.getD i default) e = true := fun i hi k1 hk => by
   rw [rt_eq] at hr
   by_cases k0 : k = 0
   ·have := (h0' k0).2.2; subst this; simp at hi
   rw [if_neg k0, if_neg k1] at hr
   by_cases k2 : k = 2
   ·rw [if_pos k2] at hr
    simp only [Bool.and_eq_true, decide_eq_true_eq] at hr
    exact ⟨_, rtL_get.1 hr.2 i hi⟩
   rw [if_neg k2] at hr
   by_cases k3 : k = 3
   ·rw [if_pos k3] at hr
    simp only [Bool.and_eq_true, decide_eq_true_eq] at hr
    exact ⟨_, rtL_get.1 hr.1.2 i hi⟩
   ·rw [if_neg k3] at hr; cases hr
  have key : ∀ (l : List Rn), (∀ y ∈ l, (kidC k y).length ≤ y.size) → (l.flatMap (kidC k)).length ≤ Rn.sizeL l := by
   intro l
   induction l with
   | nil => intro _; exact Nat.le_refl _
   | cons a r ihl =>
    intro hl
    rw [List.flatMap_cons, List.length_append, Rn.sizeL]
    have h1 := hl a (by simp)
    have h2 := ihl fun y hy => hl y (by simp [hy])
    omega
  have := key ks fun y hy => by
   obtain ⟨i, hi, e⟩ := List.mem_iff_getElem.1 hy
   have hg : ks.getD i default = y := by rw [List.getD_eq_getElem?_getD, List.getElem?_eq_getElem hi]; exact e
   unfold kidC
   split
   ·simp
   ·rename_i hk
    have hk1 : k ≠ 1 := fun e => hk (.inl e)
    have hk2 : y.kind ≠ 0 := fun e => hk (.inr e)
    obtain ⟨e, he⟩ := hkr i hi hk1 (by rw [hg]; exact hk2)
    rw [hg] at he
    have hs := sizeL_get hi
    rw [hg] at hs
    exact ih y e (by omega) he fun e => absurd e hk2
  omega
theorem flatM_take {α β : Type} [Inhabited α] {f : α → List β} {l : List α} {i : Nat} (h : i < l.length) : (l.take (i + 1)).flatMap f = (l.take i).flatMap f ++ f (l.getD i default) := by
 rw [List.take_succ_eq_append_getElem h, List.flatMap_append, List.flatMap_singleton, List.getD_eq_getElem?_getD, List.getElem?_eq_getElem h]
 rfl
theorem flat_len_le {α β : Type} {f : α → List β} {l : List α} (i : Nat) : ((l.take i).flatMap f).length ≤ (l.flatMap f).length := by
 conv => rhs; rw [← List.take_append_drop i l]
 rw [List.flatMap_append, List.length_append]
 omega
theorem kidC_take {k : Int} {ks : List Rn} (hk : ∀ j, j < ks.length → (kidC k (ks.getD j default)).length ≤ (ks.getD j default).size) : ∀ {i : Nat}, i < ks.length → ((ks.take i).flatMap (kidC k)).length + (ks.getD i default).size + 1 ≤ Rn.sizeL ks := by
 induction ks with
 | nil => intro i hi; simp at hi
 | cons a r ih =>
  intro i hi
  rw [Rn.sizeL]
  cases i with
  | zero => rw [List.take_zero, List.flatMap_nil, List.length_nil, List.getD_cons_zero]; omega
  | succ i =>
   rw [List.take_succ_cons, List.flatMap_cons, List.length_append, List.getD_cons_succ]
   have h0 := hk 0 (by simp)
   rw [List.getD_cons_zero] at h0
   have h1 := ih (fun j hj => by have := hk (j + 1) (by simpa using hj); rwa [List.getD_cons_succ] at this) (i := i) (by simpa using hi)
   omega
end Lf
open Go.RowKit Rg Wm Ar
set_option linter.unusedVariables false
set_option maxRecDepth 100000
namespace Lf
open Tr Ro Pk
def outM (i j g : Nat) (es : List (List UInt8)) : Mem := [(i, .b [.w j g 1 0 es.length]), (j, .w 22 1 g (es.map bV))]
def CodesC (x : Rn) : Prop := ∀ (es : List (List UInt8)) (g : Nat), es.length + x.size < 1000000000 →
 LM Try.prog 52 [rnV x, .p 1000 0] (outM 1000 1001 g es) fun o m => o = .ret (bV (hcB (toN x))) ∧ m = outM 1000 1001 (g + (cdB (toN x)).length) (es ++ cdB (toN x))
theorem set_mid {α : Type} (es : List α) (a b : α) (K : List α) : (es ++ [a] ++ K).set es.length b = es ++ b :: K := by
 rw [List.append_assoc, List.set_append_right _ _ (Nat.le_refl _), Nat.sub_self]
 rfl
theorem bgo_mapb : ∀ l : List UInt8, V.bare.go (l.map bK) = some (l.map bK)
 | [] => rfl
 | a :: r => by rw [List.map_cons, V.bare.go, bgo_mapb r]; rfl
namespace Rw
set_option maxHeartbeats 8000000 in
theorem codes_ : ∀ (n : Nat) (x : Rn) (d : Nat), x.size ≤ n → n < 20000000 → rt x d = true → (x.kind = 0 → x = Rn.no) → CodesC x := by
 intro n
 induction n with
 | zero => intro x d hx; obtain ⟨k, p, v, ks⟩ := x; rw [size_eq] at hx; omega
 | succ n ih =>
  intro x d hx hn hr h0 es g hes
  have hsz0 := cds_size _ x d (Nat.le_refl _) hr h0
  obtain ⟨k, p, v, ks⟩ := x
  have h0' : k = 0 → p = [] ∧ v = [] ∧ ks = [] := fun e => by
   have := h0 e
   unfold Rn.no at this
   cases this
   exact ⟨rfl, rfl, rfl⟩
  obtain ⟨q1, q2⟩ := codes_plain hr h0'
  rw [q2, List.length_cons] at hsz0
  rw [q2]
  have hlen := hcode_len sumB sumB_len (rt_right _ _ d (Nat.le_refl _) hr)
  have hcE : hcB (toN (.mk k p v ks)) = enc (nItm sumB (toN (.mk k p v ks))) := rfl
  have kid : ∀ i, i < ks.length → ¬ (k = 1 ∨ (ks.getD i default).kind = 0) → CodesC (ks.getD i default) ∧ (cdB (toN (ks.getD i default))).length ≤ (ks.getD i default).size ∧ (hcB (toN (ks.getD i default))).length ≤ 200000 := fun i hi hk => by
   have hk1 : k ≠ 1 := fun e => hk (.inl e)
   have hk2 : (ks.getD i default).kind ≠ 0 := fun e => hk (.inr e)
   have hs := sizeL_get hi
   rw [size_eq] at hx
   obtain ⟨e, he⟩ : ∃ e, rt (ks.getD i default) e = true := by
    rw [rt_eq] at hr
    by_cases k0 : k = 0
    ·have := (h0' k0).2.2; subst this; simp at hi
    rw [if_neg k0, if_neg hk1] at hr
    by_cases k2 : k = 2
    ·rw [if_pos k2] at hr
     simp only [Bool.and_eq_true, decide_eq_true_eq] at hr
     exact ⟨_, rtL_get.1 hr.2 i hi⟩
    rw [if_neg k2] at hr
    by_cases k3 : k = 3
    ·rw [if_pos k3] at hr
     simp only [Bool.and_eq_true, decide_eq_true_eq] at hr
     exact ⟨_, rtL_get.1 hr.1.2 i hi⟩
    ·rw [if_neg k3] at hr; cases hr
   exact ⟨ih _ e (by omega) (by omega) he fun e => absurd e hk2, cds_size _ _ e (Nat.le_refl _) he fun e => absurd e hk2, hcode_len sumB sumB_len (rt_right _ _ e (Nat.le_refl _) he)⟩
  have hkc : ∀ i, i < ks.length → ((ks.take i).flatMap (kidC k)).length + (ks.getD i default).size + 1 ≤ Rn.sizeL ks := fun i hi => kidC_take (fun j hj => by
   by_cases hk : k = 1 ∨ (ks.getD j default).kind = 0
   ·rw [show kidC k (ks.getD j default) = [] from if_pos hk]; exact Nat.zero_le _
   ·rw [show kidC k (ks.getD j default) = cdB (toN (ks.getD j default)) from if_neg hk]; exact (kid j hj hk).2.1) hi
  clear ih h0 h0'
  rw [size_eq] at hes hx hsz0
  have hkl := Tr.sizeL_len ks
  obtain ⟨_, cC⟩ := Code_ ⟨k, p, v, ks.map (kidR k)⟩ (by show p.length < _; omega) (by show v.length < _; omega) (by show (ks.map (kidR k)).length < _; rw [List.length_map]; omega)
  have cD := cC _ q1
  rw [← hcE] at cD
  clear cC q1 hcE q2 hr
  generalize hcB (toN (.mk k p v ks)) = C at *
  simp only [shV, shC_eq] at cD
  have hm1 : es.length + [V.s none []].length = (es ++ [([] : List UInt8)]).length := by rw [List.length_append]; rfl
  have hz1 : es.map bV ++ [V.s none []] = (es ++ [([] : List UInt8)]).map bV := by rw [List.map_append]; rfl
  unfold outM
  obtain ⟨G', hG'⟩ : ∃ G', G' = g + (C :: ks.flatMap (kidC k)).length := ⟨_, rfl⟩
  obtain ⟨Z, hZ⟩ : ∃ Z, Z = es ++ C :: ks.flatMap (kidC k) := ⟨_, rfl⟩
  rw [← hG', ← hZ]
  simp only [rnV, rnC_eq]
  have hrf := rnC_refs
  have hnz : NilElt := ⟨trivial⟩
  have hfb : FrzBox 10 9 := ⟨⟩
  have hes2 : (es ++ [([] : List UInt8)]).length ≤ 1000000000 := by rw [← hm1]; show es.length + 1 ≤ _; omega
  refine LM.enter tt Try.func52 rfl rfl rfl (by kernel_rfl) rfl rfl rfl (fun o mo h => by rw [h.2]; rfl) fun F _ => ?_
  refine wk ?_ trueW trueW
  refine LC.nilcell 6 3 60 22 1 rfl rfl rfl (by decide) rfl ?_
  refine LC.loop5 (fun i R L G (_u4 : Unit) => [(1, .p 1000 0), (2, .p 2 0), (5, .k (.int .i64 ((es.length : Nat) : Int))), (6, .p 6 0), (31, .s none (ks.map rnV)), (32, .k (.int .i64 ((ks.length : Nat) : Int))), (33, .k (.int .i64 ((i : Nat) : Int)))]) (fun i R L G (_u4 : Unit) => [(1000, .b [.w 1001 G 1 0 L.length]), (1001, .w 22 1 G (L.map bV)), (2, .b [.k (.int .i64 k), bV p, bV v, .s none (ks.map rnV)]), (6, .b [.k (.int .i64 k), bV p, bV v, .s (some 60) (R.map bV)]), (60, .r 22 1 R.length)]) (fun i R L G (_u4 : Unit) => i ≤ ks.length ∧ R = (ks.take i).map (kidR k) ∧ L = es ++ [[]] ++ (ks.take i).flatMap (kidC k) ∧ G = g + 1 + ((ks.take i).flatMap (kidC k)).length) ((ks.length - ·)) (0) ([]) (es ++ [([] : List UInt8)]) (g + 1) () ⟨by omega, rfl, by simp, rfl⟩ ⟨rfl, rfl, rfl, rfl, rfl, rfl, rfl, trivial⟩ ⟨rfl, rfl, rfl, rfl, rfl, trivial⟩ rfl rfW rfW ?_
  rintro i R L G _ ⟨hi, hR, hL, hG⟩
  have hRl : R.length = i := by rw [hR, List.length_map, List.length_take]; omega
  have hKl : ((ks.take i).flatMap (kidC k)).length ≤ (ks.flatMap (kidC k)).length := flat_len_le i
  have hLl : L.length = es.length + 1 + ((ks.take i).flatMap (kidC k)).length := by rw [hL, List.length_append, List.length_append]; rfl
  rcases Nat.lt_or_ge i ks.length with h | h
  ·have ld1 := @rn_kind
   have hk4 := rnC_len (ks.getD i default)
   have hR2 : R ++ [kidR k (ks.getD i default)] = (ks.take (i + 1)).map (kidR k) := by rw [hR]; exact take_map h
   have hL2 : L ++ kidC k (ks.getD i default) = es ++ [[]] ++ (ks.take (i + 1)).flatMap (kidC k) := by rw [hL, flatM_take h, List.append_assoc (es ++ [[]])]
   have hG2 : G + (kidC k (ks.getD i default)).length = g + 1 + ((ks.take (i + 1)).flatMap (kidC k)).length := by rw [hG, flatM_take h, List.length_append]; omega
   have hrz : R.map bV ++ [V.s none []] = (R ++ [([] : List UInt8)]).map bV := by rw [List.map_append]; rfl
   have hrl : R.length + [V.s none []].length = (R ++ [([] : List UInt8)]).length := by rw [List.length_append]; rfl
   by_cases hk : k = 1 ∨ (ks.getD i default).kind = 0
   ·have eR : kidR k (ks.getD i default) = [] := if_pos hk
    have eC : kidC k (ks.getD i default) = [] := if_pos hk
    rw [eR] at hR2
    rw [eC, List.append_nil] at hL2
    rw [eC, List.length_nil, Nat.add_zero] at hG2
    have hok : i + 1 ≤ ks.length ∧ R ++ [[]] = (ks.take (i + 1)).map (kidR k) ∧ L = es ++ [[]] ++ (ks.take (i + 1)).flatMap (kidC k) ∧ G = g + 1 + ((ks.take (i + 1)).flatMap (kidC k)).length := ⟨h, hR2, hL2, hG2⟩
    clear kid hR hL hG hR2 hL2 hG2 eR eC hG' hZ
    by_cases hk1 : k = 1
    ·exact wk trueW trueW trueW
    ·have hk2 : (ks.getD i default).kind = 0 := hk.resolve_left hk1
     exact wk trueW trueW trueW
   ·obtain ⟨k1, k2, k3⟩ := kid i h hk
    have eR : kidR k (ks.getD i default) = sumB (hcB (toN (ks.getD i default))) := if_neg hk
    have eC : kidC k (ks.getD i default) = cdB (toN (ks.getD i default)) := if_neg hk
    rw [eR] at hR2
    rw [eC] at hL2 hG2
    have hok : i + 1 ≤ ks.length ∧ R ++ [sumB (hcB (toN (ks.getD i default)))] = (ks.take (i + 1)).map (kidR k) ∧ L ++ cdB (toN (ks.getD i default)) = es ++ [[]] ++ (ks.take (i + 1)).flatMap (kidC k) ∧ G + (cdB (toN (ks.getD i default))).length = g + 1 + ((ks.take (i + 1)).flatMap (kidC k)).length := ⟨h, hR2, hL2, hG2⟩
    have hs := sizeL_get h
    have hkci := hkc i h
    have c1 := k1 L G (by omega)
    unfold outM at c1
    have c2 := Sp.Sum (hcB (toN (ks.getD i default))) (by omega)
    have hsl := sumB_len (hcB (toN (ks.getD i default)))
    have hq : CutQ ((sumB (hcB (toN (ks.getD i default)))).map bK) 32 (sumB (hcB (toN (ks.getD i default)))) := ⟨by rw [List.take_of_length_le (by rw [List.length_map, hsl]; omega)], hsl⟩
    have hk1 : ¬ k = 1 := fun e => hk (.inl e)
    have hk2 : ¬ (ks.getD i default).kind = 0 := fun e => hk (.inr e)
    clear kid hR hL hG hR2 hL2 hG2 eR eC hG' hZ k1
    have hbg := bgo_mapb (sumB (hcB (toN (ks.getD i default))))
    clear cD
    generalize hcB (toN (ks.getD i default)) = KC at *
    generalize cdB (toN (ks.getD i default)) = KD at *
    generalize sumB KC = KS at *
    exact wk trueW trueW trueW
  ·obtain rfl : i = ks.length := by omega
   rw [List.take_length] at hR hL hG hLl
   subst hR
   have e1 : Z = L.set es.length C := by rw [hZ, hL, set_mid]
   have e2 : Z.length = L.length := by rw [e1, List.length_set]
   have e3 : G' = G := by rw [hG', hG, List.length_cons]; omega
   rw [e2, e1, e3]
   have c1 := cD
   clear e1 e2 e3 hZ hG' hL hG
   exact wk trueW trueW trueW
end Rw
end Lf
open Go.RowKit Rg Wm Ar
set_option linter.unusedVariables false
set_option maxRecDepth 100000
namespace Lf
open Tr Ro Pk
abbrev hashV (h : List UInt8) : V := .a (h.map bK)
abbrev txV (l : List (List UInt8)) : V := .s none (l.map bV)
theorem codes_at {x : Rn} (h : CodesC x) (es : List (List UInt8)) (g : Nat) (hb : es.length + x.size < 1000000000) {i j : Nat} (hij : i ≠ j) :
  LM Try.prog 52 [rnV x, .p i 0] (outM i j g es) fun o m => o = .ret (bV (hcB (toN x))) ∧ m = outM i j (g + (cdB (toN x)).length) (es ++ cdB (toN x)) :=
 LM.gen [1000, 1001] [i, j] (by simp) (by simpa using hij) rfl (h es g hb) fun ρ hρ => by
  simp at hρ
  obtain ⟨e1, e2⟩ := hρ
  refine ⟨?_, ?_, ?_, ?_⟩
  ·show [(rnV x).ren ρ.f, .p (ρ.f 1000) 0] = _
   rw [ren_refs (rnV x) (rnC_refs [] x), e1]
  ·simp [outM, Mem.ren, M.ren, V.ren, e1, e2]
  ·rfl
  ·simp [outM, Mem.ren, M.ren, V.ren, e1, e2]
theorem toN_zero {x : Rn} (h : x.kind = 0) : toN x = .no := by
 obtain ⟨k, p, v, ks⟩ := x
 have : k = 0 := h
 subst this
 rw [toN_eq]; rfl
namespace Rw
set_option maxHeartbeats 4000000 in
theorem Codes_ok (x : Rn) (hx : x.size < 20000000) (hr : rt x 0 = true) : LF Try.prog 20 [rnV x] (fun _ => .t [txV (cdB (toN x)), .k (.int .i64 0)]) none := by
 have c1 := Te.Right_ x (by omega)
 rw [hr] at c1
 have hk4 := rnC_len x
 have hrf := rnC_refs
 have ld1 := @rn_kind
 have hfz : FrzAt 2 70 := ⟨⟩
 have hnbf : NilBuf 6 4 0 70 22 1 := ⟨trivial⟩
 by_cases hk : x.kind = 0
 ·have c2 := codes_at (codes_ 1 Rn.no 0 (by rw [show Rn.no = .mk 0 [] [] [] from rfl, size_eq]; decide) (by decide) rfl (fun _ => rfl)) [] 0 (by rw [show Rn.no = .mk 0 [] [] [] from rfl, size_eq]; decide) (i := 4) (j := 70) (by decide)
  rw [toN_zero hk]
  rw [show toN Rn.no = .no from rfl] at c2
  rw [show rnV Rn.no = .a [.k (.int .i64 0), bV [], bV [], .s none []] by rw [show Rn.no = .mk 0 [] [] [] from rfl]; unfold rnV; rw [rnC_eq]; rfl] at c2
  unfold outM at c2
  have hl : (cdB .no).length = 1 := rfl
  generalize hcB .no = C at *
  generalize cdB .no = L at *
  refine LFx.mk' tt Try.func20 rfl rfl rfl (by kernel_rfl) rfl rfl fun F => ?_
  exact wk trueW trueW trueW
 ·have c2 := codes_at (codes_ x.size x 0 (Nat.le_refl _) hx hr (fun e => absurd e hk)) [] 0 (by simp only [List.length_nil]; omega) (i := 4) (j := 70) (by decide)
  have hl := cds_size _ x 0 (Nat.le_refl _) hr (fun e => absurd e hk)
  unfold outM at c2
  generalize hcB (toN x) = C at *
  generalize cdB (toN x) = L at *
  refine LFx.mk' tt Try.func20 rfl rfl rfl (by kernel_rfl) rfl rfl fun F => ?_
  exact wk trueW trueW trueW
theorem hcB_len {n : Nd} {d : Nat} (h : Right n d) : (hcB n).length ≤ 200000 := hcode_len sumB sumB_len h
theorem cdB_zero (n : Nd) : 0 < (cdB n).length ∧ (cdB n).getD 0 default = hcB n := by
 obtain ⟨r, h⟩ := cds_head sumB n
 unfold cdB
 rw [h]
 exact ⟨by simp, rfl⟩
set_option maxHeartbeats 4000000 in
theorem Root_ok (x : Rn) (hx : x.size < 20000000) (hr : rt x 0 = true) : LF Try.prog 19 [rnV x] (fun _ => .t [hashV (sumB (hcB (toN x))), .k (.int .i64 0)]) none := by
 have c1 := Codes_ok x hx hr
 have hl := hcB_len (rt_right _ _ 0 (Nat.le_refl _) hr)
 obtain ⟨h0, h1⟩ := cdB_zero (toN x)
 rw [← h1] at hl ⊢
 have c2 := Sp.Sum ((cdB (toN x)).getD 0 default) (by omega)
 have hsl := sumB_len ((cdB (toN x)).getD 0 default)
 have hk4 := rnC_len x
 have hrf := rnC_refs
 clear h1 hr
 generalize cdB (toN x) = L at *
 generalize sumB (L.getD 0 default) = SS at *
 refine LFx.mk' tt Try.func19 rfl rfl rfl (by kernel_rfl) rfl rfl fun F => ?_
 exact wk trueW trueW trueW
end Rw
end Lf
open Go.RowKit Rg Wm Ar
set_option maxRecDepth 100000
namespace Lf
namespace Wo
theorem part_one {ti : TI} {cs r : List V} {u : V} {off : Nat} (hd : ti.d.agg = false) (h : cs.drop off = u :: r) : ti.part cs off = some u := by
 have e : cs[off]? = some u := by
  have := congrArg (·[0]?) h
  simpa using this
 unfold TI.part
 rw [hd]
 exact e
theorem part_run {ti : TI} {cs p : List V} {off n : Nat} (hd : ti.d.agg = true) (hs : ti.size = n) (hp : p.length = n) (hle : off + n ≤ cs.length) (h : (cs.drop off).take n = p) : ti.part cs off = some (.a p) := by
 unfold TI.part
 rw [hd, hs]
 simp only [cond_true, h]
 have hb : Nat.ble (off + n) cs.length = true := Nat.ble_eq_true_of_le hle
 rw [hb]
 cases hc : (off.beq 0 && cs.length.beq n) with
 | false => rfl
 | true =>
  rw [Bool.and_eq_true] at hc
  have h1 := Nat.eq_of_beq_eq_true hc.1
  have h2 := Nat.eq_of_beq_eq_true hc.2
  rw [h1, List.drop_zero, List.take_of_length_le (Nat.le_of_eq h2)] at h
  rw [h]; rfl
theorem refs_b (m : List (Nat × M)) : ∀ l : List UInt8, V.refs.go m (l.map bK) = true
 | [] => rfl
 | x :: r => by rw [List.map_cons, V.refs.go, refs_b m r]; rfl
theorem refs_ap (m : List (Nat × M)) : ∀ (a b : List V), V.refs.go m a = true → V.refs.go m b = true → V.refs.go m (a ++ b) = true
 | [], _, _, h => h
 | x :: r, b, h1, h2 => by
  rw [List.cons_append, V.refs.go]
  rw [V.refs.go, Bool.and_eq_true] at h1
  rw [h1.1, refs_ap m r b h1.2 h2]; rfl
theorem bare_b : ∀ l : List UInt8, V.bare.go (l.map bK) = some (l.map bK)
 | [] => rfl
 | x :: r => by rw [List.map_cons, V.bare.go, bare_b r]; rfl
theorem bare_ap : ∀ (a b : List V), V.bare.go a = some a → V.bare.go b = some b → V.bare.go (a ++ b) = some (a ++ b)
 | [], _, _, h => h
 | x :: r, b, h1, h2 => by
  rw [V.bare.go] at h1
  rw [List.cons_append, V.bare.go]
  cases hx : x.bare with
  | none => rw [hx] at h1; simp at h1
  | some y =>
   cases hr : V.bare.go r with
   | none => rw [hx, hr] at h1; simp at h1
   | some r' =>
    rw [hx, hr] at h1
    simp only [Option.some.injEq, List.cons.injEq] at h1
    obtain ⟨rfl, rfl⟩ := h1
    rw [bare_ap r' b hr h2]
theorem cv_b (keep : Nat → Bool) (nn : Bool) : ∀ l : List UInt8, V.cv.go keep nn (l.map bK) = l.map bK
 | [] => rfl
 | x :: r => by rw [List.map_cons, V.cv.go, cv_b keep nn r]; rfl
theorem cv_ap (keep : Nat → Bool) (nn : Bool) : ∀ (a b : List V), V.cv.go keep nn (a ++ b) = V.cv.go keep nn a ++ V.cv.go keep nn b
 | [], _ => rfl
 | x :: r, b => by rw [List.cons_append, V.cv.go, cv_ap keep nn r b]; rfl
theorem len_bs (l : List UInt8) {n : Nat} (h : l.length = n) : (l.map bK).length = n := by rw [List.length_map, h]
theorem drop_to {a b : List V} {n : Nat} (h : a.length = n) (m : Nat) : (a ++ b).drop (n + m) = b.drop m := by
 subst h; rw [List.drop_append]; simp
theorem limbs4 (x : Nat) : limbs x = [limb x 0, limb x 1, limb x 2, limb x 3] := by unfold limbs; rfl
abbrev Slot := Nat × Nat
def slC (s : Slot) : List V := (limbs s.1).map uK ++ (limbs s.2).map uK
theorem slC_eq (s : Slot) : slC s = (limbs s.1).map uK ++ (limbs s.2).map uK := rfl
theorem slC_len (s : Slot) : (slC s).length = 8 := by rw [slC_eq, limbs4, limbs4]; rfl
theorem sl_k {ti : TI} {s : Slot} (hd : ti.d.agg = true) (hs : ti.size = 4) : ti.part (slC s) 0 = some (wV s.1) := part_run hd hs (by rw [limbs4]; rfl) (by rw [slC_len]; omega) (by rw [slC_eq, limbs4, limbs4]; rfl)
theorem sl_v {ti : TI} {s : Slot} (hd : ti.d.agg = true) (hs : ti.size = 4) : ti.part (slC s) 4 = some (wV s.2) := part_run hd hs (by rw [limbs4]; rfl) (by rw [slC_len]; omega) (by rw [slC_eq, limbs4, limbs4]; rfl)
theorem slC_refs (m : List (Nat × M)) (s : Slot) : V.refs.go m (slC s) = true := by rw [slC_eq, limbs4, limbs4]; rfl
theorem slC_bare (s : Slot) : V.bare.go (slC s) = some (slC s) := by rw [slC_eq, limbs4, limbs4]; rfl
theorem slC_cv (keep : Nat → Bool) (nn : Bool) (s : Slot) : V.cv.go keep nn (slC s) = slC s := by rw [slC_eq, limbs4, limbs4]; rfl
attribute [irreducible] slC
abbrev slV (s : Slot) : V := .a (slC s)
abbrev slsV (l : List Slot) : V := .s none (l.map slV)
structure Ac where
 nonce : Nat
 money : Nat
 code : List UInt8
 slots : List Slot
 deriving Inhabited, DecidableEq
def acS (n m : Nat) (c s : V) : List V := uK n :: ((limbs m).map uK ++ [c, s])
theorem acS_eq (n m : Nat) (c s : V) : acS n m c s = uK n :: ((limbs m).map uK ++ [c, s]) := rfl
section
variable {ti : TI} {n m : Nat} {c s : V}
theorem acS_len : (acS n m c s).length = 7 := by rw [acS_eq, limbs4]; rfl
theorem ac_n (hd : ti.d.agg = false) : ti.part (acS n m c s) 0 = some (uK n) := part_one hd rfl
theorem ac_m (hd : ti.d.agg = true) (hs : ti.size = 4) : ti.part (acS n m c s) 1 = some (wV m) := part_run hd hs (by rw [limbs4]; rfl) (by rw [acS_len]; omega) (by rw [acS_eq, limbs4]; rfl)
theorem ac_c (hd : ti.d.agg = false) : ti.part (acS n m c s) 5 = some c := part_one (r := [s]) hd (by rw [acS_eq, limbs4]; rfl)
theorem ac_s (hd : ti.d.agg = false) : ti.part (acS n m c s) 6 = some s := part_one (r := []) hd (by rw [acS_eq, limbs4]; rfl)
def setA (o : Nat) (us : List V) (c s : V) : Option (V × V) :=
 match us with
 | [v] => cond (Nat.beq o 5) (some (v, s)) (cond (Nat.beq o 6) (some (c, v)) none)
 | _ => none
theorem ac_set {o : Nat} {us : List V} {c' s' : V} (h : setA o us c s = some (c', s')) : splice (acS n m c s) o us = acS n m c' s' := by
 unfold setA at h
 split at h
 case h_2 => cases h
 rename_i v
 cases h1 : Nat.beq o 5 with
 | true =>
  obtain rfl := Nat.eq_of_beq_eq_true h1
  rw [h1] at h
  cases h
  rw [acS_eq, acS_eq, limbs4]; rfl
 | false =>
  rw [h1] at h
  cases h2 : Nat.beq o 6 with
  | false => rw [h2] at h; cases h
  | true =>
  obtain rfl := Nat.eq_of_beq_eq_true h2
  rw [h2] at h
  cases h
  rw [acS_eq, acS_eq, limbs4]; rfl
end
theorem acS_refs (k : List (Nat × M)) (n m : Nat) (c s : List V) : V.refs.go k (acS n m (.s none c) (.s none s)) = true := by rw [acS_eq, limbs4]; rfl
theorem acS_bare (n m : Nat) (c s : List V) : V.bare.go (acS n m (.s none c) (.s none s)) = some (acS n m (.s none c) (.s none s)) := by rw [acS_eq, limbs4]; rfl
theorem acS_cv (keep : Nat → Bool) (nn : Bool) (n m : Nat) (c s : V) : V.cv.go keep nn (acS n m c s) = acS n m (c.cv keep nn) (s.cv keep nn) := by rw [acS_eq, acS_eq, limbs4]; rfl
attribute [irreducible] acS
abbrev acC (a : Ac) : List V := acS a.nonce a.money (bV a.code) (slsV a.slots)
abbrev acV (a : Ac) : V := .a (acC a)
structure Ho where
 addr : List UInt8
 acc : Ac
 deriving Inhabited, DecidableEq
def hoS (a : List UInt8) (n m : Nat) (c s : V) : List V := a.map bK ++ acS n m c s
theorem hoS_eq (a : List UInt8) (n m : Nat) (c s : V) : hoS a n m c s = a.map bK ++ acS n m c s := rfl
section
variable {ti : TI} {a : List UInt8} {n m : Nat} {c s : V}
theorem hoS_len (k : a.length = 8) : (hoS a n m c s).length = 15 := by rw [hoS_eq, List.length_append, List.length_map, k, acS_len]
theorem ho_a (k : a.length = 8) (hd : ti.d.agg = true) (hs : ti.size = 8) : ti.part (hoS a n m c s) 0 = some (hashV a) :=
 part_run hd hs (len_bs _ k) (by rw [hoS_len k]; omega) (by rw [hoS_eq, List.drop_zero, List.take_append_of_le_length (by rw [len_bs _ k]; omega), List.take_of_length_le (by rw [len_bs _ k]; omega)])
theorem ho_ac (k : a.length = 8) (hd : ti.d.agg = true) (hs : ti.size = 7) : ti.part (hoS a n m c s) 8 = some (.a (acS n m c s)) :=
 part_run hd hs acS_len (by rw [hoS_len k]; omega) (by rw [hoS_eq]; rw [show (8 : Nat) = 8 + 0 from rfl, drop_to (len_bs _ k) 0, List.drop_zero, List.take_of_length_le (by rw [acS_len]; omega)])
theorem ho_c (k : a.length = 8) (hd : ti.d.agg = false) : ti.part (hoS a n m c s) 13 = some c := part_one (r := [s]) hd (by rw [hoS_eq, show (13 : Nat) = 8 + 5 from rfl, drop_to (len_bs _ k) 5, acS_eq, limbs4]; rfl)
theorem ho_s (k : a.length = 8) (hd : ti.d.agg = false) : ti.part (hoS a n m c s) 14 = some s := part_one (r := []) hd (by rw [hoS_eq, show (14 : Nat) = 8 + 6 from rfl, drop_to (len_bs _ k) 6, acS_eq, limbs4]; rfl)
end
theorem hoS_refs (k : List (Nat × M)) (a : List UInt8) (n m : Nat) (c s : List V) : V.refs.go k (hoS a n m (.s none c) (.s none s)) = true := refs_ap k _ _ (refs_b k _) (acS_refs k n m c s)
theorem hoS_bare (a : List UInt8) (n m : Nat) (c s : List V) : V.bare.go (hoS a n m (.s none c) (.s none s)) = some (hoS a n m (.s none c) (.s none s)) := bare_ap _ _ (bare_b _) (acS_bare n m c s)
theorem hoS_cv (keep : Nat → Bool) (nn : Bool) (a : List UInt8) (n m : Nat) (c s : V) : V.cv.go keep nn (hoS a n m c s) = hoS a n m (c.cv keep nn) (s.cv keep nn) := by rw [hoS_eq, cv_ap, cv_b, acS_cv]; rfl
attribute [irreducible] hoS
abbrev hoC (h : Ho) : List V := hoS h.addr h.acc.nonce h.acc.money (bV h.acc.code) (slsV h.acc.slots)
abbrev hoV (h : Ho) : V := .a (hoC h)
abbrev hosV (l : List Ho) : V := .s none (l.map hoV)
structure Le where
 nonce : Nat
 money : Nat
 slots : List UInt8
 code : List UInt8
 deriving Inhabited, DecidableEq
def leC (l : Le) : List V := uK l.nonce :: ((limbs l.money).map uK ++ (l.slots.map bK ++ l.code.map bK))
theorem leC_eq (l : Le) : leC l = uK l.nonce :: ((limbs l.money).map uK ++ (l.slots.map bK ++ l.code.map bK)) := rfl
theorem le_drop (l : Le) (k : Nat) : (leC l).drop (5 + k) = (l.slots.map bK ++ l.code.map bK).drop k := by
 rw [leC_eq, Nat.add_comm, show k + 5 = (4 + k) + 1 from by omega, List.drop_succ_cons, drop_to (n := 4) (by rw [List.length_map, limbs_len]) k]
theorem leC_len {l : Le} (k1 : l.slots.length = 32) (k2 : l.code.length = 32) : (leC l).length = 69 := by
 rw [leC_eq, List.length_cons, List.length_append, List.length_append, List.length_map, List.length_map, List.length_map, limbs_len, k1, k2]
theorem le_n {ti : TI} {l : Le} (hd : ti.d.agg = false) : ti.part (leC l) 0 = some (uK l.nonce) := part_one hd rfl
theorem le_m {ti : TI} {l : Le} (hd : ti.d.agg = true) (hs : ti.size = 4) : ti.part (leC l) 1 = some (wV l.money) := part_run hd hs (by rw [limbs4]; rfl) (by rw [leC_eq, limbs4]; simp) (by rw [leC_eq, limbs4]; rfl)
theorem leC_refs (m : List (Nat × M)) (l : Le) : V.refs.go m (leC l) = true := by rw [leC_eq, V.refs.go, refs_ap m _ _ (by rw [limbs4]; rfl) (refs_ap m _ _ (refs_b m _) (refs_b m _))]; rfl
theorem leC_bare (l : Le) : V.bare.go (leC l) = some (leC l) := by rw [leC_eq, V.bare.go, bare_ap _ _ (by rw [limbs4]; rfl) (bare_ap _ _ (bare_b _) (bare_b _))]; rfl
theorem leC_cv (keep : Nat → Bool) (nn : Bool) (l : Le) : V.cv.go keep nn (leC l) = leC l := by rw [leC_eq, V.cv.go, cv_ap, cv_ap, cv_b, cv_b, limbs4]; rfl
attribute [irreducible] leC
abbrev leV (l : Le) : V := .a (leC l)
end Wo
end Lf
open Go.RowKit Rg Wm Ar
set_option linter.unusedVariables false
set_option maxRecDepth 100000
namespace Lf
namespace Wo
theorem run_loadBytes {P : Program} {w : World} {b : Nat} : ∀ (l : List UInt8) (o : Nat) (acc : List UInt8), (∀ j u, (l.map Rp.byteV)[j]? = some u → w.cell? ⟨b, o + j, none⟩ = some u) → (Extern.Bytes.loadBytes ⟨b, o, none⟩ l.length ⟨acc.toArray⟩).run P w = .ok ⟨(acc ++ l).toArray⟩ w
 | [], o, acc, _ => by rw [List.append_nil]; rfl
 | x :: r, o, acc, h => by
  have h0 := h 0 (Rp.byteV x) rfl
  rw [Nat.add_zero] at h0
  have ih := run_loadBytes (P := P) (w := w) (b := b) r (o + 1) (acc ++ [x]) fun j u hj => by
   have := h (j + 1) u (by simpa using hj)
   rw [show o + 1 + j = o + (j + 1) from by omega]
   exact this
  rw [List.length_cons]
  unfold Extern.Bytes.loadBytes
  rw [Sem.run_bind, run_load, h0]
  simp only [Result.andThen, Rp.byteV]
  have e1 : (ByteArray.mk acc.toArray).push ((x.toNat : Int).toNat.toUInt8) = ⟨(acc ++ [x]).toArray⟩ := by
   have : ((x.toNat : Int).toNat.toUInt8) = x := by simp
   rw [this]
   simp [ByteArray.push]
  rw [e1]
  have e2 : acc ++ x :: r = (acc ++ [x]) ++ r := by simp
  rw [e2]
  exact ih
theorem run_bytesOf {P : Program} {w : World} {B n c : Nat} {a : Option Addr} {l : List UInt8} (h : Rp.Sl w B 1 a n c (l.map Rp.byteV)) : (Extern.Bytes.bytesOf (.slice a n c)).run P w = .ok ⟨l.toArray⟩ w := by
 have hn : l.length = n := h.len
 obtain ⟨_, h2, _, h4, h5⟩ := h
 cases a with
 | none =>
  have := h4 rfl
  obtain rfl : l = [] := List.eq_nil_of_length_eq_zero (by omega)
  rfl
 | some a =>
  rcases Nat.eq_zero_or_pos n with h0 | h0
  ·obtain rfl : l = [] := List.eq_nil_of_length_eq_zero (by omega)
   subst h0
   rfl
  ·obtain ⟨b, o, e, _, hc⟩ := h5 h0
   cases e
   subst hn
   exact run_loadBytes (P := P) (w := w) l o [] hc
theorem run_compareBytes {P : Program} {w : World} {B n c B' n' c' : Nat} {a a' : Option Addr} {l l' : List UInt8} (h : Rp.Sl w B 1 a n c (l.map Rp.byteV)) (h' : Rp.Sl w B' 1 a' n' c' (l'.map Rp.byteV)) :
  (Extern.BytealgCompare.compare #[.slice a n c, .slice a' n' c']).run P w = .ok (.int .i64 (Lib.compareBytes l l')) w := by
 change Sem.run P (do pure (goInt (Extern.BytealgCompare.cmp (← Extern.Bytes.bytesOf (.slice a n c)) (← Extern.Bytes.bytesOf (.slice a' n' c'))))) w = _
 rw [Sem.run_bind, run_bytesOf h]
 simp only [Result.andThen]
 rw [Sem.run_bind, run_bytesOf h']
 simp only [Result.andThen, Sem.run_pure]
 rw [Lib.cmp_eq]
 rfl
theorem rep_bytes {w : World} {g : Gh} {t : Option Nat} {l : List UInt8} {y : Value} (hr0 : Rep w g (.s t (l.map bK)) y) : ∃ a0 n0 c0, y = .slice a0 n0 c0 ∧ Rp.Sl w w.heap.size 1 a0 n0 c0 (l.map Rp.byteV) := by
 have hcell : ∀ e ∈ l.map bK, e.cells.length = 1 := fun e he => by obtain ⟨z, _, rfl⟩ := List.mem_map.1 he; rfl
 generalize hes : l.map bK = es at hr0
 cases hr0 with
 | s0 =>
  have : l = [] := by simpa using hes
  subst this
  exact ⟨none, 0, 0, rfl, rfl, Nat.le_refl _, by simp [maxLen], fun _ => rfl, fun h => by omega⟩
 | se a1 =>
  have : l = [] := by simpa using hes
  subst this
  exact ⟨some a1, 0, 0, rfl, rfl, Nat.le_refl _, by simp [maxLen], (fun h => by cases h), fun h => by omega⟩
 | @s _ _ _ b off cap size xs hn hm hp hsz hxx hc ht =>
  subst hes
  refine ⟨_, _, cap, rfl, by simp, hn, hm, (fun h => by cases h), fun _ => ⟨b, off, rfl, ?_, fun j u hj => ?_⟩⟩
  ·rename_i hpos
   have : (l.map bK).flatMap V.cells ≠ [] := by
    cases l with
    | nil => simp at hpos
    | cons a r => simp [bK, V.cells]
   obtain ⟨u, r, hur⟩ := List.exists_cons_of_ne_nil this
   exact (hxx 0 u (by rw [hur]; rfl)).1
  ·rw [List.getElem?_map] at hj
   obtain ⟨z, hz, rfl⟩ := Option.map_eq_some_iff.1 hj
   have hf : ((l.map bK).flatMap V.cells)[j]? = some (bK z) := by
    have := flat_get hcell (n := j) (j := 0) (e := bK z) (u := bK z) (by rw [List.getElem?_map, hz]; rfl) rfl
    simpa using this
   rw [(hxx j _ hf).2.2, rep_k (hc j _ hf)]
   rfl
theorem Compare0 {a b : List UInt8} {n c n' c' B B' : Nat} {p p' : Option Addr} (w : World) (h : Rp.Sl w B 1 p n c (a.map Rp.byteV)) (h' : Rp.Sl w B' 1 p' n' c' (b.map Rp.byteV)) :
  Calls Try.prog 112 #[.slice p n c, .slice p' n' c'] w fun e w' => e = .returned (.int .i64 (Lib.compareBytes a b)) ∧ Ext w w' := by
 go_enter Try.func112, Try.ntmps112
 go_wp2
 rw [run_callFunc_extern (P := Try.prog) (f := 125) (fn := Try.f125) (e := Extern.BytealgCompare.compare) (by kernel_rfl) (by kernel_rfl) (by kernel_rfl) (by kernel_rfl) (by kernel_rfl), run_compareBytes h h']
 simp only [Result.andThen]
 rw [Oper.upon_value]
 go_wp2
 go_ret
 exact ⟨rfl, Ext.refl _⟩
theorem Compare (a b : List UInt8) : LF Try.prog 112 [bV a, bV b] (fun _ => .k (.int .i64 (Lib.compareBytes a b))) none := by
 refine ⟨by kernel_rfl, fun g w vals hm hl hr => ?_⟩
 have h2 : vals.size = 2 := hl.symm
 have hv : vals = #[vals[0], vals[1]] := by
  apply Array.ext
  ·simp [h2]
  ·intro i h1 h2
   match i with
   | 0 => rfl
   | 1 => rfl
   | i + 2 => omega
 obtain ⟨p, n, c, e1, s1⟩ := rep_bytes (hr 0 _ vals[0] rfl (Array.getElem?_eq_getElem (by omega)))
 obtain ⟨p', n', c', e2, s2⟩ := rep_bytes (hr 1 _ vals[1] rfl (Array.getElem?_eq_getElem (by omega)))
 rw [hv, e1, e2]
 refine (Compare0 w s1 s2).mono fun e w' ⟨he, hx⟩ => ⟨.ret (.k (.int .i64 (Lib.compareBytes a b))), [], g, ⟨rfl, rfl⟩, ?_⟩
 obtain ⟨k1, k2, k3⟩ := hm.ext (g' := g) ⟨rfl, rfl, rfl, Nat.le_refl _, fun _ _ _ => rfl, fun _ _ _ _ => ⟨rfl, rfl⟩, fun _ _ _ _ h => h, fun _ _ _ h => h, fun _ _ _ _ => rfl⟩ hx (fun _ _ _ => Iff.rfl) rfl rfl (fun b o hb => hm.fut b o (Nat.le_trans hx.size hb))
 exact ⟨k1, k2, k3, _, he, .k _⟩
theorem callBB {P : Program} {o : Oper} {env : Env} {v : V} {fx i j n m cap cap' : Nat} {xs : List Operand} {ts : Array Nat} {l r : List UInt8} (hc : LM P fx [bV l, bV r] [] fun o m => o = .ret v ∧ m = []) (ho : o.op = .call { callee := .value (.func fx), args := xs.toArray, argTypes := ts }) (hx : evs env xs = some [.sb i 0 n cap, .sb j 0 m cap'])
  (hij : i ≠ j) (hl : l.length = n) (hr : r.length = m) (hn : n ≤ cap) (hmx : cap ≤ maxLen) (hm : m ≤ cap') (hmx' : cap' ≤ maxLen) (hp : v.pure = true) : Does P o env v [(i, some (.b (l.map bK)), none), (j, some (.b (r.map bK)), none)] :=
 have key : ∀ (q : List UInt8), ((q.map bK).drop 0).take (q.length * 1) = (q.map bK).flatMap V.cells := fun q => by
  rw [Nat.mul_one, List.drop_zero, List.take_of_length_le (by rw [List.length_map]; omega), List.flatMap_map]
  induction q with
  | nil => rfl
  | cons x t ih => rw [List.map_cons, List.flatMap_cons, ← ih]; rfl
 Does.callV [(i, .b (l.map bK)), (j, .b (r.map bK))] hc ho hx
  (.cons (.sb (size := 1) (aget_self ..) (refs_b _ _) (by rw [← hl]; exact key l) (by rw [List.length_map]; exact hl) (fun e he => by obtain ⟨z, _, rfl⟩ := List.mem_map.1 he; rfl) (by decide) hn hmx)
   (.cons (.sb (size := 1) (by rw [aget_cons, if_neg hij]; exact aget_self ..) (refs_b _ _) (by rw [← hr]; exact key r) (by rw [List.length_map]; exact hr) (fun e he => by obtain ⟨z, _, rfl⟩ := List.mem_map.1 he; rfl) (by decide) hm hmx') .nil)) hp
theorem tpre_two {mem : Mem} {i j : Nat} {m m' : M} {a b : Option M} (h1 : aget mem i = some m) (h2 : aget mem j = some m') : tpre [(i, some m, a), (j, some m', b)] mem := fun k x y h => by
 rcases List.mem_cons.1 h with e | h
 ·cases e; exact h1
 ·cases List.mem_singleton.1 h; exact h2
theorem DR.r2 {P : Program} {F : Fr0} {N : Nat} {ops : Array Oper} {chk : List (Nat × Tch) → Bool} {K : Env → Mem → Prop} {rs : List (Nat × Oper)} {acc : List (Nat × Tch)} {env : Env} {mem : Mem} {i d j k : Nat} {o : Oper} {v : V} {m m' : M} (hg : gd ops env o = some true) (hds : o.dst = some d) (h : Does P o env v [(j, some m, none), (k, some m', none)]) (h1 : aget mem j = some m) (h2 : aget mem k = some m') (hd : Nat.blt d N = true) (hK : DR P F N ops chk K rs ((i, [(j, some m, none), (k, some m', none)]) :: acc) ((d, v) :: env) mem) : DR P F N ops chk K ((i, o) :: rs) acc env mem :=
 .step hg h (tpre_two h1 h2) (by rw [hds]; exact hd) (by rw [hds]; exact hK)
set_option maxHeartbeats 1000000 in
theorem before_ (a b : List UInt8) (ha : a.length = 8) (hb : b.length = 8) : LF Try.prog 83 [hashV a, hashV b] (fun _ => .k (.int .i64 (Lib.compareBytes a b))) none := by
 have c1 := Compare a b
 generalize Lib.compareBytes a b = r at *
 have hrf := refs_b
 refine LFx.mk' tt Try.func83 rfl rfl rfl (by kernel_rfl) rfl rfl fun F => ?_
 refine wk ?_ trueW trueW
 refine DR.r2 rfl rfl (callBB (i := 2) (j := 3) (n := 8) (m := 8) (cap := 8) (cap' := 8) c1 rfl rfl (by decide) ha hb (by decide) (by decide) (by decide) (by decide) rfl) rfl rfl rfl ?_
 exact wk trueW trueW trueW
theorem cmpB_num : ∀ (a b : List UInt8), a.length = b.length → Lib.compareBytes a b = if Ps.beN a < Ps.beN b then -1 else if Ps.beN b < Ps.beN a then 1 else 0
 | [], [], _ => rfl
 | [], _ :: _, h => by cases h
 | _ :: _, [], h => by cases h
 | x :: r, y :: s, h => by
  have hl : r.length = s.length := by simpa using h
  have ih := cmpB_num r s hl
  have hr := Ps.beN_lt r
  have hs := Ps.beN_lt s
  have e1 : Ps.beN (x :: r) = x.toNat * 256 ^ r.length + Ps.beN r := by simp [Ps.beN, Ps.nat8, Ps.pos]
  have e2 : Ps.beN (y :: s) = y.toNat * 256 ^ s.length + Ps.beN s := by simp [Ps.beN, Ps.nat8, Ps.pos]
  rw [e1, e2, hl]
  rw [hl] at hr
  generalize 256 ^ s.length = B at *
  unfold Lib.compareBytes
  rw [ih]
  have key : ∀ {p q u v : Nat}, p < q → u < B → p * B + u < q * B + v := fun {p q u v} h1 h2 => by
   have : (p + 1) * B ≤ q * B := Nat.mul_le_mul_right _ h1
   have e : (p + 1) * B = p * B + B := Nat.succ_mul p B
   omega
  by_cases h1 : x < y
  ·rw [if_pos h1, if_pos (key (UInt8.lt_iff_toNat_lt.1 h1) hr)]
  ·rw [if_neg h1]
   by_cases h2 : y < x
   ·have := key (v := Ps.beN r) (UInt8.lt_iff_toNat_lt.1 h2) hs
    rw [if_pos h2, if_neg (by omega), if_pos this]
   ·rw [if_neg h2]
    have e : x = y := by
     have h1' := mt UInt8.lt_iff_toNat_lt.2 h1
     have h2' := mt UInt8.lt_iff_toNat_lt.2 h2
     exact UInt8.toNat_inj.1 (by omega)
    subst e
    by_cases h3 : Ps.beN r < Ps.beN s
    ·rw [if_pos h3, if_pos (by omega)]
    ·rw [if_neg h3, if_neg (show ¬ x.toNat * B + Ps.beN r < x.toNat * B + Ps.beN s by omega)]
     by_cases h4 : Ps.beN s < Ps.beN r
     ·rw [if_pos h4, if_pos (by omega)]
     ·rw [if_neg h4, if_neg (by omega)]
end Wo
end Lf
open Go.RowKit Rg Wm Ar
set_option linter.unusedVariables false
set_option maxRecDepth 100000
namespace Lf
namespace Wo
def Slot.ok (s : Slot) : Prop := s.1 < M256 ∧ s.2 < M256
structure Ac.ok (a : Ac) : Prop where
 nonce : a.nonce < 18446744073709551616
 money : a.money < M256
 slots : ∀ s ∈ a.slots, s.ok
 cl : a.code.length < 2000000
 sl : a.slots.length < 2000000
structure Ho.ok (h : Ho) : Prop where
 addr : h.addr.length = 8
 acc : h.acc.ok
def nothing (a : Ac) : Bool := decide (a.nonce = 0 ∧ a.money = 0 ∧ a.code.length = 0 ∧ a.slots.length = 0)
def sAt (l : List Slot) (i : Nat) : Prop := (l.getD i default).2 ≠ 0 ∧ (0 < i → (l.getD (i - 1) default).1 < (l.getD i default).1)
instance (l : List Slot) (i : Nat) : Decidable (sAt l i) := by unfold sAt; exact inferInstance
def sRight (l : List Slot) : Bool := decide (∀ i, i < l.length → sAt l i)
def adN (h : Ho) : Nat := Ps.beN h.addr
def hAt (l : List Ho) (i : Nat) : Prop := nothing (l.getD i default).acc = false ∧ (l.getD i default).acc.code.length ≤ 1024 ∧ sRight (l.getD i default).acc.slots = true ∧ (0 < i → adN (l.getD (i - 1) default) < adN (l.getD i default))
instance (l : List Ho) (i : Nat) : Decidable (hAt l i) := by unfold hAt; exact inferInstance
def wRight (l : List Ho) : Bool := decide (∀ i, i < l.length → hAt l i)
theorem all_more {p : Nat → Prop} {i n : Nat} (h : i < n) (hp : p i) (hall : i ≤ n ∧ ∀ j, j < i → p j) : i + 1 ≤ n ∧ ∀ j, j < i + 1 → p j := ⟨h, fun j hj => by
 rcases Nat.lt_or_ge j i with h' | h'
 ·exact hall.2 j h'
 ·obtain rfl : j = i := by omega
  exact hp⟩
theorem all_nope {p : Nat → Prop} {i n : Nat} (h : i < n) (hp : ¬ p i) [Decidable (∀ j, j < n → p j)] : decide (∀ j, j < n → p j) = false := decide_eq_false fun k => hp (k i h)
theorem getD_in {α : Type} [Inhabited α] {l : List α} {i : Nat} (h : i < l.length) : l.getD i default ∈ l := by
 rw [List.getD_eq_getElem?_getD, List.getElem?_eq_getElem h]
 exact List.getElem_mem h
theorem limbs_zero : limbs 0 = List.replicate 4 0 := by rw [limbs4]; decide
theorem limbs_ne {x y : Nat} (hx : x < M256) (hy : y < M256) (h : x ≠ y) : limbs x ≠ limbs y := fun e => h (by have := limbs_inj e; rwa [Nat.mod_eq_of_lt hx, Nat.mod_eq_of_lt hy] at this)
theorem limbs_ne0 {x : Nat} (hx : x < M256) (h : x ≠ 0) : limbs x ≠ List.replicate 4 0 := by rw [← limbs_zero]; exact limbs_ne hx (by decide) h
set_option maxHeartbeats 1000000 in
theorem none_ (a : Ac) (h : a.ok) : LF Try.prog 75 [acV a] (fun _ => .k (.bool (nothing a))) none := by
 have hc := h.cl
 have hs := h.sl
 have hn := h.nonce
 have hm := limbs_ne0 h.money
 have hz := limbs_zero
 have hlm := limbs_len a.money
 have ld1 := @ac_n
 have ld2 := @ac_m
 have ld3 := @ac_c
 have ld4 := @ac_s
 have hll := @acS_len a.nonce a.money (bV a.code) (slsV a.slots)
 have hrf := acS_refs
 have hcv := @acS_cv
 unfold nothing
 by_cases h1 : a.nonce = 0
 ·by_cases h2 : a.money = 0
  ·rw [← h2] at hz
   by_cases h3 : a.code.length = 0
   ·by_cases h4 : a.slots.length = 0
    ·rw [decide_eq_true ⟨h1, h2, h3, h4⟩]
     clear h hm
     refine LFx.mk' tt Try.func75 rfl rfl rfl (by kernel_rfl) rfl rfl fun F => ?_
     exact wk trueW trueW trueW
    ·rw [decide_eq_false fun e => h4 e.2.2.2]
     clear h hm
     refine LFx.mk' tt Try.func75 rfl rfl rfl (by kernel_rfl) rfl rfl fun F => ?_
     exact wk trueW trueW trueW
   ·rw [decide_eq_false fun e => h3 e.2.2.1]
    clear h hm
    refine LFx.mk' tt Try.func75 rfl rfl rfl (by kernel_rfl) rfl rfl fun F => ?_
    exact wk trueW trueW trueW
  ·rw [decide_eq_false fun e => h2 e.2.1]
   have hm' := hm h2
   clear h hm hz
   refine LFx.mk' tt Try.func75 rfl rfl rfl (by kernel_rfl) rfl rfl fun F => ?_
   exact wk trueW trueW trueW
 ·rw [decide_eq_false fun e => h1 e.1]
  clear h hm hz
  refine LFx.mk' tt Try.func75 rfl rfl rfl (by kernel_rfl) rfl rfl fun F => ?_
  exact wk trueW trueW trueW
theorem cmp_less {x y : Nat} (hx : x < M256) (hy : y < M256) (h : x < y) : Wd.cmp x y = -1 := by
 unfold Wd.cmp
 rw [Nat.mod_eq_of_lt hx, Nat.mod_eq_of_lt hy, if_pos h]
theorem cmp_geq {x y : Nat} (hx : x < M256) (hy : y < M256) (h : ¬ x < y) : 0 ≤ Wd.cmp x y := by
 unfold Wd.cmp
 rw [Nat.mod_eq_of_lt hx, Nat.mod_eq_of_lt hy, if_neg h]
 split <;> decide
set_option maxHeartbeats 2000000 in
theorem slotsRight_ (l : List Slot) (h : ∀ s ∈ l, s.ok) (hn : l.length < 2000000) : LF Try.prog 73 [slsV l] (fun _ => .k (.bool (sRight l))) none := by
 have hlm : (l.map slV).length = l.length := List.length_map _
 have hrf := slC_refs
 have hcv := slC_cv
 unfold sRight
 refine LFx.mk' tt Try.func73 rfl rfl rfl (by kernel_rfl) rfl rfl fun F => ?_
 refine wk ?_ trueW trueW
 refine LC.loopN (fun i => [(0, slsV l), (5, slsV l), (6, .k (.int .i64 ((l.length : Nat) : Int))), (7, .k (.int .i64 ((i : Nat) : Int)))]) (fun i => []) (fun i => i ≤ l.length ∧ (∀ j, j < i → sAt l j)) ((l.length - ·)) (0) ⟨by omega, fun j hj => by omega⟩ ⟨rfl, rfl, rfl, rfl, trivial⟩ trivial rfl rfW rfW ?_
 rintro i hall
 have hi := hall.1
 rcases Nat.lt_or_ge i l.length with hlt | hge
 ·have hs := h _ (getD_in hlt)
  have hz := limbs_ne0 hs.2
  have hz0 : (l.getD i default).2 = 0 → limbs (l.getD i default).2 = List.replicate 4 0 := fun e => by rw [e]; exact limbs_zero
  have ld1 := @sl_k
  have ld2 := @sl_v
  have hl8 := slC_len (l.getD i default)
  have hl4 := limbs_len (l.getD i default).2
  by_cases h2 : (l.getD i default).2 = 0
  ·rw [all_nope hlt fun k => k.1 h2]
   have hz1 := hz0 h2
   clear hz hz0 hall h hs
   exact wk trueW trueW trueW
  ·have hz' := hz h2
   clear hz hz0
   rcases Nat.eq_zero_or_pos i with h0 | h0
   ·have hok := all_more hlt (p := sAt l) ⟨h2, fun e => by omega⟩ hall
    clear hall h hs
    exact wk trueW trueW trueW
   ·have hp := h _ (getD_in (l := l) (i := i - 1) (by omega))
    have hl8' := slC_len (l.getD (i - 1) default)
    have hpl : i - 1 < l.length := by omega
    have c1 := Cmp (l.getD (i - 1) default).1 (l.getD i default).1
    by_cases h1 : (l.getD (i - 1) default).1 < (l.getD i default).1
    ·have hok := all_more hlt (p := sAt l) ⟨h2, fun _ => h1⟩ hall
     rw [cmp_less hp.1 hs.1 h1] at c1
     clear hall h hs hp h1
     exact wk trueW trueW trueW
    ·rw [all_nope hlt fun k => h1 (k.2 h0)]
     have hc := cmp_geq hp.1 hs.1 h1
     generalize Wd.cmp (l.getD (i - 1) default).1 (l.getD i default).1 = r at *
     clear hall h hs hp h1
     exact wk trueW trueW trueW
 ·obtain rfl : i = l.length := by omega
  rw [decide_eq_true hall.2]
  clear hall h
  exact wk trueW trueW trueW
theorem cmpB_less {a b : Ho} (ha : a.addr.length = 8) (hb : b.addr.length = 8) (h : adN a < adN b) : Lib.compareBytes a.addr b.addr = -1 := by
 rw [cmpB_num _ _ (by omega), if_pos (show Ps.beN a.addr < Ps.beN b.addr from h)]
theorem cmpB_geq {a b : Ho} (ha : a.addr.length = 8) (hb : b.addr.length = 8) (h : ¬ adN a < adN b) : 0 ≤ Lib.compareBytes a.addr b.addr := by
 rw [cmpB_num _ _ (by omega), if_neg (show ¬ Ps.beN a.addr < Ps.beN b.addr from h)]
 split <;> decide
set_option maxHeartbeats 4000000 in
theorem Right_w (l : List Ho) (h : ∀ x ∈ l, x.ok) (hn : l.length < 2000000) : LF Try.prog 43 [hosV l] (fun _ => .k (.bool (wRight l))) none := by
 have hlm : (l.map hoV).length = l.length := List.length_map _
 have hrf := acS_refs
 have hrg := hoS_refs
 have hcv := hoS_cv
 unfold wRight
 refine LFx.mk' tt Try.func43 rfl rfl rfl (by kernel_rfl) rfl rfl fun F => ?_
 refine wk ?_ trueW trueW
 refine LC.loopN (fun i => [(0, hosV l), (5, hosV l), (6, .k (.int .i64 ((l.length : Nat) : Int))), (7, .k (.int .i64 ((i : Nat) : Int)))]) (fun i => []) (fun i => i ≤ l.length ∧ (∀ j, j < i → hAt l j)) ((l.length - ·)) (0) ⟨by omega, fun j hj => by omega⟩ ⟨rfl, rfl, rfl, rfl, trivial⟩ trivial rfl rfW rfW ?_
 rintro i hall
 have hi := hall.1
 rcases Nat.lt_or_ge i l.length with hlt | hge
 ·have hs := h _ (getD_in hlt)
  have hcl := hs.acc.cl
  have ld1 := @ho_a
  have ld2 := @ho_ac
  have ld3 := @ho_c
  have ld4 := @ho_s
  have ha := hs.addr
  have hl15 : (hoC (l.getD i default)).length = 15 := hoS_len hs.addr
  have c1 := none_ (l.getD i default).acc hs.acc
  have c2 := slotsRight_ (l.getD i default).acc.slots hs.acc.slots hs.acc.sl
  by_cases h2 : nothing (l.getD i default).acc = true
  ·rw [all_nope hlt fun k => by rw [k.1] at h2; cases h2]
   rw [h2] at c1
   clear hall h hs h2
   exact wk trueW trueW trueW
  ·have h2f : nothing (l.getD i default).acc = false := Bool.eq_false_iff.2 h2
   rw [h2f] at c1
   by_cases h3 : (l.getD i default).acc.code.length ≤ 1024
   ·by_cases h4 : sRight (l.getD i default).acc.slots = true
    ·rw [h4] at c2
     rcases Nat.eq_zero_or_pos i with h0 | h0
     ·have hok := all_more hlt (p := hAt l) ⟨h2f, h3, h4, fun e => by omega⟩ hall
      clear hall h hs h2 h2f h4
      exact wk trueW trueW trueW
     ·have hp := h _ (getD_in (l := l) (i := i - 1) (by omega))
      have ha' := hp.addr
      have hl15' : (hoC (l.getD (i - 1) default)).length = 15 := hoS_len hp.addr
      have hpl : i - 1 < l.length := by omega
      have c3 := before_ (l.getD (i - 1) default).addr (l.getD i default).addr hp.addr hs.addr
      by_cases h1 : adN (l.getD (i - 1) default) < adN (l.getD i default)
      ·have hok := all_more hlt (p := hAt l) ⟨h2f, h3, h4, fun _ => h1⟩ hall
       rw [cmpB_less hp.addr hs.addr h1] at c3
       clear hall h hs hp h1 h2 h2f h4
       exact wk trueW trueW trueW
      ·rw [all_nope hlt fun k => h1 (k.2.2.2 h0)]
       have hc := cmpB_geq hp.addr hs.addr h1
       generalize Lib.compareBytes (l.getD (i - 1) default).addr (l.getD i default).addr = r at *
       clear hall h hs hp h1 h2 h2f h4
       exact wk trueW trueW trueW
    ·rw [all_nope hlt fun k => h4 k.2.2.1]
     have h4f : sRight (l.getD i default).acc.slots = false := Bool.eq_false_iff.2 h4
     rw [h4f] at c2
     clear hall h hs h2 h2f h4 h4f
     exact wk trueW trueW trueW
   ·rw [all_nope hlt fun k => h3 k.2.1]
    clear hall h hs h2 h2f
    exact wk trueW trueW trueW
 ·obtain rfl : i = l.length := by omega
  rw [decide_eq_true hall.2]
  clear hall h
  exact wk trueW trueW trueW
end Wo
end Lf
open Go.RowKit Rg Wm Ar
set_option linter.unusedVariables false
set_option maxRecDepth 100000
namespace Lf
namespace Wo
def idx : List Ho → Nat → Nat
 | [], _ => 0
 | h :: r, k => if adN h < k then idx r k + 1 else 0
theorem idx_le : ∀ (l : List Ho) (k : Nat), idx l k ≤ l.length
 | [], _ => Nat.le_refl _
 | h :: r, k => by
  rw [idx]
  have := idx_le r k
  split
  ·rw [List.length_cons]; omega
  ·omega
theorem idx_low : ∀ (l : List Ho) (k : Nat) {j : Nat}, j < idx l k → adN (l.getD j default) < k
 | [], _, j, h => by cases h
 | x :: r, k, j, h => by
  rw [idx] at h
  by_cases hx : adN x < k
  ·rw [if_pos hx] at h
   cases j with
   | zero => exact hx
   | succ j => exact idx_low r k (by omega)
  ·rw [if_neg hx] at h; cases h
theorem idx_at : ∀ (l : List Ho) (k : Nat), idx l k < l.length → k ≤ adN (l.getD (idx l k) default)
 | [], _, h => by cases h
 | x :: r, k, h => by
  by_cases hx : adN x < k
  ·have e : idx (x :: r) k = idx r k + 1 := by rw [idx, if_pos hx]
   rw [e] at h ⊢
   exact idx_at r k (by rw [List.length_cons] at h; omega)
  ·have e : idx (x :: r) k = 0 := by rw [idx, if_neg hx]
   rw [e]
   show k ≤ adN x
   omega
def Srt (l : List Ho) : Prop := ∀ i j, i < j → j < l.length → adN (l.getD i default) < adN (l.getD j default)
theorem idx_high {l : List Ho} (hs : Srt l) {k j : Nat} (h : idx l k ≤ j) (hj : j < l.length) : k ≤ adN (l.getD j default) := by
 have h0 := idx_at l k (by omega)
 rcases Nat.eq_or_lt_of_le h with e | e
 ·rw [← e]; exact h0
 ·have := hs _ _ e hj; omega
theorem idx_is {l : List Ho} {k i : Nat} (h1 : ∀ j, j < i → adN (l.getD j default) < k) (hi : i ≤ l.length) (h2 : i < l.length → k ≤ adN (l.getD i default)) : idx l k = i := by
 rcases Nat.lt_trichotomy (idx l k) i with h | h | h
 ·have a := h1 _ h
  have b := idx_at l k (by omega)
  omega
 ·exact h
 ·have a := idx_low l k h
  have b := h2 (by have := idx_le l k; omega)
  omega
def found (l : List Ho) (k : Nat) : Bool := decide (idx l k < l.length ∧ adN (l.getD (idx l k) default) = k)
theorem srt_of {l : List Ho} (h : wRight l = true) : Srt l := by
 have h := of_decide_eq_true h
 have key : ∀ d i, i + d + 1 < l.length → adN (l.getD i default) < adN (l.getD (i + d + 1) default) := by
  intro d
  induction d with
  | zero =>
   intro i hi
   have := (h (i + 1) hi).2.2.2 (by omega)
   rwa [Nat.add_sub_cancel] at this
  | succ d ih =>
   intro i hi
   have h1 := ih i (by omega)
   have h2 := (h (i + (d + 1) + 1) hi).2.2.2 (by omega)
   rw [Nat.add_sub_cancel] at h2
   exact Nat.lt_trans h1 h2
 intro i j hij hj
 have := key (j - i - 1) i (by omega)
 rwa [show i + (j - i - 1) + 1 = j from by omega] at this
set_option maxHeartbeats 1000000 in
theorem find1_ (h : Ho) (a : List UInt8) (hh : h.addr.length = 8) (ha : a.length = 8) : LF Try.prog 107 [hoV h, hashV a] (fun _ => .k (.int .i64 (Lib.compareBytes h.addr a))) none := by
 have c1 := before_ h.addr a hh ha
 generalize Lib.compareBytes h.addr a = r at *
 have hl15 : (hoC h).length = 15 := hoS_len hh
 have ld1 := @ho_a
 have hrf := refs_b
 have hrg := hoS_refs
 refine LFx.mk' tt Try.func107 rfl rfl rfl (by kernel_rfl) rfl rfl fun F => ?_
 exact wk trueW trueW trueW
theorem half_lo {d A B : Nat} (h : d = B - A) (hlt : A < B) : A ≤ (A + B) / 2 ^ 1 ∧ (A + B) / 2 ^ 1 < B := by
 rw [Nat.pow_one]
 omega
theorem low_more {l : List Ho} (hs : Srt l) {k m : Nat} (hm : m < l.length) (h : adN (l.getD m default) < k) : ∀ j, j < m + 1 → adN (l.getD j default) < k := fun j hj => by
 rcases Nat.lt_or_ge j m with h' | h'
 ·exact Nat.lt_trans (hs _ _ h' hm) h
 ·obtain rfl : j = m := by omega
  exact h
theorem high_more {l : List Ho} (hs : Srt l) {k m : Nat} (h : k ≤ adN (l.getD m default)) : ∀ j, m ≤ j → j < l.length → k ≤ adN (l.getD j default) := fun j hj hl => by
 rcases Nat.eq_or_lt_of_le hj with e | e
 ·rw [← e]; exact h
 ·have := hs _ _ e hl; omega
set_option maxHeartbeats 4000000 in
theorem BinaryH (l : List Ho) (a : List UInt8) (h : ∀ x ∈ l, x.addr.length = 8) (ha : a.length = 8) (hs : Srt l) (hn : l.length < 2000000) : LF Try.prog 106 [hosV l, hashV a, .f (.func 107) [] []] (fun _ => .t [.k (.int .i64 ((idx l (Ps.beN a) : Nat) : Int)), .k (.bool (found l (Ps.beN a)))]) none := by
 have hlm : (l.map hoV).length = l.length := List.length_map _
 have hrf := refs_b
 have hrg := hoS_refs
 refine LFx.mk' tt Try.func106 rfl rfl rfl (by kernel_rfl) rfl rfl fun F => ?_
 refine wk ?_ trueW trueW
 refine LC.loop5 (fun d A B (_u3 : Unit) (_u4 : Unit) => [(0, hosV l), (2, .f (.func 107) [] []), (4, .p 4 0), (8, .k (.int .i64 ((l.length : Nat) : Int))), (9, .k (.int .i64 ((A : Nat) : Int))), (10, .k (.int .i64 ((B : Nat) : Int)))]) (fun d A B (_u3 : Unit) (_u4 : Unit) => [(4, .b (a.map bK))]) (fun d A B (_u3 : Unit) (_u4 : Unit) => d = B - A ∧ A ≤ B ∧ B ≤ l.length ∧ (∀ j, j < A → adN (l.getD j default) < Ps.beN a) ∧ (∀ j, B ≤ j → j < l.length → Ps.beN a ≤ adN (l.getD j default))) ((fun d => d)) (l.length) (0) (l.length) () () ⟨by omega, by omega, by omega, fun j hj => by omega, fun j h1 h2 => by omega⟩ ⟨rfl, rfl, rfl, rfl, rfl, rfl, trivial⟩ ⟨rfl, trivial⟩ rfl rfW rfW ?_
 rintro d A B _ _ ⟨hd, hAB, hB, hlo, hhi⟩
 rcases Nat.lt_or_ge A B with hlt | hge
 ·obtain ⟨hm1, hm2⟩ := half_lo hd hlt
  have hml : ((A + B) / 2 ^ 1) < l.length := by omega
  have hk := h _ (getD_in hml)
  have hl15 : (hoC (l.getD ((A + B) / 2 ^ 1) default)).length = 15 := hoS_len hk
  have c1 := find1_ (l.getD ((A + B) / 2 ^ 1) default) a hk ha
  by_cases hc : adN (l.getD ((A + B) / 2 ^ 1) default) < Ps.beN a
  ·have hok : B - (((A + B) / 2 ^ 1) + 1) = B - (((A + B) / 2 ^ 1) + 1) ∧ ((A + B) / 2 ^ 1) + 1 ≤ B ∧ B ≤ l.length ∧ (∀ j, j < ((A + B) / 2 ^ 1) + 1 → adN (l.getD j default) < Ps.beN a) ∧ (∀ j, B ≤ j → j < l.length → Ps.beN a ≤ adN (l.getD j default)) := ⟨rfl, by omega, hB, low_more hs hml hc, hhi⟩
   have hmu : B - (((A + B) / 2 ^ 1) + 1) < d := by omega
   rw [cmpB_num _ _ (by omega), if_pos (show Ps.beN (l.getD ((A + B) / 2 ^ 1) default).addr < Ps.beN a from hc)] at c1
   clear hlo hhi h hs hc
   exact wk trueW trueW trueW
  ·have hok : ((A + B) / 2 ^ 1) - A = ((A + B) / 2 ^ 1) - A ∧ A ≤ ((A + B) / 2 ^ 1) ∧ ((A + B) / 2 ^ 1) ≤ l.length ∧ (∀ j, j < A → adN (l.getD j default) < Ps.beN a) ∧ (∀ j, ((A + B) / 2 ^ 1) ≤ j → j < l.length → Ps.beN a ≤ adN (l.getD j default)) := ⟨rfl, by omega, by omega, hlo, high_more hs (by omega)⟩
   have hmu : ((A + B) / 2 ^ 1) - A < d := by omega
   have hr : 0 ≤ Lib.compareBytes (l.getD ((A + B) / 2 ^ 1) default).addr a := by
    rw [cmpB_num _ _ (by omega), if_neg (show ¬ Ps.beN (l.getD ((A + B) / 2 ^ 1) default).addr < Ps.beN a from hc)]
    split <;> decide
   generalize Lib.compareBytes (l.getD ((A + B) / 2 ^ 1) default).addr a = r at *
   clear hlo hhi h hs hc
   exact wk trueW trueW trueW
 ·obtain rfl : A = B := by omega
  have hix : idx l (Ps.beN a) = A := idx_is hlo hB fun h => hhi _ (Nat.le_refl _) h
  unfold found
  rw [hix]
  by_cases hA : A < l.length
  ·have hk := h _ (getD_in hA)
   have hl15 : (hoC (l.getD A default)).length = 15 := hoS_len hk
   have c1 := find1_ (l.getD A default) a hk ha
   have hge' : Ps.beN a ≤ adN (l.getD A default) := hhi _ (Nat.le_refl _) hA
   rw [cmpB_num _ _ (by omega), if_neg (show ¬ Ps.beN (l.getD A default).addr < Ps.beN a from by unfold adN at hge'; omega)] at c1
   by_cases he : adN (l.getD A default) = Ps.beN a
   ·rw [decide_eq_true ⟨hA, he⟩]
    rw [if_neg (show ¬ Ps.beN a < Ps.beN (l.getD A default).addr from by unfold adN at he; omega)] at c1
    clear hlo hhi h hs he hix
    exact wk trueW trueW trueW
   ·rw [decide_eq_false fun k => he k.2]
    rw [if_pos (show Ps.beN a < Ps.beN (l.getD A default).addr from by unfold adN at he hge'; omega)] at c1
    clear hlo hhi h hs he hix
    exact wk trueW trueW trueW
  ·rw [decide_eq_false fun k => hA k.1]
   clear hlo hhi h hs hix
   exact wk trueW trueW trueW
theorem find_ (l : List Ho) (a : List UInt8) (h : ∀ x ∈ l, x.addr.length = 8) (ha : a.length = 8) (hs : Srt l) (hn : l.length < 2000000) : LF Try.prog 76 [hosV l, hashV a] (fun _ => .t [.k (.int .i64 ((idx l (Ps.beN a) : Nat) : Int)), .k (.bool (found l (Ps.beN a)))]) none := by
 have c1 := BinaryH l a h ha hs hn
 generalize idx l (Ps.beN a) = i at *
 generalize found l (Ps.beN a) = b at *
 have hrf := refs_b
 have hrg := hoS_refs
 refine LFx.mk' tt Try.func76 rfl rfl rfl (by kernel_rfl) rfl rfl fun F => ?_
 exact wk trueW trueW trueW
end Wo
end Lf
open Go.RowKit Rg Wm Ar
set_option linter.unusedVariables false
set_option maxRecDepth 100000
namespace Lf
namespace Wo
theorem CloneS (l : List Slot) (hn : l.length < 2000000) : LF Try.prog 105 [slsV l] (fun _ => slsV l) none := by
 have hl : (l.map slV).length = l.length := List.length_map _
 have hce : ∀ e ∈ l.map slV, e.cells.length = 8 := fun e he => by
  obtain ⟨t, _, rfl⟩ := List.mem_map.1 he
  exact slC_len t
 have hrf := slC_refs
 have hcv := slC_cv
 refine LFx.mk' tt Try.func105 rfl rfl rfl (by kernel_rfl) rfl rfl fun F => ?_
 refine LC.seq (LC.region (LS.pp rfl rfl (Does.assign rfl rfl) rfl (LS.nil ?_)))
 refine LC.seq (LC.seq (LC.region (LS.pp rfl rfl (Does.move rfl rfl) rfl (LS.eqNil tt rfl rfl rfl rfl rfl rfl rfl (fun he => LS.nil ?_) (LS.nil ?_)))))
 ·have hl0 : l = [] := List.map_eq_nil_iff.1 he
  subst hl0
  exact wk trueW trueW trueW
 ·refine LC.condF rfl ?_
  exact wk trueW trueW trueW
theorem CloneC (l : List UInt8) (hn : l.length < 1073741824) : LF Try.prog 104 [bV l] (fun _ => bV l) none := by
 have hl : (l.map bK).length = l.length := List.length_map _
 refine LFx.mk' tt Try.func104 rfl rfl rfl (by kernel_rfl) rfl rfl fun F => ?_
 refine LC.seq (LC.region (LS.pp rfl rfl (Does.assign rfl rfl) rfl (LS.nil ?_)))
 refine LC.seq (LC.seq (LC.region (LS.pp rfl rfl (Does.move rfl rfl) rfl (LS.eqNil tt rfl rfl rfl rfl rfl rfl rfl (fun he => LS.nil ?_) (LS.nil ?_)))))
 ·have hl0 : l = [] := List.map_eq_nil_iff.1 he
  subst hl0
  exact wk trueW trueW trueW
 ·refine LC.condF rfl ?_
  exact wk trueW trueW trueW
set_option maxHeartbeats 1000000 in
theorem own_ (a : Ac) (h : a.ok) : LF Try.prog 74 [acV a] (fun _ => acV a) none := by
 have hc := h.cl
 have hs := h.sl
 have ld1 := @ac_c
 have ld2 := @ac_s
 have sp1 := @ac_set
 have hll : (acC a).length = 7 := acS_len
 have hll2 : (acS a.nonce a.money (bV a.code) (slsV a.slots)).length = 7 := acS_len
 have hrf := acS_refs
 have c1 := CloneC a.code (by omega)
 have c2 := CloneS a.slots (by omega)
 clear h
 refine LFx.mk' tt Try.func74 rfl rfl rfl (by kernel_rfl) rfl rfl fun F => ?_
 exact wk trueW trueW trueW
def zeroA : Ac := ⟨0, 0, [], []⟩
theorem acV_zero : acV zeroA = .a [uK 0, uK 0, uK 0, uK 0, uK 0, bV [], .s none []] := by
 show V.a (acS 0 0 (bV []) (slsV [])) = _
 rw [acS_eq, limbs_zero]
 rfl
def getW (l : List Ho) (k : Nat) : Ac := if found l k then (l.getD (idx l k) default).acc else zeroA
theorem hoC_drop {h : Ho} (k : h.addr.length = 8) : List.drop 8 (hoC h) = acC h.acc := by
 show List.drop 8 (hoS _ _ _ _ _) = _
 rw [hoS_eq, show (8 : Nat) = 8 + 0 from rfl, drop_to (len_bs _ k) 0, List.drop_zero]
set_option maxHeartbeats 1000000 in
theorem Get_ok (l : List Ho) (a : List UInt8) (h : ∀ x ∈ l, x.ok) (ha : a.length = 8) (hn : l.length < 2000000) (hr : wRight l = true) : LF Try.prog 42 [hosV l, hashV a] (fun _ => .t [acV (getW l (Ps.beN a)), .k (.int .i64 0)]) none := by
 have c1 := Right_w l h hn
 rw [hr] at c1
 have c2 := find_ l a (fun x hx => (h x hx).addr) ha (srt_of hr) hn
 have hlm : (l.map hoV).length = l.length := List.length_map _
 unfold getW
 cases hf : found l (Ps.beN a) with
 | true =>
  rw [hf] at c2
  have hi : idx l (Ps.beN a) < l.length := (of_decide_eq_true hf).1
  have hk := h _ (getD_in hi)
  have hd8 := hoC_drop hk.addr
  have c3 : LF Try.prog 74 [.a (List.drop 8 (hoC (l.getD (idx l (Ps.beN a)) default)))] (fun _ => acV (l.getD (idx l (Ps.beN a)) default).acc) none := by
   rw [hd8]; exact own_ (l.getD (idx l (Ps.beN a)) default).acc hk.acc
  have hrd : ∀ m, V.refs.go m (List.drop 8 (hoC (l.getD (idx l (Ps.beN a)) default))) = true := fun m => by rw [hd8]; exact acS_refs _ _ _ _ _
  have hka := hk.addr
  rw [if_pos rfl]
  generalize idx l (Ps.beN a) = i at *
  have hl15 : (hoC (l.getD i default)).length = 15 := hoS_len hka
  have ld1 := @ho_ac
  have hrf := hrd
  have hrg := And.intro hoS_refs acS_refs
  have hcv := acS_cv
  have hl7 : (acC (l.getD i default).acc).length = 7 := acS_len
  clear h hr hk hf
  refine LFx.mk' tt Try.func42 rfl rfl rfl (by kernel_rfl) rfl rfl fun F => ?_
  exact wk trueW trueW trueW
 | false =>
  rw [hf] at c2
  rw [if_neg (by decide), acV_zero]
  generalize idx l (Ps.beN a) = i at *
  have hrf := refs_b
  have hrg := hoS_refs
  clear h hr hf
  refine LFx.mk' tt Try.func42 rfl rfl rfl (by kernel_rfl) rfl rfl fun F => ?_
  exact wk trueW trueW trueW
end Wo
end Lf
open Go.RowKit Rg Wm Ar
set_option linter.unusedVariables false
set_option maxRecDepth 100000
namespace Lf
open Pk
namespace Wo
structure Le.ok (l : Le) : Prop where
 nonce : l.nonce < 18446744073709551616
 money : l.money < M256
 slots : l.slots.length = 32
 code : l.code.length = 32
def txI (t : List UInt8) : Itm := .mk false t []
def leI (l : Le) : Itm := .mk true [] [txI (numL l.nonce), txI (numL l.money), txI l.slots, txI l.code]
def leB (l : Le) : List UInt8 := enc (leI l)
theorem num32 {n : Nat} (h : n < M256) : (numL n).length ≤ 32 := numL_len (by rw [← m256_bytes]; exact h)
theorem nonce_m {n : Nat} (h : n < 18446744073709551616) : n < M256 := Nat.lt_trans h (by decide)
theorem leI_size {l : Le} (h : l.ok) : (leI l).size ≤ 200 := by
 have h1 := num32 (nonce_m h.nonce)
 have h2 := num32 h.money
 have h3 := h.slots
 have h4 := h.code
 simp only [leI, txI, Itm.size, Itm.sizeL, List.length_nil]
 omega
theorem leB_len {l : Le} (h : l.ok) : (leB l).length ≤ 1800 := by
 have h1 := leI_size h
 have h2 := enc_len (leI l) (by omega)
 unfold leB
 omega
theorem cq_slots {l : Le} (h : l.ok) : CutQ ((leC l).drop 5) 32 l.slots := ⟨by rw [show (5 : Nat) = 5 + 0 from rfl, le_drop, List.drop_zero, List.take_append_of_le_length (by rw [len_bs _ h.slots]; omega), List.take_of_length_le (by rw [len_bs _ h.slots]; omega)], h.slots⟩
theorem cq_code {l : Le} (h : l.ok) : CutQ ((leC l).drop 37) 32 l.code := ⟨by rw [show (37 : Nat) = 5 + 32 from rfl, le_drop, show (32 : Nat) = 32 + 0 from rfl, drop_to (len_bs _ h.slots) 0, List.drop_zero, List.take_of_length_le (by rw [len_bs _ h.code]; omega)], h.code⟩
theorem le_m1 {ti : TI} {l : Le} (hd : ti.d.agg = true) (hs : ti.size = 4) : ti.part ((leC l).drop 1) 0 = some (wV l.money) := part_run hd hs (by rw [limbs4]; rfl) (by rw [leC_eq, limbs4]; simp) (by rw [leC_eq, limbs4]; rfl)
set_option maxHeartbeats 4000000 in
theorem WriteLeaf_ (l : Le) (h : l.ok) : LF Try.prog 41 [leV l] (fun _ => bV (leB l)) none := by
 have c1 := IntW l.nonce h.nonce
 have c2 := Pw.Num l.nonce
 rw [Nat.mod_eq_of_lt (nonce_m h.nonce)] at c2
 have c3 := Pw.Num l.money
 rw [Nat.mod_eq_of_lt h.money] at c3
 have c4 := Rw.Text (numL l.nonce)
 have c5 := Rw.Text (numL l.money)
 have c6 := Rw.Text l.slots
 have c7 := Rw.Text l.code
 have c8 := Rw.List_ [txI (numL l.nonce), txI (numL l.money), txI l.slots, txI l.code]
 have c9 := Pw.Encode 200 (leI l) (leI_size h) (by omega)
 have hfb : FrzBox 1 1 := ⟨⟩
 have hbare := leC_bare l
 have hl := leC_len h.slots h.code
 have q1 := cq_slots h
 have q2 := cq_code h
 have ld1 := @le_n
 have ld2 := @le_m1
 have hrf := leC_refs
 have hrg := itC_refs
 have hcv := itC_cv
 have hbr := itC_bare
 have z1 := itC_len (txI (numL l.nonce))
 have z2 := itC_len (txI (numL l.money))
 have z3 := itC_len (txI l.slots)
 have z4 := itC_len (txI l.code)
 unfold leB leI txI at *
 clear h
 refine LFx.mk' tt Try.func41 rfl rfl rfl (by kernel_rfl) rfl rfl fun F => ?_
 exact wk trueW trueW trueW
end Wo
end Lf
open Go.RowKit Rg Wm Ar
set_option maxRecDepth 100000
namespace Lf
open Pk Ro Tr
namespace Wo
theorem vfill_step {place : Nat → Option (Nat × Nat)} {i off size : Nat} {v : V} {done rest : List V} {r : List (Nat × V)} (hp : place i = some (off, size)) (hok : v.ok = true) (hl : v.cells.length = size) (hd : done.length = off) (hr : size ≤ rest.length) : vfill place (done ++ rest) ((i, v) :: r) = vfill place ((done ++ v.cells) ++ rest.drop size) r := by
 have e : splice (done ++ rest) off v.cells = (done ++ v.cells) ++ rest.drop size := by
  unfold splice
  rw [hl, ← hd, List.take_left, List.drop_append]
  simp
 rw [vfill, hp]
 simp only [hok, hl, e]
 have h1 : Nat.beq size size = true := Nat.beq_refl size
 have h2 : Nat.ble (off + size) (done ++ rest).length = true := Nat.ble_eq_true_of_le (by rw [List.length_append]; omega)
 rw [h1, h2]
 rfl
def zerosL : List Z := [.int .u64, .int .u64, .int .u64, .int .u64, .int .u64] ++ List.replicate 64 (.int .u8)
theorem zerosL_len : (zerosL.map Z.v).length = 69 := rfl
theorem leaf_b (n m : Nat) (s c : List UInt8) (hs : s.length = 32) (hc : c.length = 32) : vfill (fun i => [(0, 1), (1, 4), (5, 32), (37, 32)][i]?) (zerosL.map Z.v) [(0, uK n), (1, wV m), (2, hashV s), (3, hashV c)] = some (leC ⟨n, m, s, c⟩) := by
 have h0 := zerosL_len
 generalize zerosL.map Z.v = z at *
 rw [show z = [] ++ z from rfl, vfill_step (off := 0) (size := 1) rfl rfl rfl rfl (by omega),
  vfill_step (off := 1) (size := 4) rfl rfl (by show ((limbs m).map uK).length = 4; rw [limbs4]; rfl) rfl (by rw [List.length_drop]; omega),
  vfill_step (v := hashV s) (off := 5) (size := 32) rfl rfl (show (s.map bK).length = 32 from len_bs _ hs) (by show ([] ++ [uK n] ++ (limbs m).map uK).length = 5; rw [limbs4]; rfl) (by simp only [List.length_drop]; omega),
  vfill_step (v := hashV c) (off := 37) (size := 32) rfl rfl (show (c.map bK).length = 32 from len_bs _ hc) (by show ([] ++ [uK n] ++ (limbs m).map uK ++ s.map bK).length = 37; rw [limbs4, List.length_append, len_bs _ hs]; rfl) (by simp only [List.length_drop]; omega)]
 simp only [vfill]
 rw [List.drop_of_length_le (by simp only [List.length_drop]; omega), List.append_nil, leC_eq]
 show some ([] ++ [uK n] ++ (limbs m).map uK ++ s.map bK ++ c.map bK) = _
 simp
theorem le_cvT (l : Le) : V.cv.go (fun _ => false) true (leC l) = leC l := leC_cv _ _ l
def leZ : Le := ⟨0, 0, List.replicate 32 0, List.replicate 32 0⟩
theorem leV_zero : leV leZ = .a (zerosL.map Z.v) := by
 show V.a (leC leZ) = _
 rw [leC_eq]
 show V.a (uK 0 :: ((limbs 0).map uK ++ _)) = _
 rw [limbs_zero]
 rfl
def tnum (t : List UInt8) : Nat := if t.length ≤ 32 ∧ t.head? ≠ some 0 then Ps.beN t else 0
theorem ToNum_any (t : List UInt8) (hm : t.length < 1073741824) : ∃ e : Int, LF Try.prog 78 [bV t] (fun _ => .t [wV (tnum t), .k (.int .i64 e)]) none := by
  unfold tnum
  by_cases h : t.length ≤ 32 ∧ t.head? ≠ some 0
  · rw [if_pos h]; exact ⟨0, Pw.ToNum_ok t h.1 h.2⟩
  · rw [if_neg h]
    refine ⟨1, ?_⟩
    have := Pw.ToNum_no t (by by_cases h1 : t.length ≤ 32
                              · exact .inr (Decidable.byContradiction fun k => h ⟨h1, k⟩)
                              · exact .inl (by omega)) hm
    rwa [← limbs_zero] at this
def leAt (ks : List Itm) : Le := ⟨limb (tnum (itxt (ks.getD 0 default))) 0, tnum (itxt (ks.getD 1 default)), itxt (ks.getD 2 default), itxt (ks.getD 3 default)⟩
def rdLf (b : List UInt8) : Option Le :=
 match dec b with
 | some (.mk true _ ks) => if ks.length = 4 ∧ (itxt (ks.getD 2 default)).length = 32 ∧ (itxt (ks.getD 3 default)).length = 32 ∧ leB (leAt ks) = b then some (leAt ks) else none
 | _ => none
theorem tnum_lt (t : List UInt8) : tnum t < M256 := by
 unfold tnum
 split
 ·rename_i h
  rw [m256_bytes]
  exact Nat.lt_of_lt_of_le (Ps.beN_lt t) (Nat.pow_le_pow_right (by decide) h.1)
 ·decide
theorem leAt_ok {ks : List Itm} (h2 : (itxt (ks.getD 2 default)).length = 32) (h3 : (itxt (ks.getD 3 default)).length = 32) : (leAt ks).ok := ⟨limb_lt64 _ _, tnum_lt _, h2, h3⟩
end Wo
end Lf
open Go.RowKit Rg Wm Ar
set_option linter.unusedVariables false
set_option maxRecDepth 100000
namespace Lf
open Pk Ro Tr
namespace Wo
theorem kid_len : ∀ {ks : List Itm} {x : Itm}, x ∈ ks → (itxt x).length ≤ Itm.sizeL ks
 | [], x, h => by cases h
 | y :: r, x, h => by
  rcases List.mem_cons.1 h with rfl | h
  ·obtain ⟨l, t, k⟩ := x
   simp only [Itm.sizeL, Itm.size, itxt]
   omega
  ·have := kid_len h
   simp only [Itm.sizeL]
   omega
theorem kids_len : ∀ {ks : List Itm}, ks.length ≤ Itm.sizeL ks
 | [] => Nat.le_refl _
 | y :: r => by
  have := kids_len (ks := r)
  simp only [Itm.sizeL, List.length_cons]
  omega
theorem rdLf_back {b : List UInt8} {l : Le} (h : rdLf b = some l) : leB l = b ∧ l.ok := by
 unfold rdLf at h
 split at h
 ·split at h
  ·rename_i k
   cases h
   exact ⟨k.2.2.2, leAt_ok k.2.1 k.2.2.1⟩
  ·cases h
 ·cases h
theorem head_ne (n : Nat) : (numL n).head? ≠ some 0 := numL_head n
theorem tnum_num {n : Nat} (h : n < M256) : tnum (numL n) = n := by
 unfold tnum
 rw [if_pos ⟨num32 h, head_ne n⟩]
 exact beN_numL n
theorem limb_small {n : Nat} (h : n < 18446744073709551616) : limb n 0 = n := by
 have := limbs_small (n := n) h
 rw [limbs4] at this
 exact (List.cons.inj this).1
theorem rdLf_leB {l : Le} (h : l.ok) : rdLf (leB l) = some l := by
 have hl := leB_len h
 have hd : dec (leB l) = some (nrm (leI l)) := dec_enc (a := leI l) (by show (leB l).length < _; omega)
 have hn : nrm (leI l) = leI l := by simp [leI, txI, nrm, nrmL]
 rw [hn] at hd
 have ha : leAt [txI (numL l.nonce), txI (numL l.money), txI l.slots, txI l.code] = l := by
  show Le.mk (limb (tnum (numL l.nonce)) 0) (tnum (numL l.money)) l.slots l.code = l
  rw [tnum_num (nonce_m h.nonce), tnum_num h.money, limb_small h.nonce]
 unfold rdLf
 rw [hd]
 show (if _ ∧ _ ∧ _ ∧ leB (leAt _) = leB l then some (leAt _) else none) = some l
 rw [ha, if_pos ⟨rfl, h.slots, h.code, rfl⟩]
def rdV (o : Option Le) : V := match o with
 | some l => .t [leV l, .k (.int .i64 0)]
 | none => .t [leV leZ, .k (.int .i64 1)]
theorem eqS_y (a : List UInt8) : arithS .eql ⟨a.toArray⟩ ⟨a.toArray⟩ = some (.bool true) := by simp [arithS]
theorem eqS_n {a b : List UInt8} (h : ¬ a = b) : arithS .eql ⟨a.toArray⟩ ⟨b.toArray⟩ = some (.bool false) := by simp [arithS, h]
theorem EqualB (a b : List UInt8) : LF Try.prog 79 [bV a, bV b] (fun _ => .k (.bool (decide (a = b)))) none := by
 by_cases h : a = b
 ·have hs : arithS .eql ⟨a.toArray⟩ ⟨b.toArray⟩ = some (.bool true) := by rw [h]; exact eqS_y _
  rw [decide_eq_true h]
  clear h
  refine LFx.mk' tt Try.func79 rfl rfl rfl (by kernel_rfl) rfl rfl fun F => ?_
  exact wk trueW trueW trueW
 ·have hs := eqS_n h
  rw [decide_eq_false h]
  clear h
  refine LFx.mk' tt Try.func79 rfl rfl rfl (by kernel_rfl) rfl rfl fun F => ?_
  exact wk trueW trueW trueW
set_option maxHeartbeats 4000000 in
theorem ReadLeaf_ (b : List UInt8) (hb : b.length < 30000000) : LF Try.prog 40 [bV b] (fun _ => rdV (rdLf b)) none := by
 have hbl : (b.map bK).length = b.length := List.length_map _
 unfold rdLf
 cases hd : dec b with
 | none =>
  have c1 := Pw.Decode_no b (by omega) hd
  show LF _ _ _ (fun _ => .t [leV leZ, .k (.int .i64 1)]) none
  rw [leV_zero]
  clear hd
  refine LFx.mk' tt Try.func40 rfl rfl rfl (by kernel_rfl) rfl rfl fun F => ?_
  exact wk trueW trueW trueW
 | some k =>
  have hsz := dec_size hd
  have c1 := Pw.Decode_ok b k (by omega) hd
  obtain ⟨lst, t, ks⟩ := k
  simp only [itV, itC_eq] at c1
  simp only [Itm.size] at hsz
  have hkl := kids_len (ks := ks)
  have hkm : (ks.map fun x => V.a (itC x)).length = ks.length := List.length_map _
  have hrf := itC_refs
  have hcv := itC_cv
  have hbr := itC_bare
  have z1 : ∀ e ∈ ks.map (fun x => V.a (itC x)), e.cells.length = 3 := fun e he => by obtain ⟨x, _, rfl⟩ := List.mem_map.1 he; exact itC_len x
  clear hd
  cases lst with
  | false =>
   show LF _ _ _ (fun _ => .t [leV leZ, .k (.int .i64 1)]) none
   rw [leV_zero]
   refine LFx.mk' tt Try.func40 rfl rfl rfl (by kernel_rfl) rfl rfl fun F => ?_
   exact wk trueW trueW trueW
  | true =>
   by_cases h4 : ks.length = 4
   ·have ld1 : ∀ {ti : TI} {x : Itm}, ti.d.agg = false → ti.part ((itC x).drop 1) 0 = some (bV (itxt x)) := @it_txt'
    have y0 := itC_len (ks.getD 0 default)
    have y1 := itC_len (ks.getD 1 default)
    have y2 := itC_len (ks.getD 2 default)
    have y3 := itC_len (ks.getD 3 default)
    have w0 := kid_len (getD_in (l := ks) (i := 0) (by omega))
    have w1 := kid_len (getD_in (l := ks) (i := 1) (by omega))
    have w2 := kid_len (getD_in (l := ks) (i := 2) (by omega))
    have w3 := kid_len (getD_in (l := ks) (i := 3) (by omega))
    by_cases h2 : (itxt (ks.getD 2 default)).length = 32
    ·by_cases h3 : (itxt (ks.getD 3 default)).length = 32
     ·obtain ⟨e2, c2⟩ := ToNum_any (itxt (ks.getD 0 default)) (by omega)
      obtain ⟨e3, c3⟩ := ToNum_any (itxt (ks.getD 1 default)) (by omega)
      have hok := leAt_ok h2 h3
      have c4 := WriteLeaf_ (leAt ks) hok
      have hlb := leB_len hok
      have hle := leC_len hok.slots hok.code
      have hcl : vfill (fun i => [(0, 1), (1, 4), (5, 32), (37, 32)][i]?) (zerosL.map Z.v) [(0, uK ((limbs (tnum (itxt (ks.getD 0 default)))).getD 0 default)), (1, wV (tnum (itxt (ks.getD 1 default)))), (2, hashV (itxt (ks.getD 2 default))), (3, hashV (itxt (ks.getD 3 default)))] = some (leC (leAt ks)) := by
       rw [limbs_get _ (by decide)]
       exact leaf_b _ _ _ _ h2 h3
      have hcn := le_cvT (leAt ks)
      have hl4 := limbs_len (tnum (itxt (ks.getD 0 default)))
      have hl4' := limbs_len (tnum (itxt (ks.getD 1 default)))
      by_cases hq : leB (leAt ks) = b
      ·have hif : (if ks.length = 4 ∧ (itxt (ks.getD 2 default)).length = 32 ∧ (itxt (ks.getD 3 default)).length = 32 ∧ leB (leAt ks) = b then some (leAt ks) else none) = some (leAt ks) := if_pos ⟨h4, h2, h3, hq⟩
       simp only [hif]
       show LF _ _ _ (fun _ => .t [leV (leAt ks), .k (.int .i64 0)]) none
       have c5 := EqualB (leB (leAt ks)) b
       rw [decide_eq_true hq] at c5
       clear hif hok
       have hrh := And.intro leC_refs itC_refs
       have hrg := hrh
       refine LFx.mk' tt Try.func40 rfl rfl rfl (by kernel_rfl) rfl rfl fun F => ?_
       exact wk trueW trueW trueW
      ·have hif : (if ks.length = 4 ∧ (itxt (ks.getD 2 default)).length = 32 ∧ (itxt (ks.getD 3 default)).length = 32 ∧ leB (leAt ks) = b then some (leAt ks) else none) = none := if_neg fun k => hq k.2.2.2
       simp only [hif]
       show LF _ _ _ (fun _ => .t [leV leZ, .k (.int .i64 1)]) none
       rw [leV_zero]
       have c5 := EqualB (leB (leAt ks)) b
       rw [decide_eq_false hq] at c5
       clear hif hok
       have hrh := And.intro leC_refs itC_refs
       have hrg := hrh
       refine LFx.mk' tt Try.func40 rfl rfl rfl (by kernel_rfl) rfl rfl fun F => ?_
       exact wk trueW trueW trueW
     ·have hif : (if ks.length = 4 ∧ (itxt (ks.getD 2 default)).length = 32 ∧ (itxt (ks.getD 3 default)).length = 32 ∧ leB (leAt ks) = b then some (leAt ks) else none) = none := if_neg fun k => h3 k.2.2.1
      simp only [hif]
      show LF _ _ _ (fun _ => .t [leV leZ, .k (.int .i64 1)]) none
      rw [leV_zero]
      clear hif
      refine LFx.mk' tt Try.func40 rfl rfl rfl (by kernel_rfl) rfl rfl fun F => ?_
      exact wk trueW trueW trueW
    ·have hif : (if ks.length = 4 ∧ (itxt (ks.getD 2 default)).length = 32 ∧ (itxt (ks.getD 3 default)).length = 32 ∧ leB (leAt ks) = b then some (leAt ks) else none) = none := if_neg fun k => h2 k.2.1
     simp only [hif]
     show LF _ _ _ (fun _ => .t [leV leZ, .k (.int .i64 1)]) none
     rw [leV_zero]
     clear hif
     refine LFx.mk' tt Try.func40 rfl rfl rfl (by kernel_rfl) rfl rfl fun F => ?_
     exact wk trueW trueW trueW
   ·have hif : (if ks.length = 4 ∧ (itxt (ks.getD 2 default)).length = 32 ∧ (itxt (ks.getD 3 default)).length = 32 ∧ leB (leAt ks) = b then some (leAt ks) else none) = none := if_neg fun k => h4 k.1
    simp only [hif]
    show LF _ _ _ (fun _ => .t [leV leZ, .k (.int .i64 1)]) none
    rw [leV_zero]
    clear hif
    refine LFx.mk' tt Try.func40 rfl rfl rfl (by kernel_rfl) rfl rfl fun F => ?_
    exact wk trueW trueW trueW
end Wo
end Lf
open Go.RowKit Rg Wm Ar
set_option linter.unusedVariables false
set_option maxRecDepth 100000
namespace Lf
open Pk Ro Tr
namespace Wo
def zerosH : List Z := List.replicate 8 (.int .u8) ++ [.int .u64, .int .u64, .int .u64, .int .u64, .int .u64, .sl, .sl]
theorem hol_b (ad : List UInt8) (a : Ac) (h : ad.length = 8) : vfill (fun i => [(0, 8), (8, 7)][i]?) (zerosH.map Z.v) [(0, hashV ad), (1, acV a)] = some (hoC ⟨ad, a⟩) := by
 have h0 : (zerosH.map Z.v).length = 15 := rfl
 generalize zerosH.map Z.v = z at *
 have hok : (acV a).ok = true := by show (V.a (acS _ _ _ _)).ok = true; rfl
 rw [show z = [] ++ z from rfl, vfill_step (v := hashV ad) (off := 0) (size := 8) rfl rfl (len_bs _ h) rfl (by omega),
  vfill_step (v := acV a) (off := 8) (size := 7) rfl hok acS_len (by show ([] ++ ad.map bK).length = 8; exact len_bs _ h) (by simp only [List.length_drop]; omega)]
 simp only [vfill]
 rw [List.drop_of_length_le (by simp only [List.length_drop]; omega), List.append_nil]
 show some ([] ++ ad.map bK ++ acS _ _ _ _) = some (hoS _ _ _ _ _)
 rw [hoS_eq]
 rfl
theorem nil1 {P : Program} {f : Nat} {r : List V} {R : Out → Mem → Prop} (h : LM P f (.s none [] :: r) [] R) : LM P f (.nil :: r) [] R :=
 ⟨h.ok, fun g w vals hm hl hr => h.go g w vals hm (by simpa using hl) fun j u x hj hx => by
  cases j with
  | zero =>
   have h0 := hr 0 .nil x rfl hx
   cases hj
   cases h0
   exact .s0 fun _ h => by cases h
  | succ j => exact hr (j + 1) u x (by simpa using hj) hx⟩
theorem ho_cvT (h : Ho) : V.cv.go (fun _ => false) true (hoC h) = hoC h := by
 show V.cv.go _ _ (hoS _ _ _ _ _) = _
 rw [hoS_cv]
 rfl
theorem hoV_bare (h : Ho) : (hoV h).bare = some (hoV h) := by
 show (V.a (hoS _ _ _ _ _)).bare = _
 unfold V.bare
 rw [hoS_bare]
 rfl
section
variable {P : Program} {o : Oper} {env : Env}
theorem cutNil {T e : Nat} {x : Operand} {lo : Option Operand} (X : TOk P) {ti ei : TI} (ho : o.op = .slice T x lo none none) (hx : evo env x = some .nil) (hT : aget X.tab T = some ti) (hd : ti.d = .sl e) (hE : aget X.tab e = some ei) (hlo : Bd env 0 lo 0) : Does P o env .nil [] :=
 .pure fun F g a w mem hr _ => by
  have hr0 := hr x (by simp [ho, Op.operands]) _ hx
  have b1 := hlo.val (a := a) (fun y hy u hu => hr y (by subst hy; simp [ho, Op.operands]) u hu)
  have b2 := (Bd.none : Bd env 0 none 0).val (w := w) (g := g) (a := a) (fun y hy u hu => by cases hy)
  have hy : a.eval x = .slice none 0 0 := by
   generalize a.eval x = y at hr0
   cases hr0
   rfl
  rw [hy] at hr0
  refine ⟨_, ?_, hr0⟩
  have := run_cutG (P := P) (a := none) (n := 0) (cap := 0) ((X.get hT).sl hd) (X.get hE).run_size b1 b2 (Nat.le_refl _) (Nat.le_refl _) w
  rw [Option.map_none] at this
  simp [execOp, ho, hy, this]
end
set_option maxHeartbeats 1000000 in
theorem Insert0 (h : Ho) (hh : h.addr.length = 8) : LF Try.prog 77 [.nil, .k (.int .i64 ((0 : Nat) : Int)), .s none [hoV h]] (fun _ => hosV [h]) none := by
 have hl15 : (hoC h).length = 15 := hoS_len hh
 have hrf := hoS_refs
 have hcv := hoS_cv
 refine LFx.mk' tt Try.func77 rfl rfl rfl (by kernel_rfl) rfl rfl fun F => ?_
 refine wk ?_ trueW trueW
 refine DR.pp rfl rfl (cutNil tt rfl rfl rfl rfl rfl (Bd.some rfl rfl)) rfl ?_
 exact wk trueW trueW trueW
set_option maxHeartbeats 2000000 in
theorem Set0 (ad : List UInt8) (a : Ac) (hd : ad.length = 8) (h : a.ok) (hn : nothing a = false) (hr : sRight a.slots = true) (hc : a.code.length ≤ 1024) : LF Try.prog 38 [.nil, hashV ad, acV a] (fun _ => .t [hosV [⟨ad, a⟩], .k (.int .i64 0)]) none := by
 have c1 := Right_w [] (fun x hx => by cases hx) (by decide)
 have e1 : wRight [] = true := by decide
 rw [e1] at c1
 have c2 := slotsRight_ a.slots h.slots h.sl
 rw [hr] at c2
 have c3 := none_ a h
 rw [hn] at c3
 have c4 := find_ [] ad (fun x hx => by cases hx) hd (srt_of e1) (by decide)
 have e2 : idx [] (Ps.beN ad) = 0 := rfl
 have e3 : found [] (Ps.beN ad) = false := by unfold found; exact decide_eq_false fun k => by cases k.1
 rw [e2, e3] at c4
 have c4 := nil1 c4
 have c5 := own_ a h
 have c6 := Insert0 ⟨ad, a⟩ hd
 have hl15 : (hoC ⟨ad, a⟩).length = 15 := hoS_len hd
 have hl7 : (acC a).length = 7 := acS_len
 have hal : (acS a.nonce a.money (bV a.code) (slsV a.slots)).length = 7 := acS_len
 have hcl : vfill (fun i => [(0, 8), (8, 7)][i]?) (zerosH.map Z.v) [(0, hashV ad), (1, acV a)] = some (hoC ⟨ad, a⟩) := hol_b _ _ hd
 have hcn : V.cv.go (fun _ => false) true (hoC ⟨ad, a⟩) = hoC ⟨ad, a⟩ := ho_cvT _
 have ld1 := @ac_c
 have ld2 := @ac_s
 have hrf := And.intro refs_b acS_refs
 have hrg := hoS_refs
 have hbr := hoV_bare
 clear h hn hr e1 e2 e3
 refine LFx.mk' tt Try.func38 rfl rfl rfl (by kernel_rfl) rfl rfl fun F => ?_
 refine wk ?_ trueW trueW
 refine LC.loopN (fun i => [(0, .nil), (4, .p 4 0), (5, .p 5 0), (8, .nil), (28, .nil), (29, .k (.int .i64 ((0 : Nat) : Int))), (30, .k (.int .i64 ((i : Nat) : Int)))]) (fun i => [(4, .b (ad.map bK)), (5, .b (acC a))]) (fun i => i = 0) ((0 - ·)) (0) (by omega) ⟨rfl, rfl, rfl, rfl, rfl, rfl, rfl, trivial⟩ ⟨rfl, rfl, trivial⟩ rfl rfW rfW ?_
 rintro i rfl
 exact wk trueW trueW trueW
end Wo
end Lf
open Go.RowKit Rg Wm Ar Go.Lib
set_option maxRecDepth 100000
namespace Lf
namespace Wo
theorem run_copyK {P : Program} {T T' E sz ty b o n dc m k : Nat} {x : Value} {news : List Value} {w : World} (hT : P.underlying T = some (.slice E)) (hz : ∀ w, (sizeOf E).run P w = .ok sz w)
  (hln : ∀ w, (Builtin.lenOf x).run P w = .ok m w) (hmin : Nat.min m n = k) (hfc : (Builtin.firstCells sz k x).run P w = .ok news.toArray w)
  (hsp : ∀ j, j < news.length → (w.cell? ⟨b, o + j, none⟩).isSome = true) (hfz : ∀ j, j < news.length → w.frozen? ⟨b, o + j, none⟩ = false) (h1 : ∀ u ∈ news, u.oneCell' = true) :
  (Builtin.copy_ #[T, T'] ty #[.slice (some ⟨b, o, none⟩) n dc, x]).run P w = .ok (.int .i64 ((k : Nat) : Int)) (w.setCells b o news) := by
 have hst := run_storeCells_cells (P := P) b o news 0 w (by simpa using hsp) (by simpa using hfz) h1
 simp only [Nat.add_zero] at hst
 simp [Builtin.copy_, run_underlying hT, hln, hmin, hz, hfc, hst, goInt]
theorem run_firstK {P : Program} {w : World} {sz k b o n c : Nat} {cs : List Value} (hl : cs.length = k * sz) (h : ∀ j v, cs[j]? = some v → w.cell? ⟨b, o + j, none⟩ = some v) :
  (Builtin.firstCells sz k (.slice (some ⟨b, o, none⟩) n c)).run P w = .ok cs.toArray w := run_firstCells_some w sz k ⟨b, o, none⟩ n c cs hl fun j v hj => by rw [Addr.add_lit]; exact h j v hj
set_option maxHeartbeats 4000000 in
theorem InsShift (b n c i vb vc : Nat) (xs us : List Value) (w : World) (hi : i < n) (hroom : n + 1 ≤ c) (hc63 : c ≤ 9223372036854775807) (hvb : vb ≠ b)
    (hcl : xs.length = n * 15) (hvl : us.length = 15)
    (hcs : ∀ j v, xs[j]? = some v → w.cell? ⟨b, j, none⟩ = some v) (hsp : ∀ j, j < (n + 1) * 15 → (w.cell? ⟨b, j, none⟩).isSome = true) (hfz : ∀ j, j < (n + 1) * 15 → w.frozen? ⟨b, j, none⟩ = false)
    (hvs : ∀ j v, us[j]? = some v → w.cell? ⟨vb, j, none⟩ = some v) (h1c : ∀ v ∈ xs, v.oneCell' = true) (h1v : ∀ v ∈ us, v.oneCell' = true)
    (tA tB : TypeId) (kA kB : Nat) (hsa : w.shape? vb = some (tA, kA)) (hsb : w.shape? b = some (tB, kB)) (hkB : kB ≠ 0) (hfa : w.frozen? ⟨vb, 0, none⟩ = false) (hfe : w.frozen? ⟨vb, kA, none⟩ = false) :
    Calls Try.prog 77 #[.slice (some ⟨b, 0, none⟩) n c, .int .i64 i, .slice (some ⟨vb, 0, none⟩) 1 vc] w fun e w' =>
      e = .returned (.slice (some ⟨b, 0, none⟩) (n + 1) c) ∧ w' = (w.drew.setCells b ((i + 1) * 15) (xs.drop (i * 15))).setCells b (i * 15) us := by
  have hz : ∀ w, (sizeOf 144).run Try.prog w = .ok 15 w := fun w => (tt.get (T := 144) rfl).run_size w
  have hT : Try.prog.underlying 70 = some (.slice 144) := by kernel_rfl
  have hov : ∀ lb cb o, (callFunc 108 #[.slice (some ⟨vb, 0, none⟩) 1 vc, .slice (some ⟨b, o, none⟩) lb cb]).run Try.prog w = .ok (.value (.bool false)) w := fun lb cb o => by
    rw [run_callFunc_extern Try.func108 (by kernel_rfl) (by kernel_rfl) (by kernel_rfl) (e := Extern.SlicesOverlaps.overlaps #[70, 70] #[4]) (by kernel_rfl),
      Lib.run_overlaps_apart w 70 4 144 hT 15 hz ⟨vb, 0, none⟩ ⟨b, o, none⟩ 1 vc lb cb hvb tA tB kA kB hsa hsb hkB hfa hfe]
    rfl
  have hdl : (xs.drop (i * 15)).length = (n - i) * 15 := by rw [List.length_drop, hcl, Nat.sub_mul]
  have hcp1 : ∀ ty dc sc, (Builtin.copy_ #[70, 70] ty #[.slice (some ⟨b, (i + 1) * 15, none⟩) (n - i) dc, .slice (some ⟨b, i * 15, none⟩) (n + 1 - i) sc]).run Try.prog w.drew = .ok (.int .i64 ((n - i : Nat) : Int)) (w.drew.setCells b ((i + 1) * 15) (xs.drop (i * 15))) := fun ty dc sc =>
    run_copyK (w := w.drew) (m := n + 1 - i) (k := n - i) hT hz (fun _ => rfl) (by simp only [Nat.min_def]; split <;> omega) (run_firstK hdl fun j v hj => by rw [List.getElem?_drop] at hj; exact hcs _ v hj)
      (fun j hj => hsp _ (by rw [hdl] at hj; omega)) (fun j hj => hfz _ (by rw [hdl] at hj; omega)) (fun v hv => h1c v (List.mem_of_mem_drop hv))
  obtain ⟨W1, hW1⟩ : ∃ W1, W1 = w.drew.setCells b ((i + 1) * 15) (xs.drop (i * 15)) := ⟨_, rfl⟩
  have hsp1 : ∀ k, k < (n + 1) * 15 → (W1.cell? ⟨b, k, none⟩).isSome = true := fun k hk => by
    rw [hW1]
    exact isSome_setCells b (xs.drop (i * 15)) ((i + 1) * 15) w.drew (fun j hj => hsp _ (by rw [hdl] at hj; omega)) k (hsp k hk)
  have hcp2 : ∀ (W : World), (∀ x, W.cell? x = W1.cell? x) → (∀ x, W.frozen? x = W1.frozen? x) → ∀ ty dc, (Builtin.copy_ #[70, 70] ty #[.slice (some ⟨b, i * 15, none⟩) (n + 1 - i) dc, .slice (some ⟨vb, 0, none⟩) 1 vc]).run Try.prog W = .ok (.int .i64 ((1 : Nat) : Int)) (W.setCells b (i * 15) us) := fun W hWc hWf ty dc =>
    run_copyK (w := W) (m := 1) (k := 1) hT hz (fun _ => rfl) (by simp only [Nat.min_def]; split <;> omega) (run_firstK (by rw [hvl]) fun j v hj => by
        rw [hWc, hW1, World.cell?_setCells_out b _ _ _ _ (fun h _ => absurd h hvb), Nat.zero_add]
        exact hvs j v hj)
      (fun j hj => by rw [hWc]; exact hsp1 _ (by omega)) (fun j hj => by rw [hWf, hW1, World.frozen?_setCells]; exact hfz _ (by omega)) h1v
  rw [← hW1] at hcp1
  have mixed : Try.prog.follows .mixedOrders = true := by kernel_rfl
  have hz2 : ¬ ((i : Int) = (n : Int)) := by omega
  have hb1 : (0 : Int) ≤ (i : Int) + 1 := by omega
  have hin : i ≤ n := by omega
  have htn : ((i : Int) + 1).toNat = i + 1 := by omega
  have hb2 : ¬ (c = i + 1) := by omega
  have hb3 : (i : Int) ≤ (n : Int) + 1 := by omega
  have hb4 : ¬ (c = i) := by omega
  have hw1 : IntKind.i64.wrap ((i : Int) + 1) = (i : Int) + 1 := by rw [IntKind.wrap_i64]; omega
  go_enter Try.func77, Try.ntmps77
  go_wp2_with (simp only [hov])
  go_region_law_o (refine step_copy_runI rfl _ _ 70 70 rfl _ _ (by simp [Act.eval, Act.put]) (by simp [Act.eval, Act.put]) (hcp1 _ _ _) ?_)
  go_wp2_with (at_builtin; refine wpList_copy_runI _ rfl _ _ 70 70 rfl _ _ rfl rfl (hcp2 _ (fun _ => by rw [hW1]) (fun _ => by rw [hW1]) _ _) ?_)
  go_ret
  first | exact ⟨rfl, rfl⟩ | exact ⟨rfl, by rw [hW1]⟩
theorem ins_grow {α : Type} {A B C R : List α} {p q : Nat} (hA : A.length = p) (hB : B.length = q) (hl : (A ++ R).length = p + q + C.length) :
  (((A ++ R).take p ++ B ++ (A ++ R).drop (p + q)).take (p + q) ++ C ++ ((A ++ R).take p ++ B ++ (A ++ R).drop (p + q)).drop (p + q + C.length)) = A ++ B ++ C := by
 have h1 : (A ++ R).take p = A := by rw [← hA, List.take_left]
 have h2 : ((A ++ R).drop (p + q)).length = C.length := by rw [List.length_drop, hl]; omega
 have h3 : (A ++ B).length = p + q := by rw [List.length_append, hA, hB]
 rw [h1, ← h3, List.take_left, List.drop_of_length_le (by rw [List.length_append, h3, h2]; exact Nat.le_refl _), List.append_nil]
theorem ins_shift {α : Type} {A B D J : List α} {p q : Nat} (hA : A.length = p) (hB : B.length = q) (hl : (A ++ D ++ J).length = p + q + D.length) :
  (((A ++ D ++ J).take (p + q) ++ D ++ (A ++ D ++ J).drop (p + q + D.length)).take p ++ B ++ ((A ++ D ++ J).take (p + q) ++ D ++ (A ++ D ++ J).drop (p + q + D.length)).drop (p + B.length)) = A ++ B ++ D := by
 have h1 : (A ++ D ++ J).drop (p + q + D.length) = [] := List.drop_of_length_le (by omega)
 have h2 : ((A ++ D ++ J).take (p + q)).length = p + q := by rw [List.length_take]; omega
 rw [h1, List.append_nil, hB]
 have h3 : ((A ++ D ++ J).take (p + q) ++ D).drop (p + q) = D := by
  have := List.drop_left (l₁ := (A ++ D ++ J).take (p + q)) (l₂ := D)
  rwa [h2] at this
 have h4 : ((A ++ D ++ J).take (p + q) ++ D).take p = A := by
  rw [List.take_append_of_le_length (by omega), List.take_take, Nat.min_eq_left (by omega), List.append_assoc, ← hA, List.take_left]
 rw [h3, h4]
def InsOut (a : Option Nat) (n c : Nat) (ys : List Value) (w : World) (e : Ending) (w' : World) : Prop :=
 ∃ v', e = .returned v' ∧ w'.oRow 0 144 15 v' (n + 1) ys ∧ w.grownBy w' (Value.ownBlock (.slice (a.map fun b => ⟨b, 0, none⟩) n c)) ∧ AppR w w' a n c v' 1
theorem oRow_drew {w : World} {base E sz n : Nat} {v : Value} {xs : List Value} (h : w.oRow base E sz v n xs) : w.drew.oRow base E sz v n xs := h
set_option maxHeartbeats 4000000 in
theorem InsGrow (b n c i vb vc : Nat) (xs us : List Value) (w : World) (hi : i < n) (hnc : n ≤ c) (hroom : c < n + 1) (hbig : n ≤ 1000000)
    (hown : w.oRow 0 144 15 (.slice (some ⟨b, 0, none⟩) n c) n xs) (hcl : xs.length = n * 15) (hvl : us.length = 15) (hvw : vb < w.heap.size)
    (hcs : ∀ j v, xs[j]? = some v → w.cell? ⟨b, j, none⟩ = some v) (hvs : ∀ j v, us[j]? = some v → w.cell? ⟨vb, j, none⟩ = some v) (h1c : ∀ v ∈ xs, v.oneCell' = true) (h1v : ∀ v ∈ us, v.oneCell' = true) :
    Calls Try.prog 77 #[.slice (some ⟨b, 0, none⟩) n c, .int .i64 i, .slice (some ⟨vb, 0, none⟩) 1 vc] w
      (InsOut (some b) n c (xs.take (i * 15) ++ us ++ xs.drop (i * 15)) w) := by
  have hz : ∀ w, (sizeOf 144).run Try.prog w = .ok 15 w := fun w => (tt.get (T := 144) rfl).run_size w
  have hT : Try.prog.underlying 70 = some (.slice 144) := by kernel_rfl
  have hI : Try.prog.underlying 3 = some (.int .i64) := by kernel_rfl
  have hbw : b < w.heap.size := (oRow_lt hown b (by simp [Value.ownBlock])).2
  have hown1 : w.oRow 0 144 15 (.slice ((some b).map fun b => ⟨b, 0, none⟩) i c) i (xs.take (i * 15)) := by
    refine ⟨by rw [List.length_take, hcl]; omega, ?_⟩
    rcases hown.2 with ⟨hv, h0⟩ | ⟨g, cap, cur, fz, hv, h1, h2, h3, h4, h5, h6, h7⟩
    · omega
    · simp at hv
      obtain ⟨rfl, rfl⟩ := hv
      exact .inr ⟨b, c, cur, fz, rfl, h1, h2, by omega, h4, h5, by rw [← h6, List.take_take, Nat.min_eq_left (by omega)], h7⟩
  have hbytes : ∃ ei : TI, aget tt.tab 144 = some ei ∧ ei.size = 15 ∧ 1000001 * ei.bytes ≤ 140737488355328 := ⟨_, rfl, rfl, by decide⟩
  obtain ⟨ei, hei, hes, heb⟩ := hbytes
  have hnb : (n + 1) * ei.bytes ≤ 140737488355328 := Nat.le_trans (Nat.mul_le_mul_right _ (by omega)) heb
  rw [← hes] at hown1
  have hke : i + (n + 1 - i) = n + 1 := by omega
  have hkk : ((n + 1 - i : Nat) : Int) = (n : Int) + 1 - (i : Int) := by omega
  have hrunA : ∃ c' w1 R, (∀ ty, (Builtin.append_ #[70, 3] ty #[.slice (some ⟨b, 0, none⟩) i c, .int .i64 ((n : Int) + 1 - (i : Int))]).run Try.prog w = .ok (.slice (some ⟨w.heap.size, 0, none⟩) (n + 1) c') w1) ∧
      w1.oRow 0 144 15 (.slice (some ⟨w.heap.size, 0, none⟩) (n + 1) c') (n + 1) (xs.take (i * 15) ++ R) ∧ w.grownBy w1 (some b) ∧ w.heap.size < w1.heap.size ∧ (∀ k, k < w.heap.size → w1.heap[k]? = w.heap[k]?) := by
    obtain ⟨v', w1, news, hrun, hown2, hg, happ, _, _⟩ := run_appZ (P := Try.prog) (ty := 0) (kd := .i64) (k := n + 1 - i) hT hI (tt.get hei) (by omega) hown1 (by omega) (by omega) (by rw [hke]; exact hnb)
    rw [hke, hes] at hown2
    rcases happ with rfl | ⟨_, c', rfl, hlt, hold⟩
    · rw [hke] at hown2
      rcases hown2.2 with ⟨hv, h0⟩ | ⟨g, cap, cur, fz, hv, h1, h2, h3, h4, h5, h6, h7⟩
      · omega
      · simp at hv; omega
    · rw [hke] at hown2 hrun
      rw [hkk] at hrun
      exact ⟨c', w1, news, fun ty => hrun, hown2, hg, hlt, hold⟩
  obtain ⟨c', w1, R, hrz, hown2, hg, hlt, hold⟩ := hrunA
  obtain ⟨H, hH⟩ : ∃ H, H = w.heap.size := ⟨_, rfl⟩
  rw [← hH] at hrz hown2
  have hcl2 := hown2.1
  have hc' : n + 1 ≤ c' ∧ c' ≤ maxLen := by
    rcases hown2.2 with ⟨hv, h0⟩ | ⟨g, cap, cur, fz, hv, h1, h2, h3, h4, h5, h6, h7⟩
    · omega
    · simp at hv; omega
  have hc63 : c' ≤ 9223372036854775807 := by have := hc'.2; unfold maxLen at this; omega
  have hdl : (xs.drop (i * 15)).length = (n - i) * 15 := by rw [List.length_drop, hcl, Nat.sub_mul]
  have hbN : b ≠ H := by omega
  have hvN : vb ≠ H := by omega
  have hF1 : ∀ x, ((w1.setCells H (i * 15) us).drew).cell? x = (w1.setCells H (i * 15) us).cell? x := fun x => rfl
  have hF2 : ∀ x, ((w1.setCells H (i * 15) us).drew).frozen? x = (w1.setCells H (i * 15) us).frozen? x := fun x => rfl
  have hH2 : w.heap.size ≤ H ∧ H ≤ w.heap.size := by omega
  clear hH
  obtain ⟨own3, th3⟩ := own_set Try.prog hown2 (off := i * 15) (us := us) (by rw [hvl]; omega) h1v
  obtain ⟨own4, th4⟩ := own_set Try.prog (oRow_drew own3) (off := (i + 1) * 15) (us := xs.drop (i * 15)) (by rw [hdl]; omega) (fun v hv => h1c v (List.mem_of_mem_drop hv))
  have hcpA : ∀ (W : World), (∀ x, W.cell? x = w1.cell? x) → (∀ x, W.frozen? x = w1.frozen? x) → ∀ ty dc, (Builtin.copy_ #[70, 70] ty #[.slice (some ⟨H, i * 15, none⟩) (n + 1 - i) dc, .slice (some ⟨vb, 0, none⟩) 1 vc]).run Try.prog W = .ok (.int .i64 ((1 : Nat) : Int)) (W.setCells H (i * 15) us) := fun W hWc hWf ty dc =>
    run_copyK (w := W) (m := 1) (k := 1) hT hz (fun _ => rfl) (by simp only [Nat.min_def]; split <;> omega) (run_firstK (by rw [hvl]) fun j v hj => by
        rw [hWc, Nat.zero_add]
        rw [World.cell?_of_block (hold vb hvw)]
        exact hvs j v hj)
      (fun j hj => by rw [hWc]; exact (th3 j hj).1) (fun j hj => by rw [hWf]; exact (th3 j hj).2) h1v
  have hcpB : ∀ (W : World), (∀ x, W.cell? x = (w1.setCells H (i * 15) us).cell? x) → (∀ x, W.frozen? x = (w1.setCells H (i * 15) us).frozen? x) → ∀ ty dc sc, (Builtin.copy_ #[70, 70] ty #[.slice (some ⟨H, (i + 1) * 15, none⟩) (n - i) dc, .slice (some ⟨b, i * 15, none⟩) (n - i) sc]).run Try.prog W = .ok (.int .i64 ((n - i : Nat) : Int)) (W.setCells H ((i + 1) * 15) (xs.drop (i * 15))) := fun W hWc hWf ty dc sc =>
    run_copyK (w := W) (m := n - i) (k := n - i) hT hz (fun _ => rfl) (by simp only [Nat.min_def]; split <;> omega) (run_firstK hdl fun j v hj => by
        rw [hWc, World.cell?_setCells_out _ _ _ _ _ (fun h _ => absurd h hbN), World.cell?_of_block (hold b hbw)]
        rw [List.getElem?_drop] at hj
        exact hcs _ v hj)
      (fun j hj => by rw [hWc]; exact (th4 j hj).1) (fun j hj => by rw [hWf]; exact (th4 j hj).2) (fun v hv => h1c v (List.mem_of_mem_drop hv))
  have mixed : Try.prog.follows .mixedOrders = true := by kernel_rfl
  have hz2 : ¬ ((i : Int) = (n : Int)) := by omega
  have hz3 : (c : Int) < (n : Int) + 1 := by omega
  have hb1 : (0 : Int) ≤ (i : Int) + 1 := by omega
  have hin : i ≤ n := by omega
  have htn : ((i : Int) + 1).toNat = i + 1 := by omega
  have hb3 : (i : Int) ≤ (n : Int) + 1 := by omega
  have hw1 : IntKind.i64.wrap ((i : Int) + 1) = (i : Int) + 1 := by rw [IntKind.wrap_i64]; omega
  have hGi : ¬ (c' = i) := by omega
  have hGim : ¬ (c' = i + 1) := by omega
  have hci : ¬ (c = i) := by omega
  go_enter Try.func77, Try.ntmps77
  go_wp2_with (first
    | (at_builtin; refine Lib.wpList_append_run _ rfl _ _ _ _ rfl _ _ rfl rfl _ _ (hrz _) ?_)
    | (at_builtin; refine wpList_copy_runI _ rfl _ _ 70 70 rfl _ _ rfl rfl (hcpA _ (fun _ => rfl) (fun _ => rfl) _ _) ?_))
  go_region_law_o (refine step_copy_runI rfl _ _ 70 70 rfl (.slice (some ⟨H, (i + 1) * 15, none⟩) (n - i) (c' - (i + 1))) (.slice (some ⟨b, i * 15, none⟩) (n - i) (c - i)) (by simp [Act.eval, Act.put]) (by simp [Act.eval, Act.put]) (hcpB ((w1.setCells H (i * 15) us).drew) hF1 hF2 3 (c' - (i + 1)) (c - i)) ?_)
  go_wp2
  go_ret
  obtain ⟨f1, f2, f3, f4, f5⟩ := setCells_facts H (xs.drop (i * 15)) ((i + 1) * 15) (w1.setCells H (i * 15) us).drew
  obtain ⟨g1, g2, g3, g4, g5⟩ := setCells_facts H us (i * 15) w1
  have hHe : H = w.heap.size := by omega
  have own5 : ((w1.setCells H (i * 15) us).drew.setCells H ((i + 1) * 15) (xs.drop (i * 15))).oRow 0 144 15 (.slice (some ⟨H, 0, none⟩) (n + 1) c') (n + 1) (xs.take (i * 15) ++ us ++ xs.drop (i * 15)) := by
    have e := ins_grow (A := xs.take (i * 15)) (B := us) (C := xs.drop (i * 15)) (R := R) (p := i * 15) (q := 15) (by rw [List.length_take, hcl]; omega) hvl (by rw [hcl2, hdl]; omega)
    rw [hvl, Nat.add_mul, Nat.one_mul, e] at own4
    rw [Nat.add_mul, Nat.one_mul]
    exact own4
  have hold2 : ∀ k, k < w.heap.size → ((w1.setCells H (i * 15) us).drew.setCells H ((i + 1) * 15) (xs.drop (i * 15))).heap[k]? = w.heap[k]? := fun k hk => by
    rw [f5 k (by omega)]
    exact (g5 k (by omega)).trans (hold k hk)
  have hsz2 : w.heap.size < ((w1.setCells H (i * 15) us).drew.setCells H ((i + 1) * 15) (xs.drop (i * 15))).heap.size := by
    rw [f4]
    exact Nat.lt_of_lt_of_eq hlt g4.symm
  exact ⟨_, rfl, own5, ⟨f1.trans (g1.trans hg.os), f2.trans (g2.trans hg.tape), f3.trans (g3.trans hg.output), Nat.le_of_lt hsz2, fun k hk _ => hold2 k hk⟩, .inr ⟨by omega, c', congrArg (fun h => Value.slice (some ⟨h, 0, none⟩) (n + 1) c') hHe, hsz2, hold2⟩⟩
set_option maxHeartbeats 4000000 in
theorem InsEnd (a : Option Nat) (n c vb vc : Nat) (xs us : List Value) (w : World) (hnc : n ≤ c) (hc63 : c ≤ 9223372036854775807) (hbig : n ≤ 1000000)
  (hown : w.oRow 0 144 15 (.slice (a.map fun b => ⟨b, 0, none⟩) n c) n xs) (hvl : us.length = 15)
  (hvs : ∀ j v, us[j]? = some v → w.cell? ⟨vb, j, none⟩ = some v) (h1v : ∀ v ∈ us, v.oneCell' = true) :
  Calls Try.prog 77 #[.slice (a.map fun b => ⟨b, 0, none⟩) n c, .int .i64 n, .slice (some ⟨vb, 0, none⟩) 1 vc] w
   (InsOut a n c (xs ++ us) w) := by
 have hT : Try.prog.underlying 70 = some (.slice 144) := by kernel_rfl
 have hbytes : ∃ ei : TI, aget tt.tab 144 = some ei ∧ ei.size = 15 ∧ 1000001 * ei.bytes ≤ 140737488355328 := ⟨_, rfl, rfl, by decide⟩
 obtain ⟨ei, hei, hes, heb⟩ := hbytes
 have hnb : (n + 1) * ei.bytes ≤ 140737488355328 := Nat.le_trans (Nat.mul_le_mul_right _ (by omega)) heb
 have hown0 := hown
 rw [← hes] at hown
 have hrunA : ∃ v' w1, (∀ ty, (Builtin.append_ #[70, 70] ty #[.slice (a.map fun b => ⟨b, 0, none⟩) n c, .slice (some ⟨vb, 0, none⟩) 1 vc]).run Try.prog w = .ok v' w1) ∧ InsOut a n c (xs ++ us) w (.returned v') w1 := by
  obtain ⟨v', w1, hrun, hown2, hg, happ⟩ := run_app (P := Try.prog) (ty := 0) hT (tt.get hei) (by omega) hown (Src.ofSlice w hT ⟨vb, 0, none⟩ 1 vc us (by rw [hvl, hes]) (fun j u hj => by rw [Addr.add_lit, Nat.zero_add]; exact hvs j u hj) h1v) (by omega) hnb
  rw [hes] at hown2
  exact ⟨v', w1, fun ty => hrun, v', rfl, hown2, hg, happ⟩
 obtain ⟨v', w1, hrz, hout⟩ := hrunA
 obtain ⟨ad, had⟩ : ∃ ad : Option Addr, ad = a.map fun b => ⟨b, 0, none⟩ := ⟨_, rfl⟩
 rw [← had] at hrz ⊢
 clear had hown hown0
 have hz : ∀ w, (sizeOf 144).run Try.prog w = .ok 15 w := fun w => (tt.get (T := 144) rfl).run_size w
 by_cases hcn : c = n
 ·subst hcn
  go_enter Try.func77, Try.ntmps77
  go_wp2_with (at_builtin; refine Lib.wpList_append_run _ rfl _ _ _ _ rfl _ _ rfl rfl _ _ (hrz _) ?_)
  go_ret
  exact hout
 ·go_enter Try.func77, Try.ntmps77
  go_wp2_with (at_builtin; refine Lib.wpList_append_run _ rfl _ _ _ _ rfl _ _ rfl rfl _ _ (hrz _) ?_)
  go_ret
  exact hout
theorem Ins (a : Option Nat) (n c i vb vc : Nat) (xs us : List Value) (ca : Array Value) (E' : TypeId) (fz : Nat × Nat) (w : World) (hi : i ≤ n) (hbig : n ≤ 1000000)
    (hown : w.oRow 0 144 15 (.slice (a.map fun b => ⟨b, 0, none⟩) n c) n xs) (hvl : us.length = 15) (hav : a ≠ some vb)
    (hvb : w.heap[vb]? = some (.cells ca E' fz)) (hfz : fz.2 = fz.1) (hvs : ∀ j v, us[j]? = some v → w.cell? ⟨vb, j, none⟩ = some v) (h1c : ∀ v ∈ xs, v.oneCell' = true) (h1v : ∀ v ∈ us, v.oneCell' = true) :
    Calls Try.prog 77 #[.slice (a.map fun b => ⟨b, 0, none⟩) n c, .int .i64 i, .slice (some ⟨vb, 0, none⟩) 1 vc] w
      (InsOut a n c (xs.take (i * 15) ++ us ++ xs.drop (i * 15)) w) := by
  have hcl : xs.length = n * 15 := hown.1
  have hcc : n ≤ c ∧ c ≤ maxLen := by
    rcases hown.2 with ⟨hv, h0⟩ | ⟨g, cap, cur, fz, hv, h1, h2, h3, h4, h5, h6, h7⟩
    · simp at hv; omega
    · simp at hv; omega
  have hc63 : c ≤ 9223372036854775807 := by have := hcc.2; unfold maxLen at this; omega
  rcases Nat.eq_or_lt_of_le hi with rfl | hlt
  · rw [List.take_of_length_le (by omega), List.drop_of_length_le (by omega), List.append_nil]
    exact InsEnd a i c vb vc xs us w hcc.1 hc63 hbig hown hvl hvs h1v
  · obtain ⟨b, rfl⟩ : ∃ b, a = some b := by
      rcases hown.2 with ⟨hv, h0⟩ | ⟨g, cap, cur, fz, hv, _⟩
      · omega
      · cases a with
        | none => simp at hv
        | some b => exact ⟨b, rfl⟩
    have hcs : ∀ j v, xs[j]? = some v → w.cell? ⟨b, j, none⟩ = some v := fun j v hj => by
      have := oRow_cells hown (g := b) (by simp [Value.ownBlock]) j v hj
      rwa [Addr.add_lit, Nat.zero_add] at this
    rcases Nat.lt_or_ge c (n + 1) with hroom | hroom
    · exact InsGrow b n c i vb vc xs us w hlt hcc.1 hroom hbig hown hcl hvl (Array.getElem?_eq_some_iff.1 hvb).1 hcs hvs h1c h1v
    · obtain ⟨cur, fz2, q1, q2, q3, q4⟩ : ∃ cur fz2, w.heap[b]? = some (.cells cur 144 fz2) ∧ cur.size = c * 15 ∧ cur.toList.take (n * 15) = xs ∧ (fz2.2 = fz2.1 ∨ cur.size ≤ fz2.1) := by
        rcases hown.2 with ⟨hv, h0⟩ | ⟨g, cap, cur, fz, hv, h1, h2, h3, h4, h5, h6, h7⟩
        · omega
        · simp at hv
          obtain ⟨rfl, rfl⟩ := hv
          exact ⟨cur, fz, h2, h5, h6, h7.imp id And.left⟩
      have hle : (n + 1) * 15 ≤ cur.size := by rw [q2]; exact Nat.mul_le_mul_right _ hroom
      have hsp : ∀ j, j < (n + 1) * 15 → (w.cell? ⟨b, j, none⟩).isSome = true := fun j hj => by
        rw [cell_of_row w b j cur _ _ q1, Array.getElem?_eq_getElem (by omega)]; rfl
      have hnf : ∀ j, j < (n + 1) * 15 → w.frozen? ⟨b, j, none⟩ = false := fun j hj => frozen_oRow q1 q4 (by omega)
      have hdl : (xs.drop (i * 15)).length = (n - i) * 15 := by rw [List.length_drop, hcl, Nat.sub_mul]
      have hownX : w.drew.oRow 0 144 15 (.slice (some ⟨b, 0, none⟩) (n + 1) c) (n + 1) (xs.take (i * 15) ++ xs.drop (i * 15) ++ (cur.toList.take ((n + 1) * 15)).drop (n * 15)) := by
        have e : xs.take (i * 15) ++ xs.drop (i * 15) ++ (cur.toList.take ((n + 1) * 15)).drop (n * 15) = cur.toList.take ((n + 1) * 15) := by
          rw [List.take_append_drop, ← q3]
          have := List.take_append_drop (n * 15) (cur.toList.take ((n + 1) * 15))
          rwa [List.take_take, Nat.min_eq_left (by omega)] at this
        rw [e]
        rcases hown.2 with ⟨hv, h0⟩ | ⟨g, cap, cur', fz, hv, h1, h2, h3, h4, h5, h6, h7⟩
        · omega
        · simp at hv
          obtain ⟨rfl, rfl⟩ := hv
          rw [h2] at q1
          cases q1
          exact ⟨by rw [List.length_take, Array.length_toList]; omega, .inr ⟨b, c, cur, _, rfl, h1, h2, hroom, h4, h5, rfl, h7⟩⟩
      obtain ⟨own3, _⟩ := own_set Try.prog hownX (off := (i + 1) * 15) (us := xs.drop (i * 15)) (by rw [hdl]; omega) (fun v hv => h1c v (List.mem_of_mem_drop hv))
      obtain ⟨own4, _⟩ := own_set Try.prog own3 (off := i * 15) (us := us) (by rw [hvl]; omega) h1v
      have e := ins_shift (A := xs.take (i * 15)) (B := us) (D := xs.drop (i * 15)) (J := (cur.toList.take ((n + 1) * 15)).drop (n * 15)) (p := i * 15) (q := 15) (by rw [List.length_take, hcl]; omega) hvl (by rw [hownX.1, hdl]; omega)
      have e15 : (i + 1) * 15 = i * 15 + 15 := by omega
      rw [e15, e] at own4
      refine Calls.mono (InsShift b n c i vb vc xs us w hlt hroom hc63 (fun h => hav (by rw [h])) hcl hvl hcs hsp hnf hvs h1c h1v E' 144 ca.size cur.size (by simp [World.shape?, hvb]) (by simp [World.shape?, q1]) (by omega) (by simp [World.frozen?, hvb, hfz]) (by simp [World.frozen?, hvb, hfz])) ?_
      rintro e w' ⟨rfl, rfl⟩
      obtain ⟨f1, f2, f3, f4, f5⟩ := setCells_facts b us (i * 15) (w.drew.setCells b ((i + 1) * 15) (xs.drop (i * 15)))
      obtain ⟨g1, g2, g3, g4, g5⟩ := setCells_facts b (xs.drop (i * 15)) ((i + 1) * 15) w.drew
      refine ⟨_, rfl, ?_, ⟨f1.trans g1, f2.trans g2, f3.trans g3, by rw [f4, g4]; exact Nat.le_refl _, fun k hk hne => ?_⟩, .inl rfl⟩
      · rw [e15]; exact own4
      · have hkb : k ≠ b := fun h => hne (by rw [h]; simp [Value.ownBlock])
        rw [f5 k hkb, g5 k hkb]
        rfl
end Wo
end Lf
open Go.RowKit Rg Wm Ar Go.Lib
set_option maxRecDepth 100000
namespace Lf
namespace Wo
def Pw (w : World) (g : Gh) (L : List V) (X : List Value) : Prop := L.length = X.length ∧ ∀ (j : Nat) u x, L[j]? = some u → X[j]? = some x → Rep w g u x
section
variable {w w' : World} {g g' : Gh} {L L1 L2 : List V} {X X1 X2 : List Value}
theorem Pw.app (h1 : Pw w g L1 X1) (h2 : Pw w g L2 X2) : Pw w g (L1 ++ L2) (X1 ++ X2) := ⟨by simp [h1.1, h2.1], fun j u x hj hx => by
 rcases Nat.lt_or_ge j L1.length with h | h
 ·rw [List.getElem?_append_left h] at hj
  rw [List.getElem?_append_left (by rw [← h1.1]; exact h)] at hx
  exact h1.2 j u x hj hx
 ·rw [List.getElem?_append_right h] at hj
  rw [List.getElem?_append_right (by rw [← h1.1]; exact h), ← h1.1] at hx
  exact h2.2 _ u x hj hx⟩
theorem Pw.take (h : Pw w g L X) (k : Nat) : Pw w g (L.take k) (X.take k) := ⟨by simp [h.1], fun j u x hj hx => by
 rw [List.getElem?_take] at hj hx
 split at hj
 ·rename_i hk
  rw [if_pos hk] at hx
  exact h.2 j u x hj hx
 ·cases hj⟩
theorem Pw.drop (h : Pw w g L X) (k : Nat) : Pw w g (L.drop k) (X.drop k) := ⟨by simp [h.1], fun j u x hj hx => by
 rw [List.getElem?_drop] at hj hx
 exact h.2 _ u x hj hx⟩
theorem Pw.mono (h : Pw w g L X) (he : Ev g w g' w') : Pw w' g' L X := ⟨h.1, fun j u x hj hx => (h.2 j u x hj hx).mono he⟩
end
theorem flatTake {sz : Nat} : ∀ (es : List V) (k : Nat), (∀ e ∈ es, e.cells.length = sz) → (es.take k).flatMap V.cells = (es.flatMap V.cells).take (k * sz)
 | [], k, _ => by simp
 | e :: r, 0, _ => by simp
 | e :: r, k + 1, h => by
  have h1 := h e List.mem_cons_self
  rw [List.take_succ_cons, List.flatMap_cons, List.flatMap_cons, flatTake r k fun x hx => h x (List.mem_cons_of_mem _ hx), Nat.succ_mul, Nat.add_comm (k * sz) sz, ← h1, List.take_append, List.take_of_length_le (l := e.cells) (by omega), Nat.add_sub_cancel_left]
theorem flatDrop {sz : Nat} : ∀ (es : List V) (k : Nat), (∀ e ∈ es, e.cells.length = sz) → (es.drop k).flatMap V.cells = (es.flatMap V.cells).drop (k * sz)
 | [], k, _ => by simp
 | e :: r, 0, _ => by simp
 | e :: r, k + 1, h => by
  have h1 := h e List.mem_cons_self
  rw [List.drop_succ_cons, List.flatMap_cons, flatDrop r k fun x hx => h x (List.mem_cons_of_mem _ hx), Nat.succ_mul, Nat.add_comm (k * sz) sz, ← h1, List.drop_append, List.drop_of_length_le (l := e.cells) (by omega), List.nil_append, Nat.add_sub_cancel_left]
set_option maxHeartbeats 1000000 in
theorem Does.insW {o : Oper} {env : Env} {j jv gen n k : Nat} {x ix y : Operand} {ts : Array Nat} {es : List V} {u : V} (ho : o.op = .call { callee := .value (.func 77), args := #[x, ix, y], argTypes := ts })
    (hx : evo env x = some (.w j gen 15 0 n)) (hix : evo env ix = some (.k (.int .i64 ((k : Nat) : Int)))) (hy : evo env y = some (.s (some jv) [u])) (hn : es.length = n) (hk : k ≤ n) (hne : jv ≠ j) (hu : u.cells.length = 15) (hbig : n ≤ 1000000) :
    Does Try.prog o env (.w j (gen + 1) 15 0 (n + 1)) [(j, some (.w 144 15 gen es), some (.w 144 15 (gen + 1) (es.take k ++ [u] ++ es.drop k))), (jv, some (.r 144 15 1), none)] := by
  subst hn
  refine ⟨fun F g a w mem h1 h2 h3 h4 _ K Q hK => ?_⟩
  have hi := h4 _ _ _ (List.mem_cons_self ..)
  have hj := h4 _ _ _ (List.mem_cons_of_mem _ (List.mem_cons_self ..))
  have hrx := h1 x (by simp [ho, Op.operands, Call.operands]) _ hx
  have hri := rep_k (h1 ix (by simp [ho, Op.operands, Call.operands]) _ hix)
  have hry := h1 y (by simp [ho, Op.operands, Call.operands]) _ hy
  obtain ⟨ao, c, ad, e1, hB, hxx, e3, e4⟩ := rep_w h2 hi hrx
  have had := e4 (.inr rfl)
  simp only [Nat.zero_mul] at had
  subst had
  rw [Nat.sub_zero] at hxx
  have hsu : ∀ e ∈ [u], e.cells.length = 15 := fun e he => by rw [List.mem_singleton] at he; subst he; exact hu
  obtain ⟨vb, vc, us, q1, hyy, hown2, hone2, hrep2⟩ : ∃ vb vc us, g.rw jv = some (some vb, 1, vc) ∧ a.eval y = .slice (some ⟨vb, 0, none⟩) 1 vc ∧ w.oRow 0 144 15 (.slice (some ⟨vb, 0, none⟩) 1 vc) 1 us ∧ (∀ e ∈ [u], ∀ z ∈ e.cells, z.one = true) ∧ ∀ (j : Nat) u' z, ([u].flatMap V.cells)[j]? = some u' → us[j]? = some z → Rep w g.bare u' z := by
    rcases rep_tip h2 hry hj hsu with ⟨ao, c, zs, e1, e2, hown, hp, hone, hrep⟩ | ⟨h, _⟩
    · cases ao with
      | none => rcases hown.2 with ⟨_, h0⟩ | ⟨q, cp, cur, fz, hv, _⟩
                · cases h0
                · simp at hv
      | some vb => exact ⟨vb, c, zs, e1, e2, hown, hone, hrep⟩
    · cases h
  obtain ⟨xs, hown, hrep⟩ := hB.own
  have hul : us.length = 15 := hown2.1
  have hav : ao ≠ some vb := fun e => h2.dj j jv _ _ vb 0 (Ne.symm hne) hi hj ⟨_, _, by rw [e1, e]⟩ ⟨_, _, q1⟩
  have hfx := flat_len fun e he => (hB.cells e he).1
  have hfu := flat_len hsu
  have hpx : Pw w g.bare (es.flatMap V.cells) xs := ⟨by rw [hfx, hown.1], hrep⟩
  have hpu : Pw w g.bare ([u].flatMap V.cells) us := ⟨by rw [hfu, hown2.1]; rfl, hrep2⟩
  have hone : ∀ {L : List V} {X : List Value}, Pw w g.bare L X → (∀ e ∈ L, e.one = true) → ∀ x ∈ X, x.oneCell' = true := fun {L X} hp h x hx => by
    obtain ⟨i, hi, rfl⟩ := List.getElem_of_mem hx
    have hi2 : i < L.length := by rw [hp.1]; exact hi
    exact (hp.2 i _ _ (List.getElem?_eq_getElem hi2) (List.getElem?_eq_getElem hi)).oneCell (h _ (List.getElem_mem hi2))
  have h1c := hone hpx fun e he => by
    obtain ⟨z, hz, hez⟩ := List.mem_flatMap.1 he
    exact (hB.cells z hz).2 e hez
  have h1v := hone hpu fun e he => by
    obtain ⟨z, hz, hez⟩ := List.mem_flatMap.1 he
    exact hone2 z hz e hez
  obtain ⟨ca, fz, hvb, hfz⟩ : ∃ ca fz, w.heap[vb]? = some (.cells ca 144 fz) ∧ fz.2 = fz.1 := by
    rcases hown2.2 with ⟨hv, _⟩ | ⟨q, cap, cur, fz, hv, _, hq, _, _, _, _, hf⟩
    · simp at hv
    · simp at hv
      obtain ⟨rfl, rfl⟩ := hv
      exact ⟨cur, fz, hq, hf.resolve_right fun h => by cases h.2⟩
  have hvs : ∀ j v, us[j]? = some v → w.cell? ⟨vb, j, none⟩ = some v := fun j v hj => by
    have := oRow_cells hown2 (g := vb) (by simp [Value.ownBlock]) j v hj
    rwa [Addr.add_lit, Nat.zero_add] at this
  have hcall := Ins ao es.length c k vb vc xs us ca _ fz w hk hbig hown hul hav hvb hfz hvs h1c h1v
  unfold Oper.wp
  rw [exec_call (xs := [x, ix, y]) ho (by kernel_rfl)]
  have hargs : ([x, ix, y].map a.eval).toArray = #[.slice (ao.map fun b => ⟨b, 0, none⟩) es.length c, .int .i64 k, .slice (some ⟨vb, 0, none⟩) 1 vc] := by
    simp [hxx, hri, hyy]
  rw [hargs]
  refine Calls.mono hcall ?_
  rintro e w' ⟨v', rfl, hown', hg, happ⟩
  have hcl : ∀ e ∈ es.take k ++ [u] ++ es.drop k, e.cells.length = 15 ∧ ∀ u ∈ e.cells, u.one = true := fun e he => by
    simp only [List.mem_append] at he
    rcases he with (he | he) | he
    · exact hB.cells e (List.mem_of_mem_take he)
    · exact ⟨hsu e he, hone2 e he⟩
    · exact hB.cells e (List.mem_of_mem_drop he)
  obtain ⟨g', a', c', rfl, k1, k2, k3, k4⟩ := h2.growW h3 (n := es.length) (m := 1) (es' := es.take k ++ [u] ++ es.drop k) (xs := xs.take (k * 15) ++ us) (news := xs.drop (k * 15)) hi e1 (by simp only [List.length_append, List.length_take, List.length_drop, List.length_singleton]; omega) hcl hown' hg (fun g' he j u' x' hj hx' => by
    have hp : Pw w g.bare ((es.take k ++ [u] ++ es.drop k).flatMap V.cells) (xs.take (k * 15) ++ us ++ xs.drop (k * 15)) := by
      rw [List.flatMap_append, List.flatMap_append, flatTake es k fun e he => (hB.cells e he).1, flatDrop es k fun e he => (hB.cells e he).1]
      exact ((hpx.take _).app hpu).app (hpx.drop _)
    exact (hp.mono he.bare).2 j u' x' hj hx') happ
  refine hK _ g' w' k2 (by rw [tset_head (by rfl)]; exact k3) k4 (.w ⟨a', gen + 1, c', k1, Nat.le_refl _, fun _ => ⟨?_, by omega, fun _ => by simp⟩⟩)
  obtain ⟨a2, c2, p1, p2⟩ := k3.buf (i := j) (aget_self _ _ _)
  rw [k1] at p1; cases p1
  have := (buf_le p2).1
  simp only [List.length_append, List.length_take, List.length_drop, List.length_singleton] at this
  omega
end Wo
end Lf
open Go.RowKit Rg Wm Ar
set_option linter.unusedVariables false
set_option maxRecDepth 100000
namespace Lf
open Pk Ro Tr
namespace Wo
theorem getD_get {α : Type} [Inhabited α] {l : List α} {i : Nat} (h : i < l.length) : l.getD i default = l[i] := by
 rw [List.getD_eq_getElem?_getD, List.getElem?_eq_getElem h]
 rfl
theorem srt_iff {l : List Ho} : Srt l ↔ l.Pairwise fun a b => adN a < adN b := by
 rw [List.pairwise_iff_getElem]
 constructor
 ·intro h i j hi hj hij
  have := h i j hij hj
  rwa [getD_get hi, getD_get hj] at this
 ·intro h i j hij hj
  have := h i j (by omega) hj hij
  rwa [← getD_get hj, ← getD_get (l := l) (i := i) (by omega)] at this
def others (l : List Ho) (ad : List UInt8) : List Ho := l.filter fun h => decide (h.addr ≠ ad)
theorem others_srt {l : List Ho} {ad : List UInt8} (h : Srt l) : Srt (others l ad) := srt_iff.2 ((srt_iff.1 h).filter _)
theorem others_ok {l : List Ho} {ad : List UInt8} (h : ∀ x ∈ l, x.ok) : ∀ x ∈ others l ad, x.ok := fun x hx => h x (List.mem_filter.1 hx).1
theorem others_le {l : List Ho} {ad : List UInt8} : (others l ad).length ≤ l.length := List.length_filter_le _ _
theorem others_eq {l : List Ho} {ad : List UInt8} {i : Nat} (h : i < l.length) (e : (l.getD i default).addr = ad) : others (l.take (i + 1)) ad = others (l.take i) ad := by
 unfold others
 rw [List.take_succ_eq_append_getElem h, List.filter_append, ← getD_get h, List.filter_cons, List.filter_nil]
 simp [e, -List.getD_eq_getElem?_getD]
theorem others_ne {l : List Ho} {ad : List UInt8} {i : Nat} (h : i < l.length) (e : ¬ (l.getD i default).addr = ad) : others (l.take (i + 1)) ad = others (l.take i) ad ++ [l.getD i default] := by
 unfold others
 rw [List.take_succ_eq_append_getElem h, List.filter_append, ← getD_get h, List.filter_cons, List.filter_nil]
 simp [e, -List.getD_eq_getElem?_getD]
def insW (l : List Ho) (x : Ho) : List Ho := l.take (idx l (adN x)) ++ [x] ++ l.drop (idx l (adN x))
def setW (l : List Ho) (ad : List UInt8) (a : Ac) : List Ho := if nothing a then others l ad else insW (others l ad) ⟨ad, a⟩
theorem LC.nilbufT {P : Program} {F : Fr0} {N : Nat} {Q : LQ} {env : Env} {mem : Mem} {c : Code} (t i E sz : Nat) (ht : aget env t = some .nil) (hi : aget mem i = none) (hp : Nat.blt 0 sz = true) (h : LC P F N c Q ((t, .w i 0 sz 0 0) :: env) ((i, .w E sz 0 []) :: mem)) : LC P F N c Q env mem := ⟨fun F0 hx g a w hr => by
 have hown0 : w.oRow 0 E sz (.slice (Option.map (fun b => (⟨b, 0, none⟩ : Addr)) none) 0 0) 0 [] := oRow_nil w 0 E sz
 have hgi : (g.addRow i (none, 0, 0)).rw i = some (none, 0, 0) := by simp [Gh.addRow]
 obtain ⟨he, h2, h3⟩ := hr.mem.nilRow hr.kept (m := .w E sz 0 []) hi (.w hgi ⟨Nat.le_of_ble_eq_true hp, by simp, ⟨_, hown0, by simp⟩, fun _ h => by cases h⟩) fun b o ⟨l, c, hp⟩ => by rw [hgi] at hp; cases hp
 refine h.go F0 hx _ a w ⟨fun t' v hv => ?_, h2, h3, hr.defers, hr.size, hr.big⟩
 rw [aget_cons] at hv
 split at hv
 ·rename_i e; subst e; cases hv
  obtain ⟨x, h1, h2⟩ := hr.env t _ ht
  cases h2
  exact ⟨_, h1, .w ⟨none, 0, 0, hgi, Nat.le_refl _, fun _ => ⟨Nat.le_refl _, rfl, fun _ => rfl⟩⟩⟩
 ·obtain ⟨x, h1, h2⟩ := hr.env t' v hv
  exact ⟨x, h1, h2.mono he⟩⟩
set_option maxHeartbeats 4000000 in
theorem Set_none (l : List Ho) (ad : List UInt8) (a : Ac) (hd : ad.length = 8) (hl : ∀ x ∈ l, x.ok) (hn : l.length < 900000) (h : a.ok) (hw : wRight l = true) (hz : nothing a = true) (hr : sRight a.slots = true) (hc : a.code.length ≤ 1024) : LF Try.prog 38 [hosV l, hashV ad, acV a] (fun _ => .t [hosV (others l ad), .k (.int .i64 0)]) none := by
 have c1 := Right_w l hl (by omega)
 rw [hw] at c1
 have c2 := slotsRight_ a.slots h.slots h.sl
 rw [hr] at c2
 have c3 := none_ a h
 rw [hz] at c3
 have hlm : (l.map hoV).length = l.length := List.length_map _
 have hl7 : (acC a).length = 7 := acS_len
 have ld1 := @ac_c
 have ld2 := @ac_s
 have ld3 := @ho_a
 have ld4 := @ho_ac
 have hrf := And.intro refs_b acS_refs
 have hrg := hoS_refs
 have hcv := hoS_cv
 refine LFx.mk' tt Try.func38 rfl rfl rfl (by kernel_rfl) rfl rfl fun F => ?_
 refine wk ?_ trueW trueW
 refine LC.nilrow 8 60 144 15 rfl rfl rfl ?_
 refine LC.loop2 (fun i S => [(0, hosV l), (4, .p 4 0), (5, .p 5 0), (8, .s (some 60) (S.map hoV)), (28, hosV l), (29, .k (.int .i64 ((l.length : Nat) : Int))), (30, .k (.int .i64 ((i : Nat) : Int)))]) (fun i S => [(4, .b (ad.map bK)), (5, .b (acC a)), (60, .r 144 15 S.length)]) (fun i S => i ≤ l.length ∧ S = others (l.take i) ad) ((l.length - ·)) (0) ([]) ⟨by omega, rfl⟩ ⟨rfl, rfl, rfl, rfl, rfl, rfl, rfl, trivial⟩ ⟨rfl, rfl, rfl, trivial⟩ rfl rfW rfW ?_
 rintro i S ⟨hi, hS⟩
 have hSl : S.length ≤ i := by rw [hS]; have := others_le (l := l.take i) (ad := ad); rw [List.length_take] at this; omega
 have hSm : (S.map hoV).length = S.length := List.length_map _
 have z1 : ∀ e ∈ S.map hoV, e.cells.length = 15 := fun e he => by
  obtain ⟨x, hx, rfl⟩ := List.mem_map.1 he
  rw [hS] at hx
  exact hoS_len (hl _ (List.mem_of_mem_take (List.mem_filter.1 hx).1)).addr
 rcases Nat.lt_or_ge i l.length with hlt | hge
 ·have hs := hl _ (getD_in hlt)
  have ha := hs.addr
  have hl15 : (hoC (l.getD i default)).length = 15 := hoS_len ha
  by_cases he : (l.getD i default).addr = ad
  ·have hok : i + 1 ≤ l.length ∧ S = others (l.take (i + 1)) ad := ⟨hlt, by rw [others_eq hlt he]; exact hS⟩
   have he2 : ¬ ¬ (l.getD i default).addr = ad := fun k => k he
   clear hl h hS hs hz hr hw
   exact wk trueW trueW trueW
  ·have hok : i + 1 ≤ l.length ∧ S ++ [l.getD i default] = others (l.take (i + 1)) ad := ⟨hlt, by rw [others_ne hlt he, ← hS]⟩
   have c4 := own_ (l.getD i default).acc hs.acc
   have hcl : vfill (fun i => [(0, 8), (8, 7)][i]?) (zerosH.map Z.v) [(0, hashV (l.getD i default).addr), (1, acV (l.getD i default).acc)] = some (hoC (l.getD i default)) := hol_b _ _ ha
   have hcn : V.cv.go (fun _ => false) true (hoC (l.getD i default)) = hoC (l.getD i default) := ho_cvT _
   have hbr := hoV_bare
   have hal : (acC (l.getD i default).acc).length = 7 := acS_len
   clear hl h hS hs hz hr hw
   exact wk trueW trueW trueW
 ·obtain rfl : i = l.length := by omega
  rw [List.take_length] at hS
  subst hS
  clear hl h hz hr hw
  exact wk trueW trueW trueW
section
variable {F : Fr0} {N : Nat} {ops : Array Oper} {chk : List (Nat × Tch) → Bool} {K : Env → Mem → Prop} {acc : List (Nat × Tch)} {env : Env} {mem : Mem} {i d : Nat} {o : Oper} {rs : List (Nat × Oper)}
theorem DR.insW {j jv gen n k : Nat} {x ix y : Operand} {ts : Array Nat} {es es2 : List V} {u : V} (ho : o.op = .call { callee := .value (.func 77), args := #[x, ix, y], argTypes := ts }) (hg : gd ops env o = some true) (hds : o.dst = some d)
  (hx : evo env x = some (.w j gen 15 0 n)) (hix : evo env ix = some (.k (.int .i64 ((k : Nat) : Int)))) (hy : evo env y = some (.s (some jv) [u])) (hm : aget mem j = some (.w 144 15 gen es)) (hm2 : aget mem jv = some (.r 144 15 1)) (hn : es.length = n) (hk : k ≤ n) (hne : jv ≠ j) (hu : u.cells.length = 15) (hbig : n ≤ 1000000) (hz : es.take k ++ [u] ++ es.drop k = es2) (hd : Nat.blt d N = true)
  (hK : DR Try.prog F N ops chk K rs ((i, [(j, some (.w 144 15 gen es), some (.w 144 15 (gen + 1) es2)), (jv, some (.r 144 15 1), none)]) :: acc) ((d, .w j (gen + 1) 15 0 (n + 1)) :: env) ((j, .w 144 15 (gen + 1) es2) :: mem)) : DR Try.prog F N ops chk K ((i, o) :: rs) acc env mem := by
 subst hz
 exact DR.step hg (Does.insW ho hx hix hy hn hk hne hu hbig) (tpre_two hm hm2) (by rw [hds]; exact hd) (by rw [hds]; exact hK)
end
theorem ins_map (F : List Ho) (k : Nat) (x : Ho) : (F.map hoV).take k ++ [hoV x] ++ (F.map hoV).drop k = (F.take k ++ [x] ++ F.drop k).map hoV := by
 rw [List.map_append, List.map_append, List.map_take, List.map_drop]
 rfl
theorem insW_len (F : List Ho) (x : Ho) : (insW F x).length = F.length + 1 := by
 have := idx_le F (adN x)
 unfold insW
 simp only [List.length_append, List.length_take, List.length_drop, List.length_singleton]
 omega
set_option maxHeartbeats 4000000 in
theorem Set_ins (l : List Ho) (ad : List UInt8) (a : Ac) (hd : ad.length = 8) (hl : ∀ x ∈ l, x.ok) (hn : l.length < 900000) (h : a.ok) (hw : wRight l = true) (hz : nothing a = false) (hr : sRight a.slots = true) (hc : a.code.length ≤ 1024) (hF : 0 < (others l ad).length) : LF Try.prog 38 [hosV l, hashV ad, acV a] (fun _ => .t [hosV (insW (others l ad) ⟨ad, a⟩), .k (.int .i64 0)]) none := by
 have c1 := Right_w l hl (by omega)
 rw [hw] at c1
 have c2 := slotsRight_ a.slots h.slots h.sl
 rw [hr] at c2
 have c3 := none_ a h
 rw [hz] at c3
 have hlm : (l.map hoV).length = l.length := List.length_map _
 have hl7 : (acC a).length = 7 := acS_len
 have ld1 := @ac_c
 have ld2 := @ac_s
 have ld3 := @ho_a
 have ld4 := @ho_ac
 have hrf := And.intro refs_b acS_refs
 have hrg := hoS_refs
 have hcv := hoS_cv
 refine LFx.mk' tt Try.func38 rfl rfl rfl (by kernel_rfl) rfl rfl fun F => ?_
 refine wk ?_ trueW trueW
 refine LC.nilbufT 8 60 144 15 rfl rfl rfl ?_
 refine LC.loop5 (fun i n S (_u3 : Unit) (_u4 : Unit) => [(0, hosV l), (4, .p 4 0), (5, .p 5 0), (8, .w 60 n 15 0 n), (28, hosV l), (29, .k (.int .i64 ((l.length : Nat) : Int))), (30, .k (.int .i64 ((i : Nat) : Int)))]) (fun i n S (_u3 : Unit) (_u4 : Unit) => [(4, .b (ad.map bK)), (5, .b (acC a)), (60, .w 144 15 n (S.map hoV))]) (fun i n S (_u3 : Unit) (_u4 : Unit) => i ≤ l.length ∧ S = others (l.take i) ad ∧ S.length = n) ((l.length - ·)) (0) (0) ([]) () () ⟨by omega, rfl, rfl⟩ ⟨rfl, rfl, rfl, rfl, rfl, rfl, rfl, trivial⟩ ⟨rfl, rfl, rfl, trivial⟩ rfl rfW rfW ?_
 rintro i n S _ _ ⟨hi, hS, hSn⟩
 have hSl : S.length ≤ i := by rw [hS]; have := others_le (l := l.take i) (ad := ad); rw [List.length_take] at this; omega
 have hSm : (S.map hoV).length = n := by rw [List.length_map]; exact hSn
 have z1 : ∀ e ∈ S.map hoV, e.cells.length = 15 := fun e he => by
  obtain ⟨x, hx, rfl⟩ := List.mem_map.1 he
  rw [hS] at hx
  exact hoS_len (hl _ (List.mem_of_mem_take (List.mem_filter.1 hx).1)).addr
 rcases Nat.lt_or_ge i l.length with hlt | hge
 ·have hs := hl _ (getD_in hlt)
  have ha := hs.addr
  have hl15 : (hoC (l.getD i default)).length = 15 := hoS_len ha
  by_cases he : (l.getD i default).addr = ad
  ·have hok : i + 1 ≤ l.length ∧ S = others (l.take (i + 1)) ad ∧ S.length = n := ⟨hlt, by rw [others_eq hlt he]; exact hS, hSn⟩
   have he2 : ¬ ¬ (l.getD i default).addr = ad := fun k => k he
   clear hl h hS hs hz hr hw hF
   exact wk trueW trueW trueW
  ·have hok : i + 1 ≤ l.length ∧ S ++ [l.getD i default] = others (l.take (i + 1)) ad ∧ (S ++ [l.getD i default]).length = n + 1 := ⟨hlt, by rw [others_ne hlt he, ← hS], by rw [List.length_append, hSn]; rfl⟩
   have c4 := own_ (l.getD i default).acc hs.acc
   have hcl : vfill (fun i => [(0, 8), (8, 7)][i]?) (zerosH.map Z.v) [(0, hashV (l.getD i default).addr), (1, acV (l.getD i default).acc)] = some (hoC (l.getD i default)) := hol_b _ _ ha
   have hcn : V.cv.go (fun _ => false) true (hoC (l.getD i default)) = hoC (l.getD i default) := ho_cvT _
   have hbr := hoV_bare
   have hal : (acC (l.getD i default).acc).length = 7 := acS_len
   have hlN : n + [hoV (l.getD i default)].length = n + 1 := rfl
   clear hl h hS hs hz hr hw hF
   exact wk trueW trueW trueW
 ·obtain rfl : i = l.length := by omega
  rw [List.take_length] at hS
  subst hS
  have hfl := others_le (l := l) (ad := ad)
  have c4 := find_ (others l ad) ad (fun x hx => (others_ok hl x hx).addr) hd (others_srt (srt_of hw)) (by omega)
  have hk := idx_le (others l ad) (Ps.beN ad)
  have e4 : ((others l ad).map hoV).drop 0 = (others l ad).map hoV := List.drop_zero
  have e5 : (((others l ad).map hoV).drop 0).take n = (others l ad).map hoV := by rw [e4, List.take_of_length_le (by omega)]
  have hiz : ((others l ad).map hoV).take (idx (others l ad) (Ps.beN ad)) ++ [hoV ⟨ad, a⟩] ++ ((others l ad).map hoV).drop (idx (others l ad) (Ps.beN ad)) = (insW (others l ad) ⟨ad, a⟩).map hoV := ins_map _ _ _
  have hil : ((insW (others l ad) ⟨ad, a⟩).map hoV).length = n + 1 := by rw [List.length_map, insW_len, hSn]
  have hil2 : (insW (others l ad) ⟨ad, a⟩).length = n + 1 := by rw [insW_len, hSn]
  have c5 := own_ a h
  have hcl : vfill (fun i => [(0, 8), (8, 7)][i]?) (zerosH.map Z.v) [(0, hashV ad), (1, acV a)] = some (hoC ⟨ad, a⟩) := hol_b _ _ hd
  have hcn : V.cv.go (fun _ => false) true (hoC ⟨ad, a⟩) = hoC ⟨ad, a⟩ := ho_cvT _
  have hbr := hoV_bare
  have hl15 : (hoC ⟨ad, a⟩).length = 15 := hoS_len hd
  have hfz : FrzAt 6 60 := ⟨⟩
  have hrb := refs_b
  generalize insW (others l ad) ⟨ad, a⟩ = Y at *
  generalize idx (others l ad) (Ps.beN ad) = ix at *
  generalize found (others l ad) (Ps.beN ad) = fb at *
  clear hl h hz hr hw
  refine wk ?_ trueW trueW
  refine DR.rr rfl rfl (Does.callV [(60, .w 144 15 n ((others l ad).map hoV))] c4 rfl rfl (.cons (.w (E := 144) (es := (others l ad).map hoV) (aget_self _ _ _) (by omega) (by omega) e5) (.cons (.same (fun _ => false) true (congrArg V.a (cv_b (fun _ => false) true ad)) (hrb _ _)) .nil)) rfl) rfl rfl ?_
  refine wk ?_ trueW trueW
  refine DR.insW (j := 60) (jv := 63) (k := ix) (es := (others l ad).map hoV) (u := hoV ⟨ad, a⟩) rfl rfl rfl rfl rfl rfl rfl rfl hSm (by omega) (by decide) hl15 (by omega) hiz rfl ?_
  exact wk trueW trueW trueW
end Wo
end Lf
open Go.RowKit Rg Wm Ar
set_option linter.unusedVariables false
set_option maxRecDepth 100000
namespace Lf
open Pk Ro Tr
namespace Wo
theorem others_nil {l : List Ho} {ad : List UInt8} (h : others l ad = []) {x : Ho} (hx : x ∈ l) : x.addr = ad := by
 by_cases e : x.addr = ad
 ·exact e
 ·have : x ∈ others l ad := List.mem_filter.2 ⟨hx, decide_eq_true e⟩
  rw [h] at this
  cases this
set_option maxHeartbeats 4000000 in
theorem Set_one (l : List Ho) (ad : List UInt8) (a : Ac) (hd : ad.length = 8) (hl : ∀ x ∈ l, x.ok) (hn : l.length < 900000) (h : a.ok) (hw : wRight l = true) (hz : nothing a = false) (hr : sRight a.slots = true) (hc : a.code.length ≤ 1024) (hF : others l ad = []) : LF Try.prog 38 [hosV l, hashV ad, acV a] (fun _ => .t [hosV [⟨ad, a⟩], .k (.int .i64 0)]) none := by
 have c1 := Right_w l hl (by omega)
 rw [hw] at c1
 have c2 := slotsRight_ a.slots h.slots h.sl
 rw [hr] at c2
 have c3 := none_ a h
 rw [hz] at c3
 have e1 : wRight [] = true := by decide
 have c4 := find_ [] ad (fun x hx => by cases hx) hd (srt_of e1) (by decide)
 have e2 : idx [] (Ps.beN ad) = 0 := rfl
 have e3 : found [] (Ps.beN ad) = false := by unfold found; exact decide_eq_false fun k => by cases k.1
 rw [e2, e3] at c4
 have c4 := nil1 c4
 have c5 := own_ a h
 have c6 := Insert0 ⟨ad, a⟩ hd
 have hl15' : (hoC ⟨ad, a⟩).length = 15 := hoS_len hd
 have hlm : (l.map hoV).length = l.length := List.length_map _
 have hl7 : (acC a).length = 7 := acS_len
 have hal : (acS a.nonce a.money (bV a.code) (slsV a.slots)).length = 7 := acS_len
 have hcl : vfill (fun i => [(0, 8), (8, 7)][i]?) (zerosH.map Z.v) [(0, hashV ad), (1, acV a)] = some (hoC ⟨ad, a⟩) := hol_b _ _ hd
 have hcn : V.cv.go (fun _ => false) true (hoC ⟨ad, a⟩) = hoC ⟨ad, a⟩ := ho_cvT _
 have ld1 := @ac_c
 have ld2 := @ac_s
 have ld3 := @ho_a
 have ld4 := @ho_ac
 have hrf := And.intro refs_b acS_refs
 have hrg := hoS_refs
 have hbr := hoV_bare
 have hcv := hoS_cv
 clear hz hr e1 e2 e3 hw
 refine LFx.mk' tt Try.func38 rfl rfl rfl (by kernel_rfl) rfl rfl fun F => ?_
 refine wk ?_ trueW trueW
 refine LC.loopN (fun i => [(0, hosV l), (4, .p 4 0), (5, .p 5 0), (8, .nil), (28, hosV l), (29, .k (.int .i64 ((l.length : Nat) : Int))), (30, .k (.int .i64 ((i : Nat) : Int)))]) (fun i => [(4, .b (ad.map bK)), (5, .b (acC a))]) (fun i => i ≤ l.length) ((l.length - ·)) (0) (by omega) ⟨rfl, rfl, rfl, rfl, rfl, rfl, rfl, trivial⟩ ⟨rfl, rfl, trivial⟩ rfl rfW rfW ?_
 rintro i hi
 rcases Nat.lt_or_ge i l.length with hlt | hge
 ·have hs := hl _ (getD_in hlt)
  have ha := hs.addr
  have hl15 : (hoC (l.getD i default)).length = 15 := hoS_len ha
  have he : (l.getD i default).addr = ad := others_nil hF (getD_in hlt)
  have hok : i + 1 ≤ l.length := hlt
  have he2 : ¬ ¬ (l.getD i default).addr = ad := fun k => k he
  clear hl h hs hF
  exact wk trueW trueW trueW
 ·obtain rfl : i = l.length := by omega
  clear hl h hF
  exact wk trueW trueW trueW
set_option maxHeartbeats 2000000 in
theorem Set_no (l : List Ho) (ad : List UInt8) (a : Ac) (hd : ad.length = 8) (hl : ∀ x ∈ l, x.ok) (hn : l.length < 900000) (h : a.ok) (hw : wRight l = false ∨ sRight a.slots = false) : LF Try.prog 38 [hosV l, hashV ad, acV a] (fun _ => .t [hosV [], .k (.int .i64 1)]) none := by
 have c1 := Right_w l hl (by omega)
 have c2 := slotsRight_ a.slots h.slots h.sl
 have hl7 : (acC a).length = 7 := acS_len
 have ld1 := @ac_c
 have ld2 := @ac_s
 have hrf := And.intro refs_b acS_refs
 have hrg := hoS_refs
 clear h hl
 cases hwl : wRight l with
 | false =>
  rw [hwl] at c1
  clear hw hwl
  generalize sRight a.slots = b at *
  refine LFx.mk' tt Try.func38 rfl rfl rfl (by kernel_rfl) rfl rfl fun F => ?_
  exact wk trueW trueW trueW
 | true =>
  rw [hwl] at c1
  rw [hw.resolve_left (by rw [hwl]; decide)] at c2
  clear hw hwl
  refine LFx.mk' tt Try.func38 rfl rfl rfl (by kernel_rfl) rfl rfl fun F => ?_
  exact wk trueW trueW trueW
set_option maxHeartbeats 2000000 in
theorem Set_long (l : List Ho) (ad : List UInt8) (a : Ac) (hd : ad.length = 8) (hl : ∀ x ∈ l, x.ok) (hn : l.length < 900000) (h : a.ok) (hw : wRight l = true) (hr : sRight a.slots = true) (hc : 1024 < a.code.length) : LF Try.prog 38 [hosV l, hashV ad, acV a] (fun _ => .t [hosV [], .k (.int .i64 2)]) none := by
 have c1 := Right_w l hl (by omega)
 have c2 := slotsRight_ a.slots h.slots h.sl
 rw [hw] at c1
 rw [hr] at c2
 have hcl := h.cl
 have hl7 : (acC a).length = 7 := acS_len
 have ld1 := @ac_c
 have ld2 := @ac_s
 have hrf := And.intro refs_b acS_refs
 have hrg := hoS_refs
 clear h hl hw hr
 refine LFx.mk' tt Try.func38 rfl rfl rfl (by kernel_rfl) rfl rfl fun F => ?_
 exact wk trueW trueW trueW
def setE (l : List Ho) (a : Ac) : Nat := if wRight l = false ∨ sRight a.slots = false then 1 else if 1024 < a.code.length then 2 else 0
theorem setE_zero {l : List Ho} {a : Ac} (h : setE l a = 0) : wRight l = true ∧ sRight a.slots = true ∧ a.code.length ≤ 1024 := by
 unfold setE at h
 split at h
 ·cases h
 ·rename_i h1
  split at h
  ·cases h
  ·refine ⟨?_, ?_, by omega⟩
   ·cases hw : wRight l with
    | true => rfl
    | false => exact absurd (.inl hw) h1
   ·cases hw : sRight a.slots with
    | true => rfl
    | false => exact absurd (.inr hw) h1
theorem Set_ok (l : List Ho) (ad : List UInt8) (a : Ac) (hd : ad.length = 8) (hl : ∀ x ∈ l, x.ok) (hn : l.length < 900000) (h : a.ok) (he : setE l a = 0) : LF Try.prog 38 [hosV l, hashV ad, acV a] (fun _ => .t [hosV (setW l ad a), .k (.int .i64 0)]) none := by
 obtain ⟨hw, hr, hc⟩ := setE_zero he
 unfold setW
 cases hz : nothing a with
 | true =>
  rw [if_pos rfl]
  exact Set_none l ad a hd hl hn h hw hz hr hc
 | false =>
  rw [if_neg (by decide)]
  rcases Nat.eq_zero_or_pos (others l ad).length with h0 | h0
  ·have hF := List.eq_nil_of_length_eq_zero h0
   rw [hF]
   exact Set_one l ad a hd hl hn h hw hz hr hc hF
  ·exact Set_ins l ad a hd hl hn h hw hz hr hc h0
theorem Set_err (l : List Ho) (ad : List UInt8) (a : Ac) (hd : ad.length = 8) (hl : ∀ x ∈ l, x.ok) (hn : l.length < 900000) (h : a.ok) (he : setE l a ≠ 0) : LF Try.prog 38 [hosV l, hashV ad, acV a] (fun _ => .t [hosV [], .k (.int .i64 ((setE l a : Nat) : Int))]) none := by
 unfold setE at *
 by_cases h1 : wRight l = false ∨ sRight a.slots = false
 ·rw [if_pos h1]
  exact Set_no l ad a hd hl hn h h1
 ·rw [if_neg h1] at he ⊢
  by_cases h2 : 1024 < a.code.length
  ·rw [if_pos h2]
   refine Set_long l ad a hd hl hn h ?_ ?_ h2
   ·cases hw : wRight l with
    | true => rfl
    | false => exact absurd (.inl hw) h1
   ·cases hw : sRight a.slots with
    | true => rfl
    | false => exact absurd (.inr hw) h1
  ·exact absurd (if_neg h2) he
end Wo
end Lf
open Go.RowKit Rg Wm Ar
set_option maxRecDepth 100000
namespace Lf
open Pk Ro Tr
namespace Wo
theorem beN_same {l m : List UInt8} (h : l.length = m.length) (e : Ps.beN l = Ps.beN m) : l = m := by
 have key : Ps.beN (1 :: l) = Ps.beN (1 :: m) := by
  show Ps.pos 256 (Ps.nat8 (1 :: l)) = Ps.pos 256 (Ps.nat8 (1 :: m))
  have e' : Ps.pos 256 (Ps.nat8 l) = Ps.pos 256 (Ps.nat8 m) := e
  simp only [Ps.nat8, List.map_cons, Ps.pos, List.length_map] at e' ⊢
  rw [h, e']
 exact (List.cons.inj (Ps.beN_inj (by simp) (by simp) key)).2
theorem wRight_iff {l : List Ho} : wRight l = true ↔ (∀ x ∈ l, nothing x.acc = false ∧ x.acc.code.length ≤ 1024 ∧ sRight x.acc.slots = true) ∧ Srt l := by
 constructor
 ·intro h
  refine ⟨fun x hx => ?_, srt_of h⟩
  obtain ⟨i, hi, rfl⟩ := List.getElem_of_mem hx
  have := of_decide_eq_true h i hi
  unfold hAt at this
  rw [getD_get hi] at this
  exact ⟨this.1, this.2.1, this.2.2.1⟩
 ·rintro ⟨h, hs⟩
  refine decide_eq_true fun i hi => ?_
  have hx := h _ (getD_in hi)
  exact ⟨hx.1, hx.2.1, hx.2.2, fun h0 => hs (i - 1) i (by omega) hi⟩
theorem mem_others {l : List Ho} {ad : List UInt8} {x : Ho} : x ∈ others l ad ↔ x ∈ l ∧ x.addr ≠ ad := by
 unfold others
 rw [List.mem_filter, decide_eq_true_iff]
theorem mem_insW {l : List Ho} {x y : Ho} : y ∈ insW l x ↔ y ∈ l ∨ y = x := by
 unfold insW
 rw [List.mem_append, List.mem_append, List.mem_singleton]
 constructor
 ·rintro ((h | h) | h)
  ·exact .inl (List.mem_of_mem_take h)
  ·exact .inr h
  ·exact .inl (List.mem_of_mem_drop h)
 ·rintro (h | h)
  ·rw [← List.take_append_drop (idx l (adN x)) l, List.mem_append] at h
   rcases h with h | h
   ·exact .inl (.inl h)
   ·exact .inr h
  ·exact .inl (.inr h)
theorem insW_srt {l : List Ho} {x : Ho} (hs : Srt l) (hne : ∀ y ∈ l, adN y ≠ adN x) : Srt (insW l x) := by
 have hp := srt_iff.1 hs
 have hle := idx_le l (adN x)
 have hlow : ∀ y ∈ l.take (idx l (adN x)), adN y < adN x := fun y hy => by
  obtain ⟨i, hi, rfl⟩ := List.getElem_of_mem hy
  rw [List.length_take] at hi
  have := idx_low l (adN x) (j := i) (by omega)
  rw [getD_get (by omega)] at this
  rwa [List.getElem_take]
 have hhigh : ∀ y ∈ l.drop (idx l (adN x)), adN x < adN y := fun y hy => by
  obtain ⟨i, hi, rfl⟩ := List.getElem_of_mem hy
  rw [List.length_drop] at hi
  have h1 := idx_high hs (k := adN x) (j := idx l (adN x) + i) (by omega) (by omega)
  rw [getD_get (by omega)] at h1
  rw [List.getElem_drop]
  have h2 := hne _ (List.getElem_mem (l := l) (n := idx l (adN x) + i) (by omega))
  omega
 refine srt_iff.2 ?_
 unfold insW
 rw [List.pairwise_append, List.pairwise_append]
 have hcut := hp
 rw [← List.take_append_drop (idx l (adN x)) l, List.pairwise_append] at hcut
 refine ⟨⟨hcut.1, List.pairwise_singleton _ _, fun a ha b hb => ?_⟩, hcut.2.1, fun a ha b hb => ?_⟩
 ·rw [List.mem_singleton] at hb
  subst hb
  exact hlow a ha
 ·rcases List.mem_append.1 ha with ha | ha
  ·exact Nat.lt_trans (hlow a ha) (hhigh b hb)
  ·rw [List.mem_singleton] at ha
   subst ha
   exact hhigh b hb
theorem nothing_zero {a : Ac} (h : nothing a = true) : a = zeroA := by
 obtain ⟨h1, h2, h3, h4⟩ := of_decide_eq_true h
 obtain ⟨n, m, c, s⟩ := a
 simp only at h1 h2 h3 h4
 rw [h1, h2, List.eq_nil_of_length_eq_zero h3, List.eq_nil_of_length_eq_zero h4]
 rfl
theorem getW_mem {l : List Ho} (h : Srt l) {x : Ho} (hx : x ∈ l) : getW l (adN x) = x.acc := by
  obtain ⟨i, hi, e⟩ := List.getElem_of_mem hx
  have hii : idx l (adN x) = i := idx_is (fun j hj => by
      have := h j i hj hi
      rwa [getD_get hi, e] at this) (by omega) (fun hl => by rw [getD_get hi, e]; exact Nat.le_refl _)
  unfold getW
  have hf : found l (adN x) = true := decide_eq_true ⟨by rw [hii]; exact hi, by rw [hii, getD_get hi, e]⟩
  rw [hf, if_pos rfl, hii, getD_get hi, e]
theorem getW_not {l : List Ho} {k : Nat} (h : ∀ x ∈ l, adN x ≠ k) : getW l k = zeroA := by
 unfold getW
 have hf : found l k = false := decide_eq_false fun ⟨h1, h2⟩ => h _ (getD_in h1) h2
 rw [hf, if_neg (by decide)]
section
variable {l : List Ho} {ad : List UInt8} {a : Ac}
theorem setW_mem {x : Ho} : x ∈ setW l ad a ↔ (x ∈ l ∧ x.addr ≠ ad) ∨ (nothing a = false ∧ x = ⟨ad, a⟩) := by
 unfold setW
 cases hz : nothing a with
 | true =>
  rw [if_pos rfl, mem_others]
  exact ⟨.inl, fun h => h.elim id fun h => by cases h.1⟩
 | false =>
  rw [if_neg (by decide), mem_insW, mem_others]
  exact ⟨fun h => h.elim .inl fun h => .inr ⟨rfl, h⟩, fun h => h.elim .inl fun h => .inr h.2⟩
theorem ad_ne (hd : ad.length = 8) {x : Ho} (hx : x.addr.length = 8) (h : x.addr ≠ ad) : adN x ≠ Ps.beN ad := fun e => h (beN_same (hx.trans hd.symm) e)
theorem setW_srt (hl : ∀ x ∈ l, x.ok) (hd : ad.length = 8) (hs : Srt l) : Srt (setW l ad a) := by
 unfold setW
 split
 ·exact others_srt hs
 ·exact insW_srt (others_srt hs) fun y hy => ad_ne hd (hl y (mem_others.1 hy).1).addr (mem_others.1 hy).2
theorem setW_ok (hl : ∀ x ∈ l, x.ok) (hd : ad.length = 8) (h : a.ok) : ∀ x ∈ setW l ad a, x.ok := fun x hx => by
 rcases setW_mem.1 hx with h1 | ⟨_, rfl⟩
 ·exact hl x h1.1
 ·exact ⟨hd, h⟩
theorem setW_len : (setW l ad a).length ≤ l.length + 1 := by
 have := others_le (l := l) (ad := ad)
 unfold setW
 split
 ·omega
 ·rw [insW_len]; omega
theorem setW_right (hl : ∀ x ∈ l, x.ok) (hd : ad.length = 8) (he : setE l a = 0) : wRight (setW l ad a) = true := by
 obtain ⟨hw, hr, hc⟩ := setE_zero he
 obtain ⟨h1, h2⟩ := wRight_iff.1 hw
 refine wRight_iff.2 ⟨fun x hx => ?_, setW_srt hl hd h2⟩
 rcases setW_mem.1 hx with h | ⟨h, rfl⟩
 ·exact h1 x h.1
 ·exact ⟨h, hc, hr⟩
theorem get_set (hl : ∀ x ∈ l, x.ok) (hd : ad.length = 8) (hs : Srt l) : getW (setW l ad a) (Ps.beN ad) = a := by
 cases hz : nothing a with
 | false =>
  have := getW_mem (setW_srt (a := a) hl hd hs) (x := ⟨ad, a⟩) (setW_mem.2 (.inr ⟨hz, rfl⟩))
  exact this
 | true =>
  rw [nothing_zero hz]
  refine getW_not fun x hx => ?_
  rcases setW_mem.1 hx with h | ⟨h, _⟩
  ·exact ad_ne hd (hl x h.1).addr h.2
  ·rw [← nothing_zero hz, hz] at h; cases h
theorem get_set_other (hl : ∀ x ∈ l, x.ok) (hd : ad.length = 8) (hs : Srt l) {q : List UInt8} (hq : q.length = 8) (hne : q ≠ ad) : getW (setW l ad a) (Ps.beN q) = getW l (Ps.beN q) := by
 by_cases h : ∃ x ∈ l, adN x = Ps.beN q
 ·obtain ⟨x, hx, e⟩ := h
  have hxq : x.addr = q := beN_same ((hl x hx).addr.trans hq.symm) e
  rw [← e, getW_mem hs hx, getW_mem (setW_srt hl hd hs) (setW_mem.2 (.inl ⟨hx, by rw [hxq]; exact hne⟩))]
 ·rw [getW_not fun x hx e => h ⟨x, hx, e⟩, getW_not fun x hx e => ?_]
  rcases setW_mem.1 hx with h1 | ⟨_, rfl⟩
  ·exact h ⟨x, h1.1, e⟩
  ·exact hne (beN_same (hq.trans hd.symm) e.symm)
end
theorem srt_ext : ∀ {l m : List Ho}, Srt l → Srt m → (∀ x, x ∈ l ↔ x ∈ m) → l = m := by
 intro l m hl hm h
 replace hl := srt_iff.1 hl
 replace hm := srt_iff.1 hm
 induction l generalizing m with
 | nil =>
  cases m with
  | nil => rfl
  | cons y r => exact absurd ((h y).2 List.mem_cons_self) (by simp)
 | cons x r ih =>
  cases m with
  | nil => exact absurd ((h x).1 List.mem_cons_self) (by simp)
  | cons y s =>
   rw [List.pairwise_cons] at hl hm
   have hxy : x = y := by
    rcases List.mem_cons.1 ((h x).1 List.mem_cons_self) with e | e
    ·exact e
    ·rcases List.mem_cons.1 ((h y).2 List.mem_cons_self) with e2 | e2
     ·exact e2.symm
     ·have h1 := hm.1 x e
      have h2 := hl.1 y e2
      omega
   subst hxy
   rw [ih (fun z => ?_) hl.2 hm.2]
   constructor
   ·intro hz
    rcases List.mem_cons.1 ((h z).1 (List.mem_cons_of_mem _ hz)) with e | e
    ·subst e; exact absurd (hl.1 z hz) (Nat.lt_irrefl _)
    ·exact e
   ·intro hz
    rcases List.mem_cons.1 ((h z).2 (List.mem_cons_of_mem _ hz)) with e | e
    ·subst e; exact absurd (hm.1 z hz) (Nat.lt_irrefl _)
    ·exact e
theorem set_comm {l : List Ho} {p q : List UInt8} {a b : Ac} (hl : ∀ x ∈ l, x.ok) (hp : p.length = 8) (hq : q.length = 8) (ha : a.ok) (hb : b.ok) (hs : Srt l) (hne : p ≠ q) : setW (setW l p a) q b = setW (setW l q b) p a := by
 refine srt_ext (setW_srt (setW_ok hl hp ha) hq (setW_srt hl hp hs)) (setW_srt (setW_ok hl hq hb) hp (setW_srt hl hq hs)) fun x => ?_
 simp only [setW_mem]
 constructor
 ·rintro (⟨⟨h1, h2⟩ | ⟨h1, rfl⟩, h3⟩ | ⟨h1, rfl⟩)
  ·exact .inl ⟨.inl ⟨h1, h3⟩, h2⟩
  ·exact .inr ⟨h1, rfl⟩
  ·exact .inl ⟨.inr ⟨h1, rfl⟩, Ne.symm hne⟩
 ·rintro (⟨⟨h1, h2⟩ | ⟨h1, rfl⟩, h3⟩ | ⟨h1, rfl⟩)
  ·exact .inl ⟨.inl ⟨h1, h3⟩, h2⟩
  ·exact .inr ⟨h1, rfl⟩
  ·exact .inl ⟨.inr ⟨h1, rfl⟩, hne⟩
end Wo
end Lf
set_option maxRecDepth 100000
namespace Ro
open Tr Pk
def ldK (g : List UInt8 → Nat → Rn × Nat × Nat) : List (List UInt8) → Nat → List Rn × Nat × Nat
 | [], m => ([], 0, m)
 | k :: r, m =>
  if k.length = 0 then (Rn.no :: (ldK g r m).1, (ldK g r m).2)
  else if (g k m).2.1 = 0 then ((g k m).1 :: (ldK g r (g k m).2.2).1, (ldK g r (g k m).2.2).2)
  else ([], (g k m).2)
def dpS (s : Shp) (deep : Nat) : Nat := (if s.kind = 2 then deep + s.path.length - 1 else deep) + 1
def ldR (s : Shp) (r : List Rn × Nat × Nat) : Rn × Nat × Nat := if r.2.1 = 0 then (.mk s.kind s.path s.value r.1, 0, r.2.2) else (.no, r.2.1, r.2.2)
def ld (by_ : List UInt8 → Option (List UInt8)) : Nat → List UInt8 → Nat → Nat → Rn × Nat × Nat
 | 0, _, _, m => (.no, 1, m)
 | f + 1, h, deep, m =>
  if 64 < deep then (.no, 1, m)
  else match by_ h with
   | none => (.no, 5, m)
   | some c =>
    if m = 4096 then (.no, 6, m)
    else match readS c with
     | none => (.no, 1, m + 1)
     | some s => if s.kind = 0 ∧ 0 < deep then (.no, 1, m + 1) else ldR s (ldK (fun k m => ld by_ f k (dpS s deep) m) s.kids (m + 1))
section
variable (S : List UInt8 → List UInt8) (hS : ∀ b, (S b).length = 32)
include hS
omit hS
end
end Ro
open Go.RowKit Rg Wm Ar
set_option linter.unusedVariables false
set_option maxRecDepth 100000
namespace Lf
open Tr
abbrev Pr := List UInt8 × List UInt8
def prC (p : Pr) : List V := [bV p.1, bV p.2]
abbrev prV (p : Pr) : V := .a (prC p)
abbrev prsV (ps : List Pr) : V := .s none (ps.map prV)
theorem prC_len (p : Pr) : (prC p).length = 2 := rfl
theorem prC_eq (p : Pr) : prC p = [bV p.1, bV p.2] := rfl
theorem prC_refs (m : Mem) (p : Pr) : V.refs.go m (prC p) = true := rfl
theorem prC_bare (p : Pr) : (prV p).bare = some (prV p) := rfl
theorem pr_key {p : Pr} {ti : TI} (hd : ti.d.agg = false) : ti.part (prC p) 0 = some (bV p.1) := by
 unfold TI.part; simp [hd, prC]
theorem pr_val {p : Pr} {ti : TI} (hd : ti.d.agg = false) : ti.part (prC p) (0 + 1) = some (bV p.2) := by
 unfold TI.part; simp [hd, prC]
attribute [irreducible] prC
def pkP (p : Pr) : Pa × List UInt8 := (keyP p.1, p.2)
def ofP (ps : List Pr) : Nd := ofL .no (ps.map pkP)
def prOk (p : Pr) : Prop := p.1.length ≤ 32 ∧ p.2.length ≤ 1024
theorem ofP_take {ps : List Pr} {i : Nat} (h : i < ps.length) : ofP (ps.take (i + 1)) = Tr.put (ofP (ps.take i)) (keyP (ps.getD i default).1) (ps.getD i default).2 := by
 unfold ofP
 rw [List.take_succ_eq_append_getElem h, List.map_append, List.getD_eq_getElem?_getD, List.getElem?_eq_getElem h]
 unfold ofL
 rw [List.foldl_append]
 rfl
theorem ofP_right {ps : List Pr} (h : ∀ p ∈ ps, prOk p) : Right (ofP ps) 0 := by
 unfold ofP
 refine right_ofL _ _ trivial fun e he => ?_
 obtain ⟨p, hp, rfl⟩ := List.mem_map.1 he
 exact ⟨keyP_ends (h p hp).1, (h p hp).2⟩
theorem getD_memP {ps : List Pr} {i : Nat} (h : i < ps.length) : ps.getD i default ∈ ps := by
 rw [List.getD_eq_getElem?_getD, List.getElem?_eq_getElem h]; exact List.getElem_mem h
theorem mem_take_ok {ps : List Pr} {i : Nat} (h : ∀ j, j < i → prOk (ps.getD j default)) (hi : i ≤ ps.length) : ∀ p ∈ ps.take i, prOk p := by
 intro p hp
 obtain ⟨j, hj, e⟩ := List.mem_iff_getElem.1 hp
 rw [List.length_take] at hj
 rw [List.getElem_take] at e
 have := h j (by omega)
 rwa [List.getD_eq_getElem?_getD, List.getElem?_eq_getElem (by omega), Option.getD_some, e] at this
theorem first_bad {ps : List Pr} (h : ¬ ∀ p ∈ ps, prOk p) : ∃ i, i < ps.length ∧ ¬ prOk (ps.getD i default) ∧ ∀ j, j < i → prOk (ps.getD j default) := by
  induction ps with
  | nil => exact absurd (fun p hp => by cases hp) h
  | cons a r ih =>
    by_cases ha : prOk a
    · obtain ⟨i, h1, h2, h3⟩ := ih fun hr => h fun p hp => by
        rcases List.mem_cons.1 hp with rfl | hp
        · exact ha
        · exact hr p hp
      refine ⟨i + 1, by simp; omega, by rw [List.getD_cons_succ]; exact h2, fun j hj => ?_⟩
      cases j with
      | zero => exact ha
      | succ j => rw [List.getD_cons_succ]; exact h3 j (by omega)
    · exact ⟨0, by simp, ha, fun j hj => by omega⟩
theorem LC.sloteq {P : Program} {F : Fr0} {N : Nat} {c : Code} {Q : LQ} {env : Env} {mem : Mem} {v v' : V} (t : Nat) (h : aget env t = some v) (e : v = v') (hK : LC P F N c Q ((t, v') :: env) mem) : LC P F N c Q env mem := by
 subst e
 refine ⟨fun F0 hx g a w hr => hK.go F0 hx g a w (hr.congr ⟨fun j => ?_, fun _ => rfl⟩)⟩
 rw [aget_cons]
 split
 ·rename_i e; subst e; exact h
 ·rfl
namespace Te
set_option maxHeartbeats 4000000 in
theorem Of_ (ps : List Pr) (hl : ps.length < 1000000000) (hb : ∀ p ∈ ps, p.1.length < 1000000000 ∧ p.2.length < 1000000000) :
  ((∀ p ∈ ps, prOk p) ∧ LF Try.prog 33 [prsV ps] (fun _ => .t [rnV (ofN (ofP ps)), erV 0]) none) ∨
  ((∃ p ∈ ps, ¬ prOk p) ∧ ∃ e, (e = 2 ∨ e = 3) ∧ LF Try.prog 33 [prsV ps] (fun _ => .t [rnV Rn.no, erV e]) none) := by
 have hrf : ∀ m : Mem, (∀ n, (ndV n).refs m = true) ∧ (∀ ks v, V.refs.go m (fkC ks v) = true) ∧ (∀ x, V.refs.go m (rnC x) = true) ∧ (∀ p, V.refs.go m (prC p) = true) := fun m => ⟨nd_refs m, fk_refs m, rnC_refs m, prC_refs m⟩
 have hcv := tr_cv
 have hbr := prC_bare
 have ld1 := @pr_key
 have ld2 := @pr_val

 by_cases hall : ∀ p ∈ ps, prOk p
 ·refine .inl ⟨hall, ?_⟩
  have hall2 : ∀ j, j < ps.length → prOk (ps.getD j default) := fun j hj => hall _ (getD_memP hj)
  have c5 := (show_all _ _ (ofP_right hall)).1
  have hk5 := rnC_len (ofN (ofP ps))
  refine LFx.mk' tt Try.func33 rfl rfl rfl (by kernel_rfl) rfl rfl fun F => ?_
  refine wk ?_ trueW trueW
  refine LC.sloteq 4 rfl ndV_no.symm ?_
  refine LC.loop2 (fun i S => [(2, .p 2 0), (4, ndV S), (7, prsV ps), (8, .k (.int .i64 ((ps.length : Nat) : Int))), (9, .k (.int .i64 ((i : Nat) : Int)))]) (fun i S => [(2, .b [.k (.int .i64 0), .nil, .nil, .nil])]) (fun i S => i ≤ ps.length ∧ S = ofP (ps.take i)) ((ps.length - ·)) (0) (Nd.no) ⟨by omega, by rw [List.take_zero]; rfl⟩ ⟨rfl, rfl, rfl, rfl, rfl, trivial⟩ ⟨rfl, trivial⟩ rfl rfW rfW ?_
  rintro i S ⟨hi, hS⟩
  rcases Nat.lt_or_ge i ps.length with h | h
  ·have hp := hall2 i h
   have hpl := prC_len (ps.getD i default)
   have hp1 := hp.1
   have hp2 := hp.2
   have hR : Right S 0 := by rw [hS]; exact ofP_right (mem_take_ok (fun j hj => hall2 j (by omega)) hi)
   have c3 := Halves_ (ps.getD i default).1 (by omega)
   have c4 := put_ S (keyP (ps.getD i default).1) (ps.getD i default).2 0 hR (by rw [Nat.zero_add]; exact keyP_ends hp1) hp2
   have hok : i + 1 ≤ ps.length ∧ Tr.put S (keyP (ps.getD i default).1) (ps.getD i default).2 = ofP (ps.take (i + 1)) := ⟨h, by rw [ofP_take h, hS]⟩
   clear hS hR hall hall2 c5 hp
   exact wk trueW trueW trueW
  ·obtain rfl : i = ps.length := by omega
   rw [List.take_length] at hS
   rw [← hS] at c5 hk5 ⊢
   clear hS hall hall2
   exact wk trueW trueW trueW
 ·refine .inr ⟨by simpa only [Classical.not_forall, exists_prop] using hall, ?_⟩
  obtain ⟨i0, hi0, hbad, hgood⟩ := first_bad hall
  have hbb := hb _ (getD_memP hi0)
  obtain ⟨e, he, h1, h2⟩ : ∃ e, (e = 2 ∨ e = 3) ∧ (32 < (ps.getD i0 default).1.length ∨ ((ps.getD i0 default).1.length ≤ 32 ∧ 1024 < (ps.getD i0 default).2.length)) ∧ (e = 3 ↔ 32 < (ps.getD i0 default).1.length) := by
   by_cases h : 32 < (ps.getD i0 default).1.length
   ·exact ⟨3, .inr rfl, .inl h, fun _ => h, fun _ => rfl⟩
   ·refine ⟨2, .inl rfl, .inr ⟨by omega, ?_⟩, fun e => (by cases e), fun e => absurd e h⟩
    unfold prOk at hbad
    omega
  refine ⟨e, he, ?_⟩
  rw [show Rn.no = .mk 0 [] [] [] from rfl, show rnV (.mk 0 [] [] []) = .a [.k (.int .i64 0), bV [], bV [], .s none []] by unfold rnV; rw [rnC_eq]; rfl]
  clear hall hb hbad
  refine LFx.mk' tt Try.func33 rfl rfl rfl (by kernel_rfl) rfl rfl fun F => ?_
  refine wk ?_ trueW trueW
  refine LC.sloteq 4 rfl ndV_no.symm ?_
  refine LC.loop2 (fun i S => [(2, .p 2 0), (4, ndV S), (7, prsV ps), (8, .k (.int .i64 ((ps.length : Nat) : Int))), (9, .k (.int .i64 ((i : Nat) : Int)))]) (fun i S => [(2, .b [.k (.int .i64 0), .nil, .nil, .nil])]) (fun i S => i ≤ i0 ∧ S = ofP (ps.take i)) ((i0 - ·)) (0) (Nd.no) ⟨by omega, by rw [List.take_zero]; rfl⟩ ⟨rfl, rfl, rfl, rfl, rfl, trivial⟩ ⟨rfl, trivial⟩ rfl rfW rfW ?_
  rintro i S ⟨hi, hS⟩
  have hip : i < ps.length := by omega
  have hpl := prC_len (ps.getD i default)
  rcases Nat.lt_or_ge i i0 with h | h
  ·have hp := hgood i h
   have hp1 := hp.1
   have hp2 := hp.2
   have hR : Right S 0 := by rw [hS]; exact ofP_right (mem_take_ok (fun j hj => hgood j (by omega)) (by omega))
   have c3 := Halves_ (ps.getD i default).1 (by omega)
   have c4 := put_ S (keyP (ps.getD i default).1) (ps.getD i default).2 0 hR (by rw [Nat.zero_add]; exact keyP_ends hp1) hp2
   have hok : i + 1 ≤ i0 ∧ Tr.put S (keyP (ps.getD i default).1) (ps.getD i default).2 = ofP (ps.take (i + 1)) := ⟨h, by rw [ofP_take hip, hS]⟩
   clear hS hR hgood hp he h1 h2
   exact wk trueW trueW trueW
  ·obtain rfl : i = i0 := by omega
   clear hS hgood
   rcases he with rfl | rfl
   ·rcases h1 with h1 | ⟨h1, h3⟩
    ·exact absurd (h2.2 h1) (by omega)
    ·clear h2
     exact wk trueW trueW trueW
   ·have h3 := h2.1 rfl
    clear h1 h2
    exact wk trueW trueW trueW
end Te
end Lf
namespace Lf
namespace Te
end Te
end Lf
open Go.RowKit Rg Wm Ar
set_option linter.unusedVariables false
set_option maxRecDepth 100000
namespace Lf
open Tr
theorem list_ext_getD {a b : List Pr} (hl : a.length = b.length) (h : ∀ i, i < a.length → a.getD i default = b.getD i default) : a = b := by
 apply List.ext_getElem hl
 intro i h1 h2
 have := h i h1
 rwa [List.getD_eq_getElem?_getD, List.getD_eq_getElem?_getD, List.getElem?_eq_getElem h1, List.getElem?_eq_getElem h2] at this
namespace Te
end Te
end Lf
open Go.RowKit Rg
namespace Lf
def Fr0.gh (F : Fr0) : Gh := ⟨F.S0, F.bx0, F.rw0⟩
theorem ev_start {F : Fr0} {g : Gh} {mem : Mem} {w : World} (hm : RelM F g mem w) (hk : Kept F g w) : Ev F.gh F.w0 g w :=
 ⟨hk.size, fun b o hb hs => ⟨hk.S2 b o hb hs, hk.cellS b o hb hs⟩, hm.loc.bx, hm.loc.rw⟩
theorem ev_only {g0 g : Gh} {w0 w : World} {mi : Mem} (h : Ev g0 w0 g w) (hk : ∀ i, aget mi i = none → g0.bx i = none ∧ g0.rw i = none) : Ev g0 w0 (g.only mi) w := by
  refine ⟨h.size, h.st, fun i z hz => ?_, fun i a l c hr => ?_⟩
  · have : (aget mi i).isSome = true := by
      cases hi : aget mi i with
      | some m => rfl
      | none => rw [(hk i hi).1] at hz; cases hz
    simp only [Gh.only]; rw [if_pos this]; exact h.bx i z hz
  · have : (aget mi i).isSome = true := by
      cases hi : aget mi i with
      | some m => rfl
      | none => rw [(hk i hi).2] at hr; cases hr
    obtain ⟨a', l', c', k1, k2⟩ := h.rw i a l c hr
    exact ⟨a', l', c', by simp only [Gh.only]; rw [if_pos this]; exact k1, k2⟩
section
variable {P : Program}
structure LY (P : Program) (g0 : Gh) (w0 : World) (y : Nat) (args : List V) (mi : Mem) (R : Out → Mem → Prop) : Prop where
 go : ∀ (g : Gh) (w : World) (vals : Array Value) (l o : Nat), Ev g0 w0 g w → RelM (lentF g mi w) g mi w → g.bx y = some (l, o) → args.length = vals.size → (∀ (j : Nat) u x, args[j]? = some u → vals[j]? = some x → Rep w g u x) →
  YieldAt Fence.wide 0 P l vals w fun e w' => ∃ q mo g', R q mo ∧ Ev g w g' w' ∧ RelM (lentF g mi w) g' mo w' ∧ Kept (lentF g mi w) g' w' ∧ q.At w' g' e
theorem round_any {F : Fr0} {m l f : Nat} {tmps : Array Value} {assign body : Code} {w : World} {R : Ending → World → Prop} (h : RoundIn Fence.wide m P l f tmps assign body w R) (n : Nat) : RoundIn F.fz n P l f tmps assign body w R :=
 ⟨trivial, fun c cs _ => h.2 c cs (room_wide _)⟩
theorem exec_yield {o : Oper} {l fn : Nat} {f : Operand} {xs : List Operand} {ts : Array Nat} {tmps : Array Value} {assign body : Code} (ho : o.op = .call { callee := .value f, args := xs.toArray, argTypes := ts }) (a : Act) (w : World) (hf : a.eval f = .func (.yield l) #[] #[])
  (hy : (Instr.yield l (xs.map a.eval).toArray).run P w = .ok (.round l fn tmps assign body) w) : (execOp a.eval o).run P w = .ok (.round l fn tmps assign body) w := by
 have hy' : (Instr.yield l (xs.toArray.map a.eval)).run P w = .ok (.round l fn tmps assign body) w := by simpa using hy
 simp [execOp, ho, resolve, hf, Deferred.ofValue, invoke]
 exact hy
theorem DoesF.yield {F : Fr0} {o : Oper} {env : Env} {y : Nat} {f : Operand} {xs : List Operand} {ts : Array Nat} {us args : List V} {mi mo : Mem} {v : V} (hc : LY P F.gh F.w0 y args mi fun q m => q = .ret v ∧ m = mo)
  (ho : o.op = .call { callee := .value f, args := xs.toArray, argTypes := ts }) (hf : evo env f = some (.y y)) (hx : evs env xs = some us) (hu : Fits us args) (hr : (V.refs.go mi args && (refsM mi mi && keysOk mi mo)) = true) (hy : (aget mi y).isSome = true) (hk : ∀ i, aget mi i = none → F.bx0 i = none ∧ F.rw0 i = none) : DoesF P F o env v (callT mi mo) := by
 refine ⟨fun F0 hx0 g a w mem h1 h2 h3 h4 hd K Q hK => ?_⟩
 simp only [Bool.and_eq_true] at hr
 obtain ⟨l1, l2⟩ := args_rep (fun x hxm u hxu => h1 x (by simp [ho, Op.operands, Call.operands]; exact .inr hxm) u hxu) hx hu
 obtain ⟨t1, t2⟩ := tpre_call h4 hr.2.2
 have hfv := h1 f (by simp [ho, Op.operands, Call.operands]) _ hf
 obtain ⟨l, o', hb, hfe⟩ : ∃ l o', g.bx y = some (l, o') ∧ a.eval f = .func (.yield l) #[] #[] := by
  generalize a.eval f = z at hfv
  cases hfv with
  | y h => exact ⟨_, _, h, rfl⟩
 have hrel : RelM (lentF (g.only mi) mi w) (g.only mi) mi w := h2.sub t1 hr.2.1 ⟨(show TabAt w g.S from h2.loc.tab.kept h3), fun _ _ h => h, fun _ a l c h => ⟨a, l, c, h, Nat.le_refl _, fun _ => ⟨rfl, rfl⟩⟩⟩ fun i m b o hi hp => .inr ⟨i, m, hi, (fp_congr (only_at hi).1 (only_at hi).2).2 hp⟩
 have hev : Ev F.gh F.w0 (g.only mi) w := ev_only (ev_start (hx0.relM h2) (hx0.kept _ _ h3)) hk
 have hby : (g.only mi).bx y = some (l, o') := by simp only [Gh.only]; rw [if_pos hy]; exact hb
 obtain ⟨fn, tmps, assign, body, hrun, hround⟩ := hc.go (g.only mi) w _ l o' hev hrel hby l1 fun j u x hj hxj => (l2 j u x hj hxj).only (refs_go hr.1 u (List.mem_of_getElem? hj))
 refine ⟨fun _ _ => trivial, ?_⟩
 rw [Oper.semAt_eq _ _ _ (fun c e => by rw [ho] at e; cases e), exec_yield ho a w hfe hrun, Oper.uponIn_round]
 refine ⟨fun h => (by cases h), RoundIn.mono (round_any hround _) ?_⟩
 rintro e w' ⟨q, mo', g', ⟨rfl, rfl⟩, he, hm', hk', x, rfl, hat⟩
 obtain ⟨g2, k1, k2, k3, k4⟩ := call_state h2 h3 t1 hr.2.2 t2 he hm' hk'
 exact hK x g2 w' k1 (by rw [tset_call]; exact k2) k3 (k4 _ _ hat)
structure LI (P : Program) (f : Nat) (args : List V) (mi : Mem) (Y : Gh → World → Prop) (R : Out → Mem → Prop) : Prop where
 ok : callOk P f = true
 go : ∀ (g : Gh) (w : World) (vals : Array Value), Y g w → RelM (lentF g mi w) g mi w → args.length = vals.size → (∀ (j : Nat) u x, args[j]? = some u → vals[j]? = some x → Rep w g u x) →
  Calls P f vals w fun e w' => ∃ o mo g', R o mo ∧ Ev g w g' w' ∧ RelM (lentF g mi w) g' mo w' ∧ Kept (lentF g mi w) g' w' ∧ o.At w' g' e
theorem LI.enter (X : TOk P) {f N : Nat} {fn : Func} {c : Code} {args : List V} {rs : List ResultVar} {mi : Mem} {Y : Gh → World → Prop} {R : Out → Mem → Prop} (hf : P.funcs[f]? = some fn) (hb : fn.body = some c) (hN : fn.ntmps = N) (hrs : fn.results = rs.toArray) (hok : callOk P f = true)
  (hle : Nat.ble args.length N = true) (hrl : Nat.ble rs.length 3 = true) (hbig : (mi.all fun x => Nat.ble 1000 x.1) = true) (hks : ∀ o mo, R o mo → keysOk mi mo = true) (h : ∀ F, F.D = [] → Y F.gh F.w0 → (∀ i, aget mi i = none → F.bx0 i = none ∧ F.rw0 i = none) → LC P F N c (LRet X rs R) (params 0 args) mi) : LI P f args mi Y R :=
 ⟨hok, fun _ _ _ hY hm hl hr => enter_core X hf hb hN hrs hle hrl hbig hks hm hl hr false (h _ rfl hY fun i hi => ⟨hm.nbx i hi, hm.nrw i hi⟩)⟩
end
end Lf
open Go.RowKit Rg
namespace Lf
section
variable {P : Program} {F : Fr0} {g : Gh} {mem : Mem} {w : World}
theorem relM_ro {ro : Option Nat} {mk : Bool} (h : RelM F g mem w) : RelM { F with ro := ro, lm := mk } g mem w := ⟨h.ob, h.wr, h.dj, h.nbx, h.nrw, h.fut, ⟨h.loc.tab, h.loc.bx, h.loc.rw⟩⟩
theorem relM_or {ro : Option Nat} {mk : Bool} (h : RelM { F with ro := ro, lm := mk } g mem w) : RelM F g mem w := ⟨h.ob, h.wr, h.dj, h.nbx, h.nrw, h.fut, ⟨h.loc.tab, h.loc.bx, h.loc.rw⟩⟩
theorem kept_or {ro : Option Nat} {mk : Bool} (h : Kept { F with ro := ro, lm := mk } g w) : Kept F g w := ⟨h.os, h.tape, h.output, h.size, h.blk, h.cell, h.S1, h.S2, h.cellS⟩
def recL (fn : Nat) (tmps : Array Value) (ps : Array Tmp) (assign body : Code) (D : Nat) (st : LoopState) (pe : Option Code) : Loop := { state := st, pending := pe, fn, tmps, params := ps, assign, body, defers := D }
abbrev LoF := LoopState → Option Code → Obj
def LRnd (lo : LoF) (y : Nat) (R : Bool → Mem → Prop) : LQ
 | .normal, _, mem => aget mem y = some (.o (lo .busy none)) ∧ ∃ mo, SubM ((y, .o (lo .ready none)) :: mem) mo ∧ refsM mo mo = true ∧ R true mo
 | .exit id, _, mem => aget mem y = some (.o (lo .busy none)) ∧ ∃ mo, SubM ((y, .o (lo .done (some (.exit id)))) :: mem) mo ∧ refsM mo mo = true ∧ R false mo
 | .ret, _, mem => aget mem y = some (.o (lo .busy none)) ∧ ∃ mo, SubM ((y, .o (lo .done (some .ret))) :: mem) mo ∧ refsM mo mo = true ∧ R false mo
 | _, _, _ => False
def LAs (P : Program) (F : Fr0) (N : Nat) (body : Code) (lo : LoF) (y : Nat) (R : Bool → Mem → Prop) : LQ
 | .normal, env, mem => aget mem y = some (.o (lo .ready none)) ∧ LC P F N body (LRnd lo y R) env ((y, .o (lo .busy none)) :: mem)
 | _, _, _ => False
theorem set_rec (hm : RelM F g mem w) (hk : Kept F g w) {y l o : Nat} {r : Loop} {r' : Loop} (hb : g.bx y = some (l, o)) (hi : aget mem y = some (.o (.loop r))) :
  w.heap[l]? = some (.loop r) ∧ Ev g w g (w.putObj l (.loop r')) ∧ RelM F g ((y, .o (.loop r')) :: mem) (w.putObj l (.loop r')) ∧ Kept F g (w.putObj l (.loop r')) := by
 cases hm.ob y _ hi with
 | o hg h hS =>
  rw [hb] at hg
  cases hg
  have hlt := (Array.getElem?_eq_some_iff.1 h).1
  exact ⟨h, hm.setO hk (m' := .o (.loop r')) (ob := .loop r') hi (fun _ _ => Iff.rfl) hb hS rfl rfl rfl rfl (fun _ => .o hb (World.putObj_heap_same hlt) hS) (fun _ _ hp => hp)⟩
theorem end_round {mi mo mem1 : Mem} {w0 w1 : World} {g0 g1 : Gh} (b : Bool) {R : Bool → Mem → Prop} (h0 : RelM (lentF g0 mi w0) g0 mi w0) (hm : RelM (lentF g0 mi w0) g1 mem1 w1) (hk : Kept (lentF g0 mi w0) g1 w1) (hs : SubM mem1 mo) (hr : refsM mo mo = true) (hko : keysOk mi mo = true) (hR : R b mo) :
  ∃ q mo g', (∃ b, q = Out.ret (.k (.bool b)) ∧ R b mo) ∧ Ev g0 w0 g' w1 ∧ RelM (lentF g0 mi w0) g' mo w1 ∧ Kept (lentF g0 mi w0) g' w1 ∧ q.At w1 g' (.returned (.bool b)) := by
 have ht : Tells mem1 (.k (.bool b)) (.k (.bool b)) mo := ⟨⟨fun _ => true, false, rfl⟩, hs, by rw [hr]; rfl⟩
 obtain ⟨r1, r2, r3, r4⟩ := ht.rep rfl hko h0 (Rep.k (.bool b)) hm hk
 exact ⟨.ret (.k (.bool b)), mo, _, ⟨b, rfl, hR⟩, r4, r2, r3, .bool b, rfl, r1⟩
theorem LY.round {N y p fn D : Nat} {tmps : Array Value} {assign body : Code} {env : Env} {v : V} {mi : Mem} {g0 : Gh} {w0 : World} {R : Bool → Mem → Prop} (hN : tmps.size = N) (henv : ∀ t u, aget env t = some u → ∃ x, tmps[t]? = some x ∧ Rep w0 g0 u x)
    (hp : Nat.blt p N = true) (hbig : (mi.all fun x => Nat.ble 1000 x.1) = true) (hmi : aget mi y = some (.o (.loop (recL fn tmps #[p] assign body D .ready none)))) (hks : ∀ b m, R b m → keysOk mi m = true)
    (h : ∀ F, F.D = [] → LC P F N assign (LAs P F N body (fun st pe => .loop (recL fn tmps #[p] assign body D st pe)) y R) ((p, v) :: env) mi) :
    LY P g0 w0 y [v] mi fun q m => ∃ b, q = .ret (.k (.bool b)) ∧ R b m := by
  refine ⟨fun g w vals l o hev hm hb hl hr => ?_⟩
  have hpN : p < N := Nat.le_of_ble_eq_true hp
  obtain ⟨hrec, _, _, _⟩ := set_rec (F := lentF g mi w) (r' := recL fn tmps #[p] assign body D .ready none) hm ⟨rfl, rfl, rfl, Nat.le_refl _, fun _ _ _ => rfl, fun _ _ _ _ => ⟨rfl, rfl⟩, fun _ _ _ _ h => h, fun _ _ _ h => h, fun _ _ _ _ => rfl⟩ hb hmi
  obtain ⟨x, hvals⟩ : ∃ x, vals = #[x] := by
    obtain ⟨l⟩ := vals
    match l, hl with
    | [x], _ => exact ⟨x, rfl⟩
  subst hvals
  have hx : Rep w g v x := hr 0 v x rfl rfl
  refine ⟨fn, _, assign, body, run_yield hrec (by rfl), roundIn_of_wpIn trivial ?_⟩
  let FR : Fr0 := { lentF g mi w with ro := some l, lm := false }
  have hbg : FR.Big := fun i hi => by
    have : aget mi i = none := by
      cases hg : aget mi i with
      | none => rfl
      | some m =>
        have h1 := Nat.le_of_ble_eq_true (List.all_eq_true.1 hbig _ (aget_mem hg))
        exact absurd h1 (by simp; omega)
    exact ⟨hm.nbx i this, hm.nrw i this⟩
  have hrel : Rel FR N g ((p, v) :: env) mi { tmps := tmps.setIfInBounds p x, defers := [] } w := by
    refine ⟨fun t u hu => ?_, relM_ro hm, ⟨rfl, rfl, rfl, Nat.le_refl _, fun _ _ _ => rfl, fun _ _ _ _ => ⟨rfl, rfl⟩, fun _ _ _ _ h => h, fun _ _ _ h => h, fun _ _ _ _ => rfl⟩, rfl, by simpa using hN, hbg⟩
    rw [aget_cons] at hu
    split at hu
    · rename_i e; subst e; cases hu; exact ⟨x, by simp [hN, hpN], hx⟩
    · rename_i e
      obtain ⟨z, h1, h2⟩ := henv t u hu
      exact ⟨z, by rw [Array.getElem?_setIfInBounds_ne e]; exact h1, h2.mono hev⟩
  have hbl : ∀ g' w', Kept FR g' w' → LocOk FR g' → g'.bx y = some (l, o) := fun g' w' _ hL => hL.bx y _ hb
  have hfold : (((recL fn tmps #[p] assign body D .ready none).params.zip #[x]).foldl (fun t (q : Tmp × Value) => match q with | (t0, a) => t.setIfInBounds t0 a) (recL fn tmps #[p] assign body D .ready none).tmps) = tmps.setIfInBounds p x := by simp [recL]
  show assign.wpIn _ 0 P _ { tmps := (((recL fn tmps #[p] assign body D .ready none).params.zip #[x]).foldl (fun t (q : Tmp × Value) => match q with | (t0, a) => t.setIfInBounds t0 a) (recL fn tmps #[p] assign body D .ready none).tmps), defers := [] } w
  rw [hfold]
  refine wpIn_mono ((h FR rfl).go FR (.refl _) g _ w hrel) fun e a1 w1 ⟨F1, hF1, env1, mem1, g1, le, r1, r3, r2⟩ => ?_
  obtain rfl := hF1.same rfl
  cases le with
  | exit _ => exact r2.elim
  | goto _ => exact r2.elim
  | ret => exact r2.elim
  | pan _ => exact r2.elim
  | normal =>
  cases r3
  obtain ⟨hm1, hbody⟩ := r2
  obtain ⟨q1, q2, q3, q4⟩ := set_rec (r' := recL fn tmps #[p] assign body D .busy none) r1.mem r1.kept (hbl _ _ r1.kept r1.mem.loc) hm1
  refine ⟨_, run_beginRound q1 rfl, ?_⟩
  have hrel2 : Rel FR N g1 env1 ((y, .o (.loop (recL fn tmps #[p] assign body D .busy none))) :: mem1) a1 (w1.putObj l (.loop (recL fn tmps #[p] assign body D .busy none))) :=
    ⟨fun t u hu => by obtain ⟨z, h1, h2⟩ := r1.env t u hu; exact ⟨z, h1, h2.mono q2⟩, q3, q4, r1.defers, r1.size, r1.big⟩
  refine wpIn_mono (hbody.go FR (.refl _) g1 a1 _ hrel2) fun e a2 w2 ⟨F2, hF2, env2, mem2, g2, le, s1, s3, s2⟩ => ?_
  obtain rfl := hF2.same rfl
  have fin : ∀ (b : Bool) (pe : Option Code) (st : LoopState), aget mem2 y = some (.o (.loop (recL fn tmps #[p] assign body D .busy none))) → (∃ mo, SubM ((y, .o (.loop (recL fn tmps #[p] assign body D st pe))) :: mem2) mo ∧ refsM mo mo = true ∧ R b mo) → b = pe.isNone → st = (if pe.isNone then .ready else .done) →
      ∃ v w', (Instr.endRound l pe).run P w2 = .ok v w' ∧ ∃ q mo g', (∃ b, q = Out.ret (.k (.bool b)) ∧ R b mo) ∧ Ev g w g' w' ∧ RelM (lentF g mi w) g' mo w' ∧ Kept (lentF g mi w) g' w' ∧ q.At w' g' (.returned v) := by
    rintro b pe st hy2 ⟨mo, t1, t2, t3⟩ rfl rfl
    obtain ⟨u1, u2, u3, u4⟩ := set_rec (r' := recL fn tmps #[p] assign body D (if pe.isNone then .ready else .done) pe) s1.mem s1.kept (hbl _ _ s1.kept s1.mem.loc) hy2
    exact ⟨_, _, run_endRound pe u1, end_round pe.isNone hm (relM_or u3) (kept_or u4) t1 t2 (hks _ _ t3) t3⟩
  cases le with
  | normal => cases s3; exact fin true none .ready s2.1 s2.2 rfl rfl
  | exit id => cases s3; exact fin false (some (.exit id)) .done s2.1 s2.2 rfl rfl
  | ret => cases s3; exact fin false (some .ret) .done s2.1 s2.2 rfl rfl
  | goto _ => exact s2.elim
  | pan _ => exact s2.elim
def endO (lo : LoF) (id : Nat) (b : Bool) : Obj := cond b (lo .ready none) (lo .done (some (.exit id)))
theorem LC.range {F : Fr0} {N gf p y id : Nat} {Q : LQ} {env : Env} {mem m1 : Mem} {g : Operand} {assign body : Code} {caps : List V} {σ α : Type} (ok : σ → α → Prop) (va : α → V) (ms : σ → Mem) (go : σ → α → Bool) (nx : σ → α → σ) (fin : Bool)
    (hlm : F.lm = true) (hro : F.ro = none) (hg : evo env g = some (.f (.func gf) [] caps)) (hp : Nat.blt p N = true) (hy : aget mem y = none) (hyb : Nat.ble 1000 y = true)
    (hre : ∀ ob, (refsE ((y, .o ob) :: mem) env && (refsM ((y, .o ob) :: mem) ((y, .o ob) :: mem) && V.refs.go ((y, .o ob) :: mem) (.y y :: caps))) = true)
    (hbig : ∀ s, ((ms s).all fun x => Nat.ble 1000 x.1) = true) (hks : ∀ (s : σ) (x : α), ok s x → ∀ ob ob', keysOk ((y, .o ob) :: ms s) ((y, .o ob') :: ms (nx s x)) = true)
    (rounds : ∀ (lo : LoF) FR, FR.D = [] → ∀ s x, ok s x → LC P FR N assign (LAs P FR N body lo y (fun b m => b = go s x ∧ m = (y, .o (endO lo id (go s x))) :: ms (nx s x))) ((p, va x) :: env) ((y, .o (lo .ready none)) :: ms s))
    (iter : ∀ lo : LoF, LI P gf (.y y :: caps) ((y, .o (lo .ready none)) :: mem) (fun g w => ∀ s x, ok s x → LY P g w y [va x] ((y, .o (lo .ready none)) :: ms s) fun q m => q = .ret (.k (.bool (go s x))) ∧ m = (y, .o (endO lo id (go s x))) :: ms (nx s x)) fun q m => q = .ret (.t []) ∧ m = (y, .o (endO lo id fin)) :: m1)
    (hk1 : ∀ ob ob', keysOk ((y, .o ob) :: mem) ((y, .o ob') :: m1) = true) (hr1 : (refsE ((y, .x) :: m1) env && refsM ((y, .x) :: m1) ((y, .x) :: m1)) = true)
    (done : fin = true → Q .normal env ((y, .x) :: m1)) (stop : fin = false → Q (.exit id) env ((y, .x) :: m1)) : LC P F N (.rangeFunc g #[p] assign body) Q env mem := by
  refine ⟨fun F0 hx0 gh a w hr => ?_⟩
  have hgv := hr.evo hg
  obtain ⟨lb, hlb, hge, hcaps⟩ : ∃ lb : Array Value, caps.length = lb.size ∧ a.eval g = .func (.func gf) #[] lb ∧ ∀ (j : Nat) u x, caps[j]? = some u → lb[j]? = some x → Rep w gh u x := by
    generalize a.eval g = z at hgv
    cases hgv with
    | @f _ _ _ _ vs us h1 h2 hf hc =>
      have : vs = #[] := Array.eq_empty_of_size_eq_zero (by simpa using h1.symm)
      subst this
      exact ⟨us, h2, rfl, hc⟩
  have hro0 : F0.fz.round = none := hx0.ro.trans hro
  refine wpIn_rangeFunc fun fn _ => ?_
  rw [hro0]
  have hx : Ext w (w.alloc (.deferred (some []))) := Below.alloc (Below.refl _ w) (Nat.le_refl _) _
  obtain ⟨v1, m2, k2⟩ := hr.mem.ext (g' := gh) hr.kept hx (fun _ _ _ => Iff.rfl) rfl rfl (fun b o hb => hr.mem.fut b o (by have := World.size_alloc w (.deferred (some [])); omega))
  have hsz : (w.alloc (.deferred (some []))).heap.size = w.heap.size + 1 := World.size_alloc _ _
  have hDn : (w.alloc (.deferred (some []))).heap[w.heap.size]? = some (.deferred (some [])) := World.alloc_heap_new w _
  let F1 : Fr0 := { w0 := w.alloc (.deferred (some [])), S0 := gh.S, B := fun b o => ∃ i m, aget mem i = some m ∧ fp gh i m b o, bx0 := F0.bx0, rw0 := F0.rw0, D := markD w.heap.size :: F0.D, ro := F0.ro, lm := F0.lm }
  have hB : ∀ b o, F1.B b o → F0.wr b o := fun b o ⟨i, m, hi, hp⟩ => hr.mem.wr i m b o hi hp
  have hDB : ∀ o, ¬ F1.wr w.heap.size o := fun o ho => by
    rcases ho with ho | ⟨i, m, hi, hp⟩
    · have : w.heap.size + 1 ≤ w.heap.size := by rw [← hsz]; exact ho
      omega
    · have := (hr.mem.ob i m hi).lt hp; omega
  have hE : F0.Ext F1 := by
    refine ⟨fun e => ?_, rfl, rfl, rfl, rfl, fun b o hb => ?_, Nat.le_trans hr.kept.size (by show _ ≤ (w.alloc _).heap.size; omega), fun g' hL => ⟨hr.mem.loc.tab, hL.bx, hL.rw⟩, fun g' w' hk => ?_, [w.heap.size], rfl, by simp, fun D hD => ?_⟩
    · rw [hx0.lm, hlm] at e; cases e
    · rcases hb with hb | hb
      · refine .inl (Nat.le_trans hr.kept.size ?_)
        have h1 : w.heap.size + 1 ≤ b := by rw [← hsz]; exact hb
        omega
      · exact hB b o hb
    · have hlt : ∀ b, b < F0.w0.heap.size → b < F1.w0.heap.size := fun b hb => by show b < (w.alloc _).heap.size; have := hr.kept.size; omega
      have hn : ∀ b o, b < F0.w0.heap.size → ¬ F0.B b o → ¬ F1.B b o := fun b o hb hnb hb1 => by
        rcases hB b o hb1 with h | h
        · omega
        · exact hnb h
      refine ⟨hk.os.trans k2.os, hk.tape.trans k2.tape, hk.output.trans k2.output, Nat.le_trans k2.size hk.size, fun b hb hnb => (hk.blk b (hlt b hb) fun o => hn b o hb (hnb o)).trans (k2.blk b hb hnb), fun b o hb hnb => ?_, fun b o hb hnb hs => k2.S1 b o hb hnb (hk.S1 b o (hlt b hb) (hn b o hb hnb) hs), fun b o hb hs => hk.S2 b o (hlt b hb) (k2.S2 b o hb hs), fun b o hb hs => (hk.cellS b o (hlt b hb) (k2.S2 b o hb hs)).trans (k2.cellS b o hb hs)⟩
      obtain ⟨c1, c2⟩ := hk.cell b o (hlt b hb) (hn b o hb hnb)
      obtain ⟨d1, d2⟩ := k2.cell b o hb hnb
      exact ⟨c1.trans d1, c2.trans d2⟩
    · have : D = w.heap.size := by simpa using hD
      subst this
      exact ⟨hr.kept.size, by show _ < (w.alloc _).heap.size; omega, hDB, hDn⟩
  have mF : RelM F1 gh mem (w.alloc (.deferred (some []))) := ⟨m2.ob, fun i m b o hi hp => .inr ⟨i, m, hi, hp⟩, m2.dj, m2.nbx, m2.nrw, m2.fut, ⟨(show TabAt (w.alloc _) gh.S from m2.loc.tab.kept k2), m2.loc.bx, m2.loc.rw⟩⟩
  have kF : Kept F1 gh (w.alloc (.deferred (some []))) := ⟨rfl, rfl, rfl, Nat.le_refl _, fun _ _ _ => rfl, fun _ _ _ _ => ⟨rfl, rfl⟩, fun _ _ _ _ h => h, fun _ _ _ h => h, fun _ _ _ _ => rfl⟩
  obtain ⟨g1, hb1, v3, m3, k3⟩ := mF.newO kF (i := y) (ob := .loop (recL fn a.tmps #[p] assign body w.heap.size .ready none)) hy
  let lo : LoF := fun st pe => .loop (recL fn a.tmps #[p] assign body w.heap.size st pe)
  have hre' := hre (lo .ready none)
  simp only [Bool.and_eq_true] at hre'
  obtain ⟨hre1, hre2, hre3⟩ := hre'
  have vv : Ev gh w g1 ((w.alloc (.deferred (some []))).alloc (lo .ready none)) := v1.trans v3
  have hy1 : aget ((y, M.o (lo .ready none)) :: mem) y = some (.o (lo .ready none)) := aget_self ..
  have hrel : RelM (lentF (g1.only ((y, .o (lo .ready none)) :: mem)) ((y, .o (lo .ready none)) :: mem) ((w.alloc (.deferred (some []))).alloc (lo .ready none))) (g1.only ((y, .o (lo .ready none)) :: mem)) ((y, .o (lo .ready none)) :: mem) ((w.alloc (.deferred (some []))).alloc (lo .ready none)) :=
    m3.sub (fun _ _ h => h) hre2 ⟨(show TabAt _ g1.S from m3.loc.tab.kept k3), fun _ _ h => h, fun _ a l c h => ⟨a, l, c, h, Nat.le_refl _, fun _ => ⟨rfl, rfl⟩⟩⟩ fun i m b o hi hp => .inr ⟨i, m, hi, (fp_congr (only_at hi).1 (only_at hi).2).2 hp⟩
  have hYs : ∀ s x, ok s x → LY P (g1.only ((y, .o (lo .ready none)) :: mem)) ((w.alloc (.deferred (some []))).alloc (lo .ready none)) y [va x] ((y, .o (lo .ready none)) :: ms s) fun q m => q = .ret (.k (.bool (go s x))) ∧ m = (y, .o (endO lo id (go s x))) :: ms (nx s x) := by
    intro s x hok
    have h1 := LY.round (P := P) (N := N) (y := y) (p := p) (fn := fn) (D := w.heap.size) (tmps := a.tmps) (assign := assign) (body := body) (env := env) (v := va x) (mi := (y, .o (lo .ready none)) :: ms s) (g0 := g1.only ((y, .o (lo .ready none)) :: mem)) (w0 := (w.alloc (.deferred (some []))).alloc (lo .ready none))
      (R := fun b m => b = go s x ∧ m = (y, .o (endO lo id (go s x))) :: ms (nx s x)) hr.size (fun t u hu => by obtain ⟨z, e1, e2⟩ := hr.env t u hu; exact ⟨z, e1, (e2.mono vv).only (refsE_get hre1 hu)⟩) hp (by rw [List.all_cons, hbig s]; simpa using hyb) (aget_self ..) (fun b m ⟨_, e⟩ => by rw [e]; exact hks s x hok _ _) (fun FR hFR => rounds lo FR hFR s x hok)
    refine ⟨fun g w vals l o a1 a2 a3 a4 a5 => ?_⟩
    obtain ⟨fn', tmps', asg, bo, b1, b2⟩ := h1.go g w vals l o a1 a2 a3 a4 a5
    refine ⟨fn', tmps', asg, bo, b1, b2.mono ?_⟩
    rintro e w' ⟨q, mo, g', ⟨b, rfl, rfl, rfl⟩, r⟩
    exact ⟨_, _, g', ⟨rfl, rfl⟩, r⟩
  have hok := (iter lo).ok
  refine ⟨w.heap.size + 1, [markD w.heap.size], (w.alloc (.deferred (some []))).alloc (lo .ready none), { target := .fn (.func gf) lb, args := #[.func (.yield (w.heap.size + 1)) #[] #[]] }, (w.alloc (.deferred (some []))).alloc (lo .ready none), gf, #[.func (.yield (w.heap.size + 1)) #[] #[]] ++ lb, (w.alloc (.deferred (some []))).alloc (lo .ready none), run_enterLoop_outer _ _ _ _ _, ?_, fun _ _ => trivial, ?_, fun h => (by cases h), ?_⟩
  · simp only [resolve, hge]
    simp [Deferred.ofValue, Act.eval]
  · unfold callOk at hok
    split at hok
    · rename_i fn' hfn
      simp only [Bool.and_eq_true, Bool.not_eq_true'] at hok
      have hn : ¬ fn'.body = none := by cases hb : fn'.body <;> simp_all
      have hm : ¬ fn'.name = "runtime.NumGoroutine" := by simpa using hok.1
      simp [invoke, callFunc, hfn, hm, hn]
    · cases hok
  have hargs : ∀ (j : Nat) u x, (V.y y :: caps)[j]? = some u → (#[Value.func (.yield (w.heap.size + 1)) #[] #[]] ++ lb)[j]? = some x → Rep ((w.alloc (.deferred (some []))).alloc (lo .ready none)) (g1.only ((y, .o (lo .ready none)) :: mem)) u x := fun j u x hj hxj => by
    refine Rep.only ?_ (refs_go hre3 u (List.mem_of_getElem? hj))
    cases j with
    | zero =>
      simp at hj; subst hj
      rw [Array.getElem?_append_left (by simp)] at hxj
      simp at hxj; subst hxj
      exact .y (o := 0) (by rw [hb1, hsz])
    | succ j =>
      simp at hj
      rw [Array.getElem?_append_right (by simp)] at hxj
      simp at hxj
      exact (hcaps j u x hj hxj).mono vv
  refine calls_in (Calls.mono ((iter lo).go _ _ _ hYs hrel (by simp; omega) hargs) ?_)
  rintro e w3 ⟨q, mo, g3, ⟨rfl, rfl⟩, he, hm3, hk3, x, rfl, _⟩
  obtain ⟨g2, E, RM, K, _⟩ := call_state m3 k3 (fun _ _ h => h) (hk1 _ _) (fun _ _ _ h => h) he hm3 hk3
  have hby : g2.bx y = some (w.heap.size + 1, 0) := by rw [← hsz]; exact E.bx y _ hb1
  have hyo : aget ((y, M.o (endO lo id fin)) :: m1 ++ ((y, M.o (lo .ready none)) :: mem)) y = some (.o (endO lo id fin)) := aget_self ..
  -- the record is put away
  have last : ∀ (pe : Option Code) (st : LoopState), endO lo id fin = lo st pe → st ≠ .busy → (∀ w4, (Instr.endLoop (w.heap.size + 1)).run P w3 = .ok pe w4 → (∃ g4, Rel F1 N g4 env ((y, .x) :: m1) { a with defers := [markD w.heap.size] ++ a.defers } w4) → 
      rangePost F0.fz 0 P (w.heap.size + 1) (liftQ F0 N Q) { a with defers := [markD w.heap.size] ++ a.defers } (.returned x) w3) → rangePost F0.fz 0 P (w.heap.size + 1) (liftQ F0 N Q) { a with defers := [markD w.heap.size] ++ a.defers } (.returned x) w3 := by
    intro pe st hst hnb K1
    have hyo' : aget ((y, M.o (endO lo id fin)) :: m1 ++ ((y, M.o (lo .ready none)) :: mem)) y = some (.o (lo st pe)) := by rw [hyo, hst]
    obtain ⟨u1, u2, u3, u4⟩ := set_rec (r := recL fn a.tmps #[p] assign body w.heap.size st pe) (r' := recL fn a.tmps #[p] assign body w.heap.size .exhausted pe) RM K hby hyo'
    refine K1 _ (run_endLoop (r := recL fn a.tmps #[p] assign body w.heap.size st pe) u1 hnb) ?_
    simp only [Bool.and_eq_true] at hr1
    have hsub : ∀ i m, aget ((y, M.x) :: m1) i = some m → i ≠ y → aget ((y, M.o (endO lo id fin)) :: m1 ++ ((y, M.o (lo .ready none)) :: mem)) i = some m := fun i m hi hne => by
      rw [aget_ne (Ne.symm hne)] at hi
      rw [List.cons_append, aget_ne (Ne.symm hne), aget_append, hi]
      rfl
    have RM2 : RelM F1 g2 ((y, .x) :: m1) (w3.putObj (w.heap.size + 1) (.loop (recL fn a.tmps #[p] assign body w.heap.size .exhausted pe))) ∨ True := .inr trivial
    have hin : ∀ i, aget mem i ≠ none → (aget ((y, M.x) :: m1) i).isSome = true := fun i hi => by
      obtain ⟨m, hm⟩ := Option.ne_none_iff_exists'.1 hi
      have hne : i ≠ y := fun e => by rw [e, hy] at hm; cases hm
      have := keysOk_spec (hk1 (lo .ready none) (lo .ready none)) (i := i) (m := m) (by rw [aget_ne (Ne.symm hne)]; exact hm)
      rw [aget_ne (Ne.symm hne)] at this ⊢
      exact this
    have hL : LocOk F1 (g2.only ((y, .x) :: m1)) := by
      refine ⟨RM.loc.tab, fun i z hz => ?_, fun i a l c hr' => ?_⟩
      · have := hin i fun e => by have h1 := hr.mem.loc.bx i z hz; rw [hr.mem.nbx i e] at h1; cases h1
        simp only [Gh.only]; rw [if_pos this]; exact RM.loc.bx i z hz
      · have := hin i fun e => by obtain ⟨_, _, _, h1, _⟩ := hr.mem.loc.rw i a l c hr'; rw [hr.mem.nrw i e] at h1; cases h1
        obtain ⟨a', l', c', k1, k2⟩ := RM.loc.rw i a l c hr'
        exact ⟨a', l', c', by simp only [Gh.only]; rw [if_pos this]; exact k1, k2⟩
    have mX : RelM F1 g2 ((y, .x) :: ((y, .o (.loop (recL fn a.tmps #[p] assign body w.heap.size .exhausted pe))) :: ((y, M.o (endO lo id fin)) :: m1 ++ ((y, M.o (lo .ready none)) :: mem)))) (w3.putObj (w.heap.size + 1) (.loop (recL fn a.tmps #[p] assign body w.heap.size .exhausted pe))) :=
      ⟨fun i m hi => by rw [aget_cons] at hi; split at hi; (· cases hi; exact .x); (· exact u3.ob i m hi), fun i m b o hi hp => by rw [aget_cons] at hi; split at hi; (· cases hi; exact hp.elim); (· exact u3.wr i m b o hi hp),
        fun i j m n b o hij hi hj hp hq => by
          rw [aget_cons] at hi hj
          split at hi
          · cases hi; exact hp.elim
          · split at hj
            · cases hj; exact hq.elim
            · exact u3.dj i j m n b o hij hi hj hp hq,
        fun i hi => by rw [aget_cons] at hi; split at hi; (· cases hi); (· exact u3.nbx i hi), fun i hi => by rw [aget_cons] at hi; split at hi; (· cases hi); (· exact u3.nrw i hi), u3.fut, u3.loc⟩
    have hM : ∀ i m, aget ((y, M.x) :: m1) i = some m → aget ((y, M.x) :: ((y, M.o (.loop (recL fn a.tmps #[p] assign body w.heap.size .exhausted pe))) :: ((y, M.o (endO lo id fin)) :: m1 ++ ((y, M.o (lo .ready none)) :: mem)))) i = some m := fun i m hi => by
      by_cases e : i = y
      · subst e; rw [aget_self] at hi ⊢; exact hi
      · rw [aget_ne (Ne.symm e), aget_ne (Ne.symm e)]; exact hsub i m hi e
    have mY := mX.sub (F' := F1) hM hr1.2 hL fun i m b o hi hp => mX.wr i m b o (hM i m hi) hp
    refine ⟨_, fun t u hu => ?_, mY, ⟨u4.os, u4.tape, u4.output, u4.size, u4.blk, u4.cell, u4.S1, u4.S2, u4.cellS⟩, by show [markD w.heap.size] ++ a.defers = _; rw [hr.defers]; rfl, hr.size, hr.big⟩
    obtain ⟨z, e1, e2⟩ := hr.env t u hu
    exact ⟨z, e1, (((e2.mono vv).mono E).mono u2).only (refsE_get hr1.1 hu)⟩
  cases fin with
  | true => exact last none .ready rfl (by intro e; cases e) fun w4 h4 ⟨g4, h5⟩ => ⟨none, w4, h4, F1, hE, env, _, g4, .normal, h5, rfl, done rfl⟩
  | false => exact last (some (.exit id)) .done rfl (by intro e; cases e) fun w4 h4 ⟨g4, h5⟩ => ⟨some (.exit id), w4, h4, wpIn_exit ⟨F1, hE, env, _, g4, .exit id, h5, rfl, stop rfl⟩⟩
end
end Lf
open Go.RowKit Rg
namespace Lf
section
variable {P : Program} {F : Fr0} {g : Gh} {mem : Mem} {w : World}
theorem Ev.only {g g' : Gh} {w w' : World} (h : Ev g w g' w') (T : Mem) : Ev (g.only T) w (g'.only T) w' := by
 refine ⟨h.size, h.st, fun i z hz => ?_, fun i a l c hr => ?_⟩
 ·simp only [Gh.only] at hz ⊢
  split at hz
  ·rename_i hi; rw [if_pos hi]; exact h.bx i z hz
  ·cases hz
 ·simp only [Gh.only] at hr ⊢
  split at hr
  ·rename_i hi; simp only [if_pos hi]; exact h.rw i a l c hr
  ·cases hr
end
section
variable {P : Program}
theorem LY.later {g0 g1 : Gh} {w0 w1 : World} {y : Nat} {args : List V} {mi : Mem} {R : Out → Mem → Prop} (h : LY P g0 w0 y args mi R) (he : Ev g0 w0 g1 w1) : LY P g1 w1 y args mi R :=
 ⟨fun g w vals l o hev => h.go g w vals l o (he.trans hev)⟩
theorem LI.ren {f : Nat} {args : List V} {mi : Mem} {Y : Gh → World → Prop} {R : Out → Mem → Prop} (h : LI P f args mi Y R) (ρ : Pm) : LI P f (args.map (V.ren ρ.f)) (Mem.ren ρ.f mi) (fun g w => Y (g.pull ρ.f) w) fun o m => ∃ o' m', R o' m' ∧ o = o'.ren ρ.f ∧ m = Mem.ren ρ.f m' := by
 refine ⟨h.ok, fun g w vals hY hm hl hr => ?_⟩
 have h1 := relM_pull ρ hm
 rw [lent_pull] at h1
 refine Calls.mono (h.go (g.pull ρ.f) w vals hY h1 (by simpa using hl) fun j u x hj hx => rep_pull ρ (hr j _ x (by rw [List.getElem?_map, hj]; rfl) hx)) ?_
 rintro e w' ⟨o, mo, g0, hR, he, hm', hk, hat⟩
 have hF : (lentF (g.pull ρ.f) mi w).pull ρ.g = lentF g (Mem.ren ρ.f mi) w := by
  rw [← lent_pull]
  simp [Fr0.pull, ρ.fg]
 have hm2 : RelM (lentF g (Mem.ren ρ.f mi) w) (g0.pull ρ.g) (Mem.ren ρ.f mo) w' := by
  have := relM_pull ρ.inv (F := lentF (g.pull ρ.f) mi w) (g := g0) (mem := Mem.ren ρ.f mo) (w := w') (by
   have e : Mem.ren ρ.inv.f (Mem.ren ρ.f mo) = mo := memren_inv ρ mo
   rw [e]; exact hm')
  have e2 : (lentF (g.pull ρ.f) mi w).pull ρ.inv.f = lentF g (Mem.ren ρ.f mi) w := hF
  rw [e2] at this
  exact this
 have hB : (lentF (g.pull ρ.f) mi w).B = (lentF g (Mem.ren ρ.f mi) w).B := by rw [← hF]; rfl
 refine ⟨o.ren ρ.f, Mem.ren ρ.f mo, g0.pull ρ.g, ⟨o, mo, hR, rfl, rfl⟩, ⟨he.size, he.st, fun i z hz => he.bx (ρ.g i) z (by simpa [Gh.pull, ρ.fg] using hz), fun r a l c hr => he.rw (ρ.g r) a l c (by simpa [Gh.pull, ρ.fg] using hr)⟩, hm2,
  ⟨hk.os, hk.tape, hk.output, hk.size, by rw [← hB]; exact hk.blk, by rw [← hB]; exact hk.cell, by rw [← hB]; exact hk.S1, hk.S2, hk.cellS⟩, ?_⟩
 cases o with
 | ret v => obtain ⟨x, e1, e2⟩ := hat; exact ⟨x, e1, rep_ren e2 (pull_inv ρ g0).symm⟩
 | pan v => obtain ⟨x, e1, e2⟩ := hat; exact ⟨x, e1, rep_ren e2 (pull_inv ρ g0).symm⟩
theorem yield_mono {Fe : Fence} {n l : Nat} {vals : Array Value} {w : World} {R R' : Ending → World → Prop} (h : YieldAt Fe n P l vals w R) (hR : ∀ e w', R e w' → R' e w') : YieldAt Fe n P l vals w R' := by
 obtain ⟨fn, tmps, asg, bo, b1, b2⟩ := h
 exact ⟨fn, tmps, asg, bo, b1, b2.mono hR⟩
theorem LY.mono {g0 : Gh} {w0 : World} {y : Nat} {args : List V} {mi : Mem} {R R' : Out → Mem → Prop} (h : LY P g0 w0 y args mi R) (hR : ∀ o m, R o m → R' o m) : LY P g0 w0 y args mi R' := by
 refine ⟨fun g w vals l o a1 a2 a3 a4 a5 => yield_mono (h.go g w vals l o a1 a2 a3 a4 a5) ?_⟩
 rintro e w' ⟨q, mo, g', hR', r⟩
 exact ⟨q, mo, g', hR _ _ hR', r⟩
theorem LY.ren {g0 : Gh} {w0 : World} {y : Nat} {args : List V} {mi : Mem} {R : Out → Mem → Prop} (h : LY P g0 w0 y args mi R) (ρ : Pm) : LY P (g0.pull ρ.g) w0 (ρ.f y) (args.map (V.ren ρ.f)) (Mem.ren ρ.f mi) fun o m => ∃ o' m', R o' m' ∧ o = o'.ren ρ.f ∧ m = Mem.ren ρ.f m' := by
 refine ⟨fun g w vals l o hev hm hb hl hr => ?_⟩
 have h1 := relM_pull ρ hm
 rw [lent_pull] at h1
 have hev' : Ev g0 w0 (g.pull ρ.f) w := ⟨hev.size, hev.st, fun i z hz => hev.bx (ρ.f i) z (by simpa [Gh.pull, ρ.gf] using hz), fun r a l c hr => hev.rw (ρ.f r) a l c (by simpa [Gh.pull, ρ.gf] using hr)⟩
 refine yield_mono (h.go (g.pull ρ.f) w vals l o hev' h1 hb (by simpa using hl) fun j u x hj hx => rep_pull ρ (hr j _ x (by rw [List.getElem?_map, hj]; rfl) hx)) ?_
 rintro e w' ⟨o, mo, g0, hR, he, hm', hk, hat⟩
 have hF : (lentF (g.pull ρ.f) mi w).pull ρ.g = lentF g (Mem.ren ρ.f mi) w := by
  rw [← lent_pull]
  simp [Fr0.pull, ρ.fg]
 have hm2 : RelM (lentF g (Mem.ren ρ.f mi) w) (g0.pull ρ.g) (Mem.ren ρ.f mo) w' := by
  have := relM_pull ρ.inv (F := lentF (g.pull ρ.f) mi w) (g := g0) (mem := Mem.ren ρ.f mo) (w := w') (by
   have e : Mem.ren ρ.inv.f (Mem.ren ρ.f mo) = mo := memren_inv ρ mo
   rw [e]; exact hm')
  have e2 : (lentF (g.pull ρ.f) mi w).pull ρ.inv.f = lentF g (Mem.ren ρ.f mi) w := hF
  rw [e2] at this
  exact this
 have hB : (lentF (g.pull ρ.f) mi w).B = (lentF g (Mem.ren ρ.f mi) w).B := by rw [← hF]; rfl
 refine ⟨o.ren ρ.f, Mem.ren ρ.f mo, g0.pull ρ.g, ⟨o, mo, hR, rfl, rfl⟩, ⟨he.size, he.st, fun i z hz => he.bx (ρ.g i) z (by simpa [Gh.pull, ρ.fg] using hz), fun r a l c hr => he.rw (ρ.g r) a l c (by simpa [Gh.pull, ρ.fg] using hr)⟩, hm2,
  ⟨hk.os, hk.tape, hk.output, hk.size, by rw [← hB]; exact hk.blk, by rw [← hB]; exact hk.cell, by rw [← hB]; exact hk.S1, hk.S2, hk.cellS⟩, ?_⟩
 cases o with
 | ret v => obtain ⟨x, e1, e2⟩ := hat; exact ⟨x, e1, rep_ren e2 (pull_inv ρ g0).symm⟩
 | pan v => obtain ⟨x, e1, e2⟩ := hat; exact ⟨x, e1, rep_ren e2 (pull_inv ρ g0).symm⟩
end
end Lf
end Go.Proofs.Ytkbimhccaacobaa

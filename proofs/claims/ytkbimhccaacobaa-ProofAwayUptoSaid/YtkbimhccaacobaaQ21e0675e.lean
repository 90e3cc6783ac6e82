/- A part of the proof: texts joined. -/
import Derived.Test.YtkbimhccaacobaaQ2022360c
namespace Go.Proofs.Ytkbimhccaacobaa
open Go.RowKit Rg Wm Ar
set_option maxRecDepth 100000
namespace Lf
open Tr Ro Pk
abbrev hcB (n : Nd) : List UInt8 := hcode sumB n
abbrev cdB (n : Nd) : List (List UInt8) := cds sumB n
def kidR (k : Int) (y : Rn) : List UInt8 := if k = 1 ∨ y.kind = 0 then [] else sumB (hcB (toN y))
def kidC (k : Int) (y : Rn) : List (List UInt8) := if k = 1 ∨ y.kind = 0 then [] else cdB (toN y)
theorem map_fin {α β : Type} [Inhabited α] {f : α → β} {l : List α} (h : l.length = 16) : l.map f = (List.finRange 16).map fun i => f (l.getD i.val default) := by
  apply List.ext_getElem?
  intro j
  by_cases hj : j < 16
  · rw [List.getElem?_map, List.getElem?_eq_getElem (by omega), List.getElem?_map, List.getElem?_eq_getElem (by simp; omega)]
    simp only [List.getElem_finRange, Option.map_some, Fin.cast_mk]
    rw [List.getD_eq_getElem?_getD, List.getElem?_eq_getElem (show j < l.length by omega)]
    rfl
  · rw [List.getElem?_eq_none (by simp; omega), List.getElem?_eq_none (by simp; omega)]
theorem codes_plain {k : Int} {p v : List UInt8} {ks : List Rn} {d : Nat} (h : rt (.mk k p v ks) d = true) (h0 : k = 0 → p = [] ∧ v = [] ∧ ks = []) :
    itmS ⟨k, p, v, ks.map (kidR k)⟩ = some (nItm sumB (toN (.mk k p v ks))) ∧ cdB (toN (.mk k p v ks)) = hcB (toN (.mk k p v ks)) :: ks.flatMap (kidC k) := by
  have h' := h
  rw [rt_eq] at h
  rw [toN_eq]
  by_cases k0 : k = 0
  · subst k0
    obtain ⟨rfl, rfl, rfl⟩ := h0 rfl
    exact ⟨rfl, rfl⟩
  rw [if_neg k0] at h
  by_cases k1 : k = 1
  · subst k1
    simp only [if_true, Bool.and_eq_true, decide_eq_true_eq] at h ⊢
    obtain ⟨⟨⟨a1, _⟩, a3⟩, a4⟩ := h
    refine ⟨?_, ?_⟩
    · unfold itmS
      simp only [Int.reduceEq, if_true, if_false]
      rw [if_pos ⟨a1, a3, a4⟩]
      rfl
    · have : ks.flatMap (kidC 1) = [] := by
        rw [List.flatMap_eq_nil_iff]
        intro y _
        unfold kidC
        rw [if_pos (.inl rfl)]
      rw [this]
      rfl
  rw [if_neg k1] at h ⊢
  by_cases k2 : k = 2
  · subst k2
    simp only [if_true, Bool.and_eq_true, decide_eq_true_eq] at h ⊢
    obtain ⟨⟨⟨⟨a1, a2⟩, a3⟩, a4⟩, a5⟩ := h
    match ks, a3 with
    | [y], _ =>
      have hy : y.kind = 3 := a4
      have hr : kidR 2 y = sumB (hcB (toN y)) := by unfold kidR; rw [if_neg (by rw [hy]; decide)]
      have hc : kidC 2 y = cdB (toN y) := by unfold kidC; rw [if_neg (by rw [hy]; decide)]
      rw [List.map_cons, List.map_nil, hr, List.flatMap_cons, List.flatMap_nil, hc, List.append_nil]
      refine ⟨?_, rfl⟩
      unfold itmS
      simp only [Int.reduceEq, if_true, if_false]
      rw [if_pos ⟨a2, a1, rfl, sumB_len _⟩]
      rfl
  rw [if_neg k2] at h ⊢
  by_cases k3 : k = 3
  · subst k3
    have hR := rt_right _ _ d (Nat.le_refl _) h'
    rw [toN_eq] at hR
    simp only [Int.reduceEq, if_true, if_false] at h hR ⊢
    simp only [Bool.and_eq_true, decide_eq_true_eq] at h
    obtain ⟨⟨⟨⟨a1, a2⟩, a3⟩, a4⟩, a5⟩ := h
    have hk := rtL_get.1 a4
    have hn : ∀ i : Fin 16, isNo (toN (ks.getD i.val default)) = decide ((ks.getD i.val default).kind = 0) := fun i => by
      have := toN_no (hk i.val (by omega))
      by_cases e : (ks.getD i.val default).kind = 0
      · rw [decide_eq_true e]; exact isNo_eq.2 (this.2 e)
      · rw [decide_eq_false e]; exact isNo_ne.2 fun e2 => e (this.1 e2)
    have e1 : ks.map (kidR 3) = ksums sumB fun i => toN (ks.getD i.val default) := by
      rw [map_fin a1]
      unfold ksums
      refine List.map_congr_left fun i _ => ?_
      unfold kidR ksum
      rw [hn i]
      by_cases e : (ks.getD i.val default).kind = 0
      · rw [if_pos (.inr e), if_pos (decide_eq_true e)]
      · rw [if_neg (by rintro (h | h)
                       · cases h
                       · exact e h), if_neg (by simpa using e)]
    have e2 : ks.flatMap (kidC 3) = (List.finRange 16).flatMap fun i => kcds sumB (toN (ks.getD i.val default)) := by
      rw [List.flatMap_def, map_fin a1, ← List.flatMap_def]
      rw [List.flatMap_def, List.flatMap_def]
      congr 1
      refine List.map_congr_left fun i _ => ?_
      unfold kidC kcds
      rw [hn i]
      by_cases e : (ks.getD i.val default).kind = 0
      · rw [if_pos (.inr e), if_pos (decide_eq_true e)]
      · rw [if_neg (by rintro (h | h)
                       · cases h
                       · exact e h), if_neg (by simpa using e)]
    rw [e1, e2]
    have hi := itm_shpN sumB sumB_len hR
    refine ⟨?_, cds_fork _ _ _⟩
    rw [← hi]
    rfl
  · rw [if_neg k3] at h; cases h
theorem cds_size : ∀ (n : Nat) (x : Rn) (d : Nat), x.size ≤ n → rt x d = true → (x.kind = 0 → x = Rn.no) → (cdB (toN x)).length ≤ x.size := by
  intro n
  induction n with
  | zero => intro x d hx; obtain ⟨k, p, v, ks⟩ := x; rw [size_eq] at hx; omega
  | succ n ih =>
    intro x d hx hr h0
    obtain ⟨k, p, v, ks⟩ := x
    have h0' : k = 0 → p = [] ∧ v = [] ∧ ks = [] := fun e => by
      have := h0 e
      unfold Rn.no at this
      cases this
      exact ⟨rfl, rfl, rfl⟩
    rw [(codes_plain hr h0').2, List.length_cons]
    rw [size_eq] at hx ⊢
    have hkr : ∀ i, i < ks.length → k ≠ 1 → (ks.getD i default).kind ≠ 0 → ∃ e, rt (ks.getD i default) e = true := fun i hi k1 hk => by
      rw [rt_eq] at hr
      by_cases k0 : k = 0
      · have := (h0' k0).2.2; subst this; simp at hi
      rw [if_neg k0, if_neg k1] at hr
      by_cases k2 : k = 2
      · rw [if_pos k2] at hr
        simp only [Bool.and_eq_true, decide_eq_true_eq] at hr
        exact ⟨_, rtL_get.1 hr.2 i hi⟩
      rw [if_neg k2] at hr
      by_cases k3 : k = 3
      · rw [if_pos k3] at hr
        simp only [Bool.and_eq_true, decide_eq_true_eq] at hr
        exact ⟨_, rtL_get.1 hr.1.2 i hi⟩
      · rw [if_neg k3] at hr; cases hr
    have key : ∀ (l : List Rn), (∀ y ∈ l, (kidC k y).length ≤ y.size) → (l.flatMap (kidC k)).length ≤ Rn.sizeL l := by
      intro l
      induction l with
      | nil => intro _; exact Nat.le_refl _
      | cons a r ihl =>
        intro hl
        rw [List.flatMap_cons, List.length_append, Rn.sizeL]
        have h1 := hl a (by simp)
        have h2 := ihl fun y hy => hl y (by simp [hy])
        omega
    have := key ks fun y hy => by
      obtain ⟨i, hi, e⟩ := List.mem_iff_getElem.1 hy
      have hg : ks.getD i default = y := by rw [List.getD_eq_getElem?_getD, List.getElem?_eq_getElem hi]; exact e
      unfold kidC
      split
      · simp
      · rename_i hk
        have hk1 : k ≠ 1 := fun e => hk (.inl e)
        have hk2 : y.kind ≠ 0 := fun e => hk (.inr e)
        obtain ⟨e, he⟩ := hkr i hi hk1 (by rw [hg]; exact hk2)
        rw [hg] at he
        have hs := sizeL_get hi
        rw [hg] at hs
        exact ih y e (by omega) he fun e => absurd e hk2
    omega
theorem flatM_take {α β : Type} [Inhabited α] {f : α → List β} {l : List α} {i : Nat} (h : i < l.length) : (l.take (i + 1)).flatMap f = (l.take i).flatMap f ++ f (l.getD i default) := by
  rw [List.take_succ_eq_append_getElem h, List.flatMap_append, List.flatMap_singleton, List.getD_eq_getElem?_getD, List.getElem?_eq_getElem h]
  rfl
theorem flat_len_le {α β : Type} {f : α → List β} {l : List α} (i : Nat) : ((l.take i).flatMap f).length ≤ (l.flatMap f).length := by
  conv => rhs; rw [← List.take_append_drop i l]
  rw [List.flatMap_append, List.length_append]
  omega
theorem kidC_take {k : Int} {ks : List Rn} (hk : ∀ j, j < ks.length → (kidC k (ks.getD j default)).length ≤ (ks.getD j default).size) : ∀ {i : Nat}, i < ks.length → ((ks.take i).flatMap (kidC k)).length + (ks.getD i default).size + 1 ≤ Rn.sizeL ks := by
  induction ks with
  | nil => intro i hi; simp at hi
  | cons a r ih =>
    intro i hi
    rw [Rn.sizeL]
    cases i with
    | zero => rw [List.take_zero, List.flatMap_nil, List.length_nil, List.getD_cons_zero]; omega
    | succ i =>
      rw [List.take_succ_cons, List.flatMap_cons, List.length_append, List.getD_cons_succ]
      have h0 := hk 0 (by simp)
      rw [List.getD_cons_zero] at h0
      have h1 := ih (fun j hj => by have := hk (j + 1) (by simpa using hj); rwa [List.getD_cons_succ] at this) (i := i) (by simpa using hi)
      omega
end Lf
open Go.RowKit Rg Wm Ar
set_option linter.unusedVariables false
set_option maxRecDepth 100000
namespace Lf
open Tr Ro Pk
def outM (i j g : Nat) (es : List (List UInt8)) : Mem := [(i, .b [.w j g 1 0 es.length]), (j, .w 22 1 g (es.map bV))]
def CodesC (x : Rn) : Prop := ∀ (es : List (List UInt8)) (g : Nat), es.length + x.size < 1000000000 →
  LM Try.prog 52 [rnV x, .p 1000 0] (outM 1000 1001 g es) fun o m => o = .ret (bV (hcB (toN x))) ∧ m = outM 1000 1001 (g + (cdB (toN x)).length) (es ++ cdB (toN x))
theorem set_mid {α : Type} (es : List α) (a b : α) (K : List α) : (es ++ [a] ++ K).set es.length b = es ++ b :: K := by
  rw [List.append_assoc, List.set_append_right _ _ (Nat.le_refl _), Nat.sub_self]
  rfl
theorem bgo_mapb : ∀ l : List UInt8, V.bare.go (l.map bK) = some (l.map bK)
  | [] => rfl
  | a :: r => by rw [List.map_cons, V.bare.go, bgo_mapb r]; rfl
namespace Rw
set_option maxHeartbeats 8000000 in
theorem codes_ : ∀ (n : Nat) (x : Rn) (d : Nat), x.size ≤ n → n < 20000000 → rt x d = true → (x.kind = 0 → x = Rn.no) → CodesC x := by
  intro n
  induction n with
  | zero => intro x d hx; obtain ⟨k, p, v, ks⟩ := x; rw [size_eq] at hx; omega
  | succ n ih =>
    intro x d hx hn hr h0 es g hes
    have hsz0 := cds_size _ x d (Nat.le_refl _) hr h0
    obtain ⟨k, p, v, ks⟩ := x
    have h0' : k = 0 → p = [] ∧ v = [] ∧ ks = [] := fun e => by
      have := h0 e
      unfold Rn.no at this
      cases this
      exact ⟨rfl, rfl, rfl⟩
    obtain ⟨q1, q2⟩ := codes_plain hr h0'
    rw [q2, List.length_cons] at hsz0
    rw [q2]
    have hlen := hcode_len sumB sumB_len (rt_right _ _ d (Nat.le_refl _) hr)
    have hcE : hcB (toN (.mk k p v ks)) = enc (nItm sumB (toN (.mk k p v ks))) := rfl
    have kid : ∀ i, i < ks.length → ¬ (k = 1 ∨ (ks.getD i default).kind = 0) → CodesC (ks.getD i default) ∧ (cdB (toN (ks.getD i default))).length ≤ (ks.getD i default).size ∧ (hcB (toN (ks.getD i default))).length ≤ 200000 := fun i hi hk => by
      have hk1 : k ≠ 1 := fun e => hk (.inl e)
      have hk2 : (ks.getD i default).kind ≠ 0 := fun e => hk (.inr e)
      have hs := sizeL_get hi
      rw [size_eq] at hx
      obtain ⟨e, he⟩ : ∃ e, rt (ks.getD i default) e = true := by
        rw [rt_eq] at hr
        by_cases k0 : k = 0
        · have := (h0' k0).2.2; subst this; simp at hi
        rw [if_neg k0, if_neg hk1] at hr
        by_cases k2 : k = 2
        · rw [if_pos k2] at hr
          simp only [Bool.and_eq_true, decide_eq_true_eq] at hr
          exact ⟨_, rtL_get.1 hr.2 i hi⟩
        rw [if_neg k2] at hr
        by_cases k3 : k = 3
        · rw [if_pos k3] at hr
          simp only [Bool.and_eq_true, decide_eq_true_eq] at hr
          exact ⟨_, rtL_get.1 hr.1.2 i hi⟩
        · rw [if_neg k3] at hr; cases hr
      exact ⟨ih _ e (by omega) (by omega) he fun e => absurd e hk2, cds_size _ _ e (Nat.le_refl _) he fun e => absurd e hk2, hcode_len sumB sumB_len (rt_right _ _ e (Nat.le_refl _) he)⟩
    have hkc : ∀ i, i < ks.length → ((ks.take i).flatMap (kidC k)).length + (ks.getD i default).size + 1 ≤ Rn.sizeL ks := fun i hi => kidC_take (fun j hj => by
      by_cases hk : k = 1 ∨ (ks.getD j default).kind = 0
      · rw [show kidC k (ks.getD j default) = [] from if_pos hk]; exact Nat.zero_le _
      · rw [show kidC k (ks.getD j default) = cdB (toN (ks.getD j default)) from if_neg hk]; exact (kid j hj hk).2.1) hi
    clear ih h0 h0'
    rw [size_eq] at hes hx hsz0
    have hkl := Tr.sizeL_len ks
    obtain ⟨_, cC⟩ := Code_ ⟨k, p, v, ks.map (kidR k)⟩ (by show p.length < _; omega) (by show v.length < _; omega) (by show (ks.map (kidR k)).length < _; rw [List.length_map]; omega)
    have cD := cC _ q1
    rw [← hcE] at cD
    clear cC q1 hcE q2 hr
    generalize hcB (toN (.mk k p v ks)) = C at *
    simp only [shV, shC_eq] at cD
    have hm1 : es.length + [V.s none []].length = (es ++ [([] : List UInt8)]).length := by rw [List.length_append]; rfl
    have hz1 : es.map bV ++ [V.s none []] = (es ++ [([] : List UInt8)]).map bV := by rw [List.map_append]; rfl
    unfold outM
    obtain ⟨G', hG'⟩ : ∃ G', G' = g + (C :: ks.flatMap (kidC k)).length := ⟨_, rfl⟩
    obtain ⟨Z, hZ⟩ : ∃ Z, Z = es ++ C :: ks.flatMap (kidC k) := ⟨_, rfl⟩
    rw [← hG', ← hZ]
    simp only [rnV, rnC_eq]
    have hrf := rnC_refs
    have hnz : NilElt := ⟨trivial⟩
    have hfb : FrzBox 10 9 := ⟨⟩
    have hes2 : (es ++ [([] : List UInt8)]).length ≤ 1000000000 := by rw [← hm1]; show es.length + 1 ≤ _; omega
    refine LM.enter tt Try.func52 rfl rfl rfl (by kernel_rfl) rfl rfl rfl (fun o mo h => by rw [h.2]; rfl) fun F _ => ?_
    refine wk ?_ trueW trueW
    refine LC.nilcell 6 3 60 22 1 rfl rfl rfl (by decide) rfl ?_
    refine LC.loop5 (fun i R L G (_u4 : Unit) => [(1, .p 1000 0), (2, .p 2 0), (5, .k (.int .i64 ((es.length : Nat) : Int))), (6, .p 6 0), (31, .s none (ks.map rnV)), (32, .k (.int .i64 ((ks.length : Nat) : Int))), (33, .k (.int .i64 ((i : Nat) : Int)))]) (fun i R L G (_u4 : Unit) => [(1000, .b [.w 1001 G 1 0 L.length]), (1001, .w 22 1 G (L.map bV)), (2, .b [.k (.int .i64 k), bV p, bV v, .s none (ks.map rnV)]), (6, .b [.k (.int .i64 k), bV p, bV v, .s (some 60) (R.map bV)]), (60, .r 22 1 R.length)]) (fun i R L G (_u4 : Unit) => i ≤ ks.length ∧ R = (ks.take i).map (kidR k) ∧ L = es ++ [[]] ++ (ks.take i).flatMap (kidC k) ∧ G = g + 1 + ((ks.take i).flatMap (kidC k)).length) ((ks.length - ·)) (0) ([]) (es ++ [([] : List UInt8)]) (g + 1) () ⟨by omega, rfl, by simp, rfl⟩ ⟨rfl, rfl, rfl, rfl, rfl, rfl, rfl, trivial⟩ ⟨rfl, rfl, rfl, rfl, rfl, trivial⟩ rfl rfW rfW ?_
    rintro i R L G _ ⟨hi, hR, hL, hG⟩
    have hRl : R.length = i := by rw [hR, List.length_map, List.length_take]; omega
    have hKl : ((ks.take i).flatMap (kidC k)).length ≤ (ks.flatMap (kidC k)).length := flat_len_le i
    have hLl : L.length = es.length + 1 + ((ks.take i).flatMap (kidC k)).length := by rw [hL, List.length_append, List.length_append]; rfl
    rcases Nat.lt_or_ge i ks.length with h | h
    · have ld1 := @rn_kind
      have hk4 := rnC_len (ks.getD i default)
      have hR2 : R ++ [kidR k (ks.getD i default)] = (ks.take (i + 1)).map (kidR k) := by rw [hR]; exact take_map h
      have hL2 : L ++ kidC k (ks.getD i default) = es ++ [[]] ++ (ks.take (i + 1)).flatMap (kidC k) := by rw [hL, flatM_take h, List.append_assoc (es ++ [[]])]
      have hG2 : G + (kidC k (ks.getD i default)).length = g + 1 + ((ks.take (i + 1)).flatMap (kidC k)).length := by rw [hG, flatM_take h, List.length_append]; omega
      have hrz : R.map bV ++ [V.s none []] = (R ++ [([] : List UInt8)]).map bV := by rw [List.map_append]; rfl
      have hrl : R.length + [V.s none []].length = (R ++ [([] : List UInt8)]).length := by rw [List.length_append]; rfl
      by_cases hk : k = 1 ∨ (ks.getD i default).kind = 0
      · have eR : kidR k (ks.getD i default) = [] := if_pos hk
        have eC : kidC k (ks.getD i default) = [] := if_pos hk
        rw [eR] at hR2
        rw [eC, List.append_nil] at hL2
        rw [eC, List.length_nil, Nat.add_zero] at hG2
        have hok : i + 1 ≤ ks.length ∧ R ++ [[]] = (ks.take (i + 1)).map (kidR k) ∧ L = es ++ [[]] ++ (ks.take (i + 1)).flatMap (kidC k) ∧ G = g + 1 + ((ks.take (i + 1)).flatMap (kidC k)).length := ⟨h, hR2, hL2, hG2⟩
        clear kid hR hL hG hR2 hL2 hG2 eR eC hG' hZ
        by_cases hk1 : k = 1
        · exact wk trueW trueW trueW
        · have hk2 : (ks.getD i default).kind = 0 := hk.resolve_left hk1
          exact wk trueW trueW trueW
      · obtain ⟨k1, k2, k3⟩ := kid i h hk
        have eR : kidR k (ks.getD i default) = sumB (hcB (toN (ks.getD i default))) := if_neg hk
        have eC : kidC k (ks.getD i default) = cdB (toN (ks.getD i default)) := if_neg hk
        rw [eR] at hR2
        rw [eC] at hL2 hG2
        have hok : i + 1 ≤ ks.length ∧ R ++ [sumB (hcB (toN (ks.getD i default)))] = (ks.take (i + 1)).map (kidR k) ∧ L ++ cdB (toN (ks.getD i default)) = es ++ [[]] ++ (ks.take (i + 1)).flatMap (kidC k) ∧ G + (cdB (toN (ks.getD i default))).length = g + 1 + ((ks.take (i + 1)).flatMap (kidC k)).length := ⟨h, hR2, hL2, hG2⟩
        have hs := sizeL_get h
        have hkci := hkc i h
        have c1 := k1 L G (by omega)
        unfold outM at c1
        have c2 := Sp.Sum (hcB (toN (ks.getD i default))) (by omega)
        have hsl := sumB_len (hcB (toN (ks.getD i default)))
        have hq : CutQ ((sumB (hcB (toN (ks.getD i default)))).map bK) 32 (sumB (hcB (toN (ks.getD i default)))) := ⟨by rw [List.take_of_length_le (by rw [List.length_map, hsl]; omega)], hsl⟩
        have hk1 : ¬ k = 1 := fun e => hk (.inl e)
        have hk2 : ¬ (ks.getD i default).kind = 0 := fun e => hk (.inr e)
        clear kid hR hL hG hR2 hL2 hG2 eR eC hG' hZ k1
        have hbg := bgo_mapb (sumB (hcB (toN (ks.getD i default))))
        clear cD
        generalize hcB (toN (ks.getD i default)) = KC at *
        generalize cdB (toN (ks.getD i default)) = KD at *
        generalize sumB KC = KS at *
        exact wk trueW trueW trueW
    · obtain rfl : i = ks.length := by omega
      rw [List.take_length] at hR hL hG hLl
      subst hR
      have e1 : Z = L.set es.length C := by rw [hZ, hL, set_mid]
      have e2 : Z.length = L.length := by rw [e1, List.length_set]
      have e3 : G' = G := by rw [hG', hG, List.length_cons]; omega
      rw [e2, e1, e3]
      have c1 := cD
      clear e1 e2 e3 hZ hG' hL hG
      exact wk trueW trueW trueW
end Rw
end Lf
open Go.RowKit Rg Wm Ar
set_option linter.unusedVariables false
set_option maxRecDepth 100000
namespace Lf
open Tr Ro Pk
abbrev hashV (h : List UInt8) : V := .a (h.map bK)
abbrev txV (l : List (List UInt8)) : V := .s none (l.map bV)
def hash0 : List UInt8 := List.replicate 32 0
theorem codes_at {x : Rn} (h : CodesC x) (es : List (List UInt8)) (g : Nat) (hb : es.length + x.size < 1000000000) {i j : Nat} (hij : i ≠ j) :
    LM Try.prog 52 [rnV x, .p i 0] (outM i j g es) fun o m => o = .ret (bV (hcB (toN x))) ∧ m = outM i j (g + (cdB (toN x)).length) (es ++ cdB (toN x)) :=
  LM.gen [1000, 1001] [i, j] (by simp) (by simpa using hij) rfl (h es g hb) fun ρ hρ => by
    simp at hρ
    obtain ⟨e1, e2⟩ := hρ
    refine ⟨?_, ?_, ?_, ?_⟩
    · show [(rnV x).ren ρ.f, .p (ρ.f 1000) 0] = _
      rw [ren_refs (rnV x) (rnC_refs [] x), e1]
    · simp [outM, Mem.ren, M.ren, V.ren, e1, e2]
    · rfl
    · simp [outM, Mem.ren, M.ren, V.ren, e1, e2]
theorem toN_zero {x : Rn} (h : x.kind = 0) : toN x = .no := by
  obtain ⟨k, p, v, ks⟩ := x
  have : k = 0 := h
  subst this
  rw [toN_eq]; rfl
namespace Rw
set_option maxHeartbeats 4000000 in
theorem Codes_no (x : Rn) (hx : x.size < 1000000000) (hr : rt x 0 = false) : LF Try.prog 20 [rnV x] (fun _ => .t [.s none [], .k (.int .i64 1)]) none := by
  have c1 := Te.Right_ x hx
  rw [hr] at c1
  have hk4 := rnC_len x
  have hrf := rnC_refs
  refine LFx.mk' tt Try.func20 rfl rfl rfl (by kernel_rfl) rfl rfl fun F => ?_
  exact wk trueW trueW trueW
set_option maxHeartbeats 4000000 in
theorem Codes_ok (x : Rn) (hx : x.size < 20000000) (hr : rt x 0 = true) : LF Try.prog 20 [rnV x] (fun _ => .t [txV (cdB (toN x)), .k (.int .i64 0)]) none := by
  have c1 := Te.Right_ x (by omega)
  rw [hr] at c1
  have hk4 := rnC_len x
  have hrf := rnC_refs
  have ld1 := @rn_kind
  have hfz : FrzAt 2 70 := ⟨⟩
  have hnbf : NilBuf 6 4 0 70 22 1 := ⟨trivial⟩
  by_cases hk : x.kind = 0
  · have c2 := codes_at (codes_ 1 Rn.no 0 (by rw [show Rn.no = .mk 0 [] [] [] from rfl, size_eq]; decide) (by decide) rfl (fun _ => rfl)) [] 0 (by rw [show Rn.no = .mk 0 [] [] [] from rfl, size_eq]; decide) (i := 4) (j := 70) (by decide)
    rw [toN_zero hk]
    rw [show toN Rn.no = .no from rfl] at c2
    rw [show rnV Rn.no = .a [.k (.int .i64 0), bV [], bV [], .s none []] by rw [show Rn.no = .mk 0 [] [] [] from rfl]; unfold rnV; rw [rnC_eq]; rfl] at c2
    unfold outM at c2
    have hl : (cdB .no).length = 1 := rfl
    generalize hcB .no = C at *
    generalize cdB .no = L at *
    refine LFx.mk' tt Try.func20 rfl rfl rfl (by kernel_rfl) rfl rfl fun F => ?_
    exact wk trueW trueW trueW
  · have c2 := codes_at (codes_ x.size x 0 (Nat.le_refl _) hx hr (fun e => absurd e hk)) [] 0 (by simp only [List.length_nil]; omega) (i := 4) (j := 70) (by decide)
    have hl := cds_size _ x 0 (Nat.le_refl _) hr (fun e => absurd e hk)
    unfold outM at c2
    generalize hcB (toN x) = C at *
    generalize cdB (toN x) = L at *
    refine LFx.mk' tt Try.func20 rfl rfl rfl (by kernel_rfl) rfl rfl fun F => ?_
    exact wk trueW trueW trueW
set_option maxHeartbeats 4000000 in
theorem Root_no (x : Rn) (hx : x.size < 1000000000) (hr : rt x 0 = false) : LF Try.prog 19 [rnV x] (fun _ => .t [hashV hash0, .k (.int .i64 1)]) none := by
  have c1 := Codes_no x hx hr
  have hk4 := rnC_len x
  have hrf := rnC_refs
  refine LFx.mk' tt Try.func19 rfl rfl rfl (by kernel_rfl) rfl rfl fun F => ?_
  exact wk trueW trueW trueW
theorem hcB_len {n : Nd} {d : Nat} (h : Right n d) : (hcB n).length ≤ 200000 := hcode_len sumB sumB_len h
theorem cdB_zero (n : Nd) : 0 < (cdB n).length ∧ (cdB n).getD 0 default = hcB n := by
  obtain ⟨r, h⟩ := cds_head sumB n
  unfold cdB
  rw [h]
  exact ⟨by simp, rfl⟩
set_option maxHeartbeats 4000000 in
theorem Root_ok (x : Rn) (hx : x.size < 20000000) (hr : rt x 0 = true) : LF Try.prog 19 [rnV x] (fun _ => .t [hashV (sumB (hcB (toN x))), .k (.int .i64 0)]) none := by
  have c1 := Codes_ok x hx hr
  have hl := hcB_len (rt_right _ _ 0 (Nat.le_refl _) hr)
  obtain ⟨h0, h1⟩ := cdB_zero (toN x)
  rw [← h1] at hl ⊢
  have c2 := Sp.Sum ((cdB (toN x)).getD 0 default) (by omega)
  have hsl := sumB_len ((cdB (toN x)).getD 0 default)
  have hk4 := rnC_len x
  have hrf := rnC_refs
  clear h1 hr
  generalize cdB (toN x) = L at *
  generalize sumB (L.getD 0 default) = SS at *
  refine LFx.mk' tt Try.func19 rfl rfl rfl (by kernel_rfl) rfl rfl fun F => ?_
  exact wk trueW trueW trueW
end Rw
end Lf
open Go.RowKit Rg
set_option maxRecDepth 100000
namespace Lf
namespace St
theorem laidV : laidOutB Try.prog = true := by kernel_rfl
theorem mapM_some {α β : Type} {f : α → Option β} : ∀ {l : List α}, (∀ x ∈ l, ∃ y, f x = some y) → ∃ r, l.mapM f = some r
  | [], _ => ⟨[], rfl⟩
  | x :: r, h => by
    obtain ⟨y, hy⟩ := h x (by simp)
    obtain ⟨s, hs⟩ := mapM_some (l := r) fun z hz => h z (by simp [hz])
    exact ⟨y :: s, by simp [List.mapM_cons, hy, hs]⟩
theorem u_u8 : Try.prog.underlying 5 = some (.int .u8) := by kernel_rfl
theorem u_hash : Try.prog.underlying 34 = some (.array 32 5) := by kernel_rfl
theorem c_u8 : Try.prog.cellsOf 5 = 1 := by kernel_rfl
theorem c_hash : Try.prog.cellsOf 34 = 32 := by kernel_rfl
theorem size_ge : ∃ n, Try.prog.types.size + 1 = n + 1 + 1 + 1 := by
  have h : Nat.ble 3 Try.prog.types.size = true := by kernel_rfl
  have := Nat.le_of_ble_eq_true h
  exact ⟨Try.prog.types.size - 2, by omega⟩
theorem kl_array {P : Program} {d t n e : Nat} {cs : List Value} (h : P.underlying t = some (.array n e)) : P.keyLits (d + 1) t cs = if cs.length = P.cellsOf t then ((List.range n).mapM fun i => P.keyLits d e ((cs.drop (i * P.cellsOf e)).take (P.cellsOf e))).map List.flatten else none := by
  simp only [Program.keyLits, h]
theorem lits_u8 (d : Nat) (b : UInt8) : Try.prog.keyLits (d + 1) 5 [.int .u8 (b.toNat : Int)] = some [.int .u8 (b.toNat : Int)] := by
  have := b.toNat_lt
  simp only [Program.keyLits, u_u8]
  rw [if_pos]
  simp [Lit.wf, IntKind.min, IntKind.max, IntKind.bits, IntKind.signed]
  omega
theorem lits_hash (d : Nat) (l : List UInt8) (h : l.length = 32) : ∃ r, Try.prog.keyLits (d + 1 + 1) 34 (l.map fun b => Value.int .u8 (b.toNat : Int)) = some r := by
  rw [kl_array u_hash, if_pos (by rw [c_hash, List.length_map, h])]
  obtain ⟨r, hr⟩ := mapM_some (l := List.range 32) (f := fun i => Try.prog.keyLits (d + 1) 5 (((l.map fun b => Value.int .u8 (b.toNat : Int)).drop (i * Try.prog.cellsOf 5)).take (Try.prog.cellsOf 5))) fun i hi => by
    have hi' : i < l.length := by rw [h]; exact List.mem_range.1 hi
    refine ⟨[.int .u8 ((l[i]).toNat : Int)], ?_⟩
    have e : ((l.map fun b => Value.int .u8 (b.toNat : Int)).drop i).take 1 = [Value.int .u8 ((l[i]).toNat : Int)] := by
      rw [← List.map_drop, ← List.map_take, List.drop_eq_getElem_cons hi']
      rfl
    rw [c_u8, Nat.mul_one, e]
    exact lits_u8 d _
  exact ⟨_, by rw [hr]; rfl⟩
end St
def hashL (h : List UInt8) : List Value := h.map fun b => Value.int .u8 (b.toNat : Int)
def hashK (h : List UInt8) : Value := .agg (hashL h).toArray
theorem hash_rep {w : World} {g : Gh} {h : List UInt8} {v : Value} (hr : Rep w g (.a (h.map bK)) v) : v = hashK h := by
  have e : h.map bK = (hashL h).map .k := by unfold hashL; rw [List.map_map]; rfl
  rw [e] at hr
  exact rep_plain hr
theorem hashL_inj : ∀ {a b : List UInt8}, hashL a = hashL b → a = b
  | [], [], _ => rfl
  | [], _ :: _, h => by simp [hashL] at h
  | _ :: _, [], h => by simp [hashL] at h
  | x :: r, y :: s, h => by
    simp only [hashL, List.map_cons, List.cons.injEq, Value.int.injEq, true_and] at h
    have e1 : x = y := UInt8.toNat_inj.1 (Int.ofNat.inj h.1)
    rw [e1, hashL_inj (a := r) (b := s) h.2]
theorem hashK_inj {a b : List UInt8} (h : hashK a = hashK b) : a = b := hashL_inj (by simpa using congrArg Array.toList (Value.agg.inj h))
theorem wideH : (match Try.prog.underlying 34 with | some (.array _ _) | some (.struct _) => true | _ => false) = true := by kernel_rfl
theorem lawH : Maps.Keyed Try.prog 34 := Maps.Keyed.of_law (deep_law_laid St.laidV (m := 3) (by omega) (of_decide_eq_true (by kernel_rfl)) (by kernel_rfl) wideH)
theorem key_hash : Try.prog.keyType 34 = true := by kernel_rfl
theorem key_hashK {h : List UInt8} (hl : h.length = 32) : ∃ l, keyOf Try.prog 34 (hashK h) = some l := by
  obtain ⟨n, hn⟩ := St.size_ge
  obtain ⟨r, hr⟩ := St.lits_hash (n + 1) h hl
  have hc : (hashK h).cells.toList = hashL h := by simp [hashK, Value.cells]
  have hf : (hashK h).formed Try.prog 34 = true := by
    simp [hashK, Value.formed, St.u_hash, St.c_hash, hashL, hl]
  unfold keyOf
  rw [St.u_hash]
  simp only
  rw [if_pos (by rw [key_hash, hf]; rfl), hn, hc]
  have : Try.prog.keyLits (n + 1 + 1 + 1) 34 (hashL h) = some r := hr
  rw [this]
  exact ⟨_, rfl⟩
theorem keyH {h : List UInt8} (hl : h.length = 32) : KeyV Try.prog 34 (.a (h.map bK)) (hashK h) := ⟨key_hashK hl, fun _ _ _ hr => hash_rep hr⟩
end Lf
end Go.Proofs.Ytkbimhccaacobaa

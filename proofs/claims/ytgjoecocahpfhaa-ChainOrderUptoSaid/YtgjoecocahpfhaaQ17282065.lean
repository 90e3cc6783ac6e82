/- A part of the proof: texts joined. -/
import Derived.Test.YtgjoecocahpfhaaQ16221fc3
namespace Go.Proofs.Ytgjoecocahpfhaa
open Go.RowKit Rg
set_option linter.unusedVariables false
set_option maxRecDepth 100000
namespace Lf
open Pk
namespace Cm
open Sq
abbrev haV (h : List UInt8) : V := .a (h.map bK)
def fS (h : Hdr) : List UInt8 := sumB (hdrB h)
theorem fS_len (h : Hdr) : (fS h).length = 32 := sumB_len _
theorem getR_some {R : RT} (h : Once R) {n q : Nat} (hq : R.lookup n = some q) : MGetO (rM R) (.int .i64 ((n : Nat) : Int)) (.a [.k (.int .i64 0), .k (.int .i64 0)]) (.a [iK n, iK q]) true := by
  have := getR h n
  rw [hq] at this
  exact this
theorem getR_none {R : RT} (h : Once R) {n : Nat} (hq : R.lookup n = none) : MGetO (rM R) (.int .i64 ((n : Nat) : Int)) (.a [.k (.int .i64 0), .k (.int .i64 0)]) (.a [.k (.int .i64 0), .k (.int .i64 0)]) false := by
  have := getR h n
  rw [hq] at this
  exact this
theorem getR1 {R : RT} (h : Once R) {n q : Nat} (hq : R.lookup n = some q) : MGet (rM R) (.int .i64 ((n : Nat) : Int)) (.a [.k (.int .i64 0), .k (.int .i64 0)]) (.a [iK n, iK q]) := ⟨fun h1 => absurd rfl (h1 (.int .i64 ((n : Nat) : Int), .a [iK n, iK q]) (List.mem_map.2 ⟨(n, q), look_some hq, rfl⟩)), fun p hp e => ((getR_some h hq).yes p hp e).1⟩
theorem rep_m0 {w : World} {g : Gh} : Rep w g (.a [.k (.int .i64 0), .k (.int .i64 0)]) (.agg #[.int .i64 0, .int .i64 0]) := by
  refine .a (vs := #[.int .i64 0, .int .i64 0]) rfl (fun u hu => ?_) fun j u v hu hv => ?_
  · simp only [List.mem_cons, List.not_mem_nil, or_false, or_self] at hu
    subst hu; rfl
  · match j with
    | 0 => cases hu; cases hv; exact .k _
    | 1 => cases hu; cases hv; exact .k _
    | j + 2 => simp at hu
theorem marks_k (all : List Hdr) (h : ∀ x ∈ all, x.ok) (h0 : 0 < all.length) (hl : all.length < 10000000) (k : Nat) : LM Try.prog 33 [hdsV all, sumsV fS all] [] fun o m => o = .ret (.mp k) ∧ m = [(k, .m (rM (mksR fS all)))] :=
  LM.map1 (k0 := 35) (fun ρ => rfl) (marks_1 fS fS_len all h h0 hl) k
theorem getD_setS {l : List (List UInt8)} {i t : Nat} {a : List UInt8} (h : t < l.length) : (l.set i a).getD t default = if i = t then a else l.getD t default := by
  rw [List.getD_eq_getElem?_getD, List.getElem?_set]
  by_cases e : i = t
  · subst e; rw [if_pos rfl, if_pos h, if_pos rfl]; rfl
  · rw [if_neg e, if_neg e, ← List.getD_eq_getElem?_getD]
theorem bare_ha (l : List UInt8) : (haV l).bare = some (haV l) := by
  have : V.bare.go (l.map bK) = some (l.map bK) := by
    induction l with
    | nil => rfl
    | cons x r ih => rw [List.map_cons, V.bare.go, ih]; rfl
  rw [V.bare, this]
  rfl
theorem cut_ha (x : Hdr) : CutQ (suV fS x).cells 32 (fS x) := ⟨by
  show ((fS x).map bK).take 32 = _
  rw [List.take_of_length_le (by rw [List.length_map, fS_len]; exact Nat.le_refl _)], fS_len x⟩
theorem Bt_ex {f : Hdr → List UInt8} {all : List Hdr} {M : Nat → Option Nat} (hM : Ch.Mk (sgH f) all M) : ∀ t, t ≤ all.length → ∃ b, Bt f all M t b
  | 0, _ => ⟨0, Bt.start hM⟩
  | t + 1, ht => by
    obtain ⟨b, hb⟩ := Bt_ex hM t (by omega)
    cases hs : M t with
    | none => exact ⟨b, hb.skip hs⟩
    | some q =>
      have hs : (M t).isSome = true := by rw [hs]; rfl
      rcases Nat.lt_trichotomy (nums all t) (nums all b) with hc | hc | hc
      · exact ⟨b, hb.less hc⟩
      · by_cases hd : lt8 (f (all.getD t default)) (f (all.getD b default))
        · exact ⟨t, hb.eqL hs ht hc.symm hd⟩
        · exact ⟨b, hb.eqG hc.symm hd⟩
      · exact ⟨t, hb.more hs ht hc⟩
theorem mem_at {all : List Hdr} {i : Nat} (h : i < all.length) : all.getD i default ∈ all := by
  rw [List.getD_eq_getElem?_getD, List.getElem?_eq_getElem h]
  exact List.getElem_mem h
theorem pth_mem {f : Hdr → List UInt8} {all : List Hdr} {M : Nat → Option Nat} (hM : Ch.Mk (sgH f) all M) {i : Nat} {l : List Hdr} (h : Ch.Pth all M i l) : ∀ x ∈ l, x ∈ all := by
  induction h with
  | z => intro x hx; obtain rfl := List.mem_singleton.1 hx; exact mem_at (hM.lt 0 hM.zero)
  | s h0 hp _ ih =>
    intro x hx
    rcases List.mem_append.1 hx with hx | hx
    · exact ih x hx
    · obtain rfl := List.mem_singleton.1 hx
      exact mem_at (hM.lt _ (by rw [hp]; rfl))
structure J3 (all : List Hdr) (R : RT) (l : List Hdr) (i : Nat) (X : List Hdr) (m : Nat) : Prop where
  ex : ∃ l' O, Ch.Pth all (fun i => R.lookup i) i l' ∧ l = l' ++ O ∧ X = (all.getD i default :: O).reverse ∧ X.length = m + 1
theorem J3.mk' {all : List Hdr} {R : RT} {l : List Hdr} {i : Nat} {X : List Hdr} {m : Nat} (l' O : List Hdr) (h : Ch.Pth all (fun i => R.lookup i) i l') (h2 : l = l' ++ O) (h3 : X = (all.getD i default :: O).reverse) (h4 : X.length = m + 1) : J3 all R l i X m := ⟨⟨l', O, h, h2, h3, h4⟩⟩
section
variable {all : List Hdr} {R : RT} {l : List Hdr} {i : Nat} {X : List Hdr} {m : Nat}
theorem J3.len (h : J3 all R l i X m) : X.length = m + 1 := by obtain ⟨_, _, _, _, _, h⟩ := h.ex; exact h
theorem J3.lt (h : J3 all R l i X m) (hl : l.length ≤ 6000000) : m < 6000000 := by
  obtain ⟨l', O, h1, h2, h3, h4⟩ := h.ex
  have := List.length_pos_iff.2 h1.ne
  rw [h3, List.length_reverse, List.length_cons] at h4
  rw [h2, List.length_append] at hl
  omega
theorem J3.fin (h : J3 all R l 0 X m) : X = l.reverse := by
  obtain ⟨l', O, h1, h2, h3, h4⟩ := h.ex
  cases h1 with
  | z => rw [h3, h2]; rfl
  | s h0 _ _ => exact absurd rfl h0
theorem J3.step (h : J3 all R l i X m) (hM : Ch.Mk (sgH fS) all fun i => R.lookup i) (hi : i ≠ 0) : ∃ p, R.lookup i = some p ∧ J3 all R l p (X ++ [all.getD p default]) (m + 1) ∧ nums all p < nums all i := by
  obtain ⟨l', O, h1, h2, h3, h4⟩ := h.ex
  cases h1 with
  | z => exact absurd rfl hi
  | @s _ p l2 h0 hp h1 =>
    refine ⟨p, hp, ⟨⟨l2, all.getD i default :: O, h1, by rw [h2, List.append_assoc]; rfl, by rw [h3]; simp, by rw [List.length_append, h4]; rfl⟩⟩, ?_⟩
    have := (hM.beh i p hi hp).2.1.num
    show (all.getD p default).number < (all.getD i default).number
    have h5 : (all.getD i default).number = (all.getD p default).number + 1 := this
    omega
end
theorem count_lt {p q : Nat → Bool} {x : Nat} : ∀ {l : List Nat}, (∀ a ∈ l, p a = true → q a = true) → x ∈ l → q x = true → p x = false → l.countP p + 1 ≤ l.countP q
  | a :: l, h, hx, hq, hp => by
    rw [List.countP_cons, List.countP_cons]
    by_cases e : x = a
    · subst e
      have := List.countP_mono_left (p := p) (q := q) (l := l) fun a ha => h a (List.mem_cons_of_mem _ ha)
      rw [hp, hq]
      simp only [Bool.false_eq_true, if_false, if_true]
      omega
    · have hx2 : x ∈ l := (List.mem_cons.1 hx).resolve_left e
      have ih := count_lt (l := l) (fun a ha => h a (List.mem_cons_of_mem _ ha)) hx2 hq hp
      by_cases ha : p a = true
      · rw [if_pos ha, if_pos (h a List.mem_cons_self ha)]
        omega
      · rw [if_neg ha]
        omega
theorem pth_len {f : Hdr → List UInt8} {all : List Hdr} {M : Nat → Option Nat} (hM : Ch.Mk (sgH f) all M) {i : Nat} {l : List Hdr} (h : Ch.Pth all M i l) : l.length ≤ all.length := by
  have key : l.length ≤ (List.range all.length).countP fun j => decide (nums all j ≤ nums all i) := by
    induction h with
    | z =>
      have := count_lt (l := List.range all.length) (p := fun _ => false) (q := fun j => decide (nums all j ≤ nums all 0)) (x := 0) (fun a _ h => by cases h) (List.mem_range.2 (hM.lt 0 hM.zero)) (decide_eq_true (Nat.le_refl _)) rfl
      rw [List.length_singleton]
      omega
    | @s i p l h0 hp _ ih =>
      have hf := (hM.beh i p h0 hp).2.1.num
      have hf : nums all i = nums all p + 1 := hf
      have := count_lt (l := List.range all.length) (p := fun j => decide (nums all j ≤ nums all p)) (q := fun j => decide (nums all j ≤ nums all i)) (x := i) (fun a _ h => decide_eq_true (by have := of_decide_eq_true h; omega)) (List.mem_range.2 (hM.lt i (by rw [hp]; rfl))) (decide_eq_true (Nat.le_refl _)) (decide_eq_false (by omega))
      rw [List.length_append, List.length_singleton]
      omega
  have h2 := List.countP_le_length (p := fun j => decide (nums all j ≤ nums all i)) (l := List.range all.length)
  rw [List.length_range] at h2
  omega
set_option maxHeartbeats 8000000 in
theorem Line_ (first : Hdr) (headers : List Hdr) (h : ∀ x ∈ first :: headers, x.ok) (hl : headers.length < 5000000) : ∃ l, LineOf fS (first :: headers) l ∧ (∀ x ∈ l, x.ok) ∧ LF Try.prog 13 [hdV first, hdsV headers] (fun _ => .s none (l.map hdV)) none := by
  have hrf := hdrC_refs
  have k1 := h first List.mem_cons_self
  have hx1 := hdrC_len k1
  have hbr := hdV_bare
  have hzs : ∀ e ∈ headers.map hdV, e.cells.length = 204 := fun e he => by
    obtain ⟨x, hx, rfl⟩ := List.mem_map.1 he
    exact hdrC_len (h x (List.mem_cons_of_mem _ hx))
  obtain ⟨hM, hO, hR⟩ := marks_are fS_len h (show 0 < (first :: headers).length by simp)
  have cM := marks_k (first :: headers) h (by simp) (by rw [List.length_cons]; omega)
  obtain ⟨b0, hB0⟩ := Bt_ex hM _ (Nat.le_refl _)
  obtain ⟨l, hlp⟩ := hM.pth _ b0 (Nat.le_refl _) hB0.is
  have hB0 := hB0.best hM rfl
  refine ⟨l, ⟨⟨_, b0, hM, hB0, hlp⟩⟩, fun x hx => h x (pth_mem hM hlp x hx), ?_⟩
  refine LFx.mk' tt Try.func13 rfl rfl rfl (by kernel_rfl) rfl rfl fun F => ?_
  refine wk ?_ trueW trueW
  refine LC.loop5 (fun t E (_u2 : Unit) (_u3 : Unit) (_u4 : Unit) => [(5, .s (some 17) ((first :: headers).map hdV)), (6, .w 22 0 32 0 ((first :: headers).map hdV).length), (23, .s (some 17) ((first :: headers).map hdV)), (24, .k (.int .i64 ((((first :: headers).map hdV).length : Nat) : Int))), (25, .k (.int .i64 ((t : Nat) : Int)))]) (fun t E (_u2 : Unit) (_u3 : Unit) (_u4 : Unit) => [(22, .w 23 32 0 E), (17, .r 28 204 ((first :: headers).map hdV).length)]) (fun t E (_u2 : Unit) (_u3 : Unit) (_u4 : Unit) => t ≤ ((first :: headers).map hdV).length ∧ ∃ S : List (List UInt8), E = S.map haV ∧ S.length = ((first :: headers).map hdV).length ∧ ∀ j, j < t → S.getD j default = fS ((first :: headers).getD j default)) ((((first :: headers).map hdV).length - ·)) (0) (List.map V.a (List.replicate ((first :: headers).map hdV).length (List.map bK (List.replicate 32 0)))) () () () ⟨Nat.zero_le _, List.replicate ((first :: headers).map hdV).length (List.replicate 32 0), by rw [List.map_replicate (f := V.a), List.map_replicate (f := haV)], List.length_replicate, fun j hj => absurd hj (Nat.not_lt_zero _)⟩ ⟨rfl, rfl, rfl, rfl, rfl, trivial⟩ ⟨rfl, rfl, trivial⟩ rfl rfW rfW ?_
  clear hx1 hzs k1
  have h0 : 0 < (first :: headers).length := by simp
  have hal : (first :: headers).length < 6000000 := by rw [List.length_cons]; omega
  clear hl
  generalize first :: headers = all at *
  rintro t E _ _ _ ⟨ht, S, rfl, hSl, hS⟩
  have hml : (all.map hdV).length = all.length := List.length_map _
  have hsl : (S.map haV).length = S.length := List.length_map _
  rcases Nat.lt_or_ge t all.length with h1 | h1
  · have k := getD_ok h h1
    have hx1 := hdrC_len k
    have c1 := Sr.HSumB (all.getD t default) k
    have hs1 := fS_len (all.getD t default)
    have hok : t + 1 ≤ (all.map hdV).length ∧ ∃ S' : List (List UInt8), (S.set t (fS (all.getD t default))).map haV = S'.map haV ∧ S'.length = (all.map hdV).length ∧ ∀ j, j < t + 1 → S'.getD j default = fS (all.getD j default) := ⟨by omega, S.set t (fS (all.getD t default)), rfl, by rw [List.length_set, hSl], fun j hj => by
      rw [getD_setS (by omega)]
      by_cases e : t = j
      · subst e; rw [if_pos rfl]
      · rw [if_neg e]; exact hS j (by omega)⟩
    have hbr := fun l : List UInt8 => bare_ha l
    have hmu : (all.map hdV).length - (t + 1) < (all.map hdV).length - t := by omega
    clear hS cM hM hO hR
    unfold fS at *
    exact wk trueW trueW trueW
  · have hSe : S = all.map fS := by
      refine List.ext_getElem (by rw [List.length_map]; omega) fun j hj hj2 => ?_
      have := hS j (by omega)
      rw [List.getD_eq_getElem?_getD, List.getD_eq_getElem?_getD, List.getElem?_eq_getElem hj, List.getElem?_eq_getElem (by omega)] at this
      rw [List.getElem_map]
      exact this
    refine LC.frztmp 6 22 rfl rfl (by rw [hsl, hSl]; omega) (es' := all.map (suV fS)) (by
      rw [List.drop_zero, hSe, List.map_map, List.take_of_length_le (by rw [List.length_map, hml]; exact Nat.le_refl _)]
      rfl) ?_
    have e1 : t = all.length := by omega
    clear hS hSe hsl hSl ht
    subst e1
    have c1 := cM
    have hM1 := mapTyM
    generalize mksR fS all = R at *
    refine wk ?_ trueW trueW
    refine LC.loop5 (fun t b (_u2 : Unit) (_u3 : Unit) (_u4 : Unit) => [(5, .s (some 17) (all.map hdV)), (6, .s none (all.map (suV fS))), (9, .mp 38), (10, .k (.int .i64 ((b : Nat) : Int))), (39, .s (some 17) (all.map hdV)), (40, .k (.int .i64 ((all.length : Nat) : Int))), (41, .k (.int .i64 ((t : Nat) : Int)))]) (fun t b (_u2 : Unit) (_u3 : Unit) (_u4 : Unit) => [(38, .m (rM R)), (17, .r 28 204 (all.map hdV).length)]) (fun t b (_u2 : Unit) (_u3 : Unit) (_u4 : Unit) => t ≤ all.length ∧ Bt fS all (fun i => R.lookup i) t b) ((all.length - ·)) (0) (0) () () () ⟨Nat.zero_le _, Bt.start hM⟩ ⟨rfl, rfl, rfl, rfl, rfl, rfl, rfl, trivial⟩ ⟨rfl, rfl, trivial⟩ rfl rfW rfW ?_
    rintro t b _ _ _ ⟨ht, hB⟩
    clear cM c1
    rcases Nat.lt_or_ge t all.length with h2 | h2
    · have hb := hB.lt
      have hks := keysR fun x hx => Nat.lt_trans (hR x hx).1 (by omega)
      have hkey := keyI t (by omega)
      have hmu : all.length - (t + 1) < all.length - t := by omega
      cases hL : R.lookup t with
      | none =>
        have hget := getR_none hO hL
        have hok : t + 1 ≤ all.length ∧ Bt fS all (fun i => R.lookup i) (t + 1) b := ⟨h2, hB.skip hL⟩
        have rep_e0 := @rep_m0
        clear hB hM hO hR hL
        exact wk trueW trueW trueW
      | some q =>
        have hget := getR_some hO hL
        have hs : ((fun i => R.lookup i) t).isSome = true := by show (R.lookup t).isSome = true; rw [hL]; rfl
        have k2 := getD_ok h h2
        have k3 := getD_ok h hb
        have ld1 : ∀ {ti : TI}, ti.d.agg = false → ti.part ((hdrC (all.getD t default)).drop 32) 0 = some (uK (all.getD t default).number) := num_q k2
        have ld2 : ∀ {ti : TI}, ti.d.agg = false → ti.part ((hdrC (all.getD b default)).drop 32) 0 = some (uK (all.getD b default).number) := num_q k3
        have hx2 := hdrC_len k2
        have hx3 := hdrC_len k3
        have rep_e0 := @rep_m0
        have hql := (hR _ (look_some hL)).2
        rcases Nat.lt_trichotomy (all.getD t default).number (all.getD b default).number with hc | hc | hc
        · have hok : t + 1 ≤ all.length ∧ Bt fS all (fun i => R.lookup i) (t + 1) b := ⟨h2, hB.less hc⟩
          clear hB hM hO hR hL
          exact wk trueW trueW trueW
        · have c1 := Cp.Compare (fS (all.getD t default)) (fS (all.getD b default))
          have hq1 := cut_ha (all.getD t default)
          have hq2 := cut_ha (all.getD b default)
          have hl1 := fS_len (all.getD t default)
          have hl2 := fS_len (all.getD b default)
          have hcl := Cp.cmp_less (fS (all.getD t default)) (fS (all.getD b default))
          by_cases hd : lt8 (fS (all.getD t default)) (fS (all.getD b default))
          · have hok : t + 1 ≤ all.length ∧ Bt fS all (fun i => R.lookup i) (t + 1) t := ⟨h2, hB.eqL hs h2 hc.symm hd⟩
            have hd2 : Op.bytesLess (fS (all.getD t default)) (fS (all.getD b default)) = true := hd
            rw [if_pos hd2] at hcl
            clear hd hd2
            have hcr : Lib.compareBytes (fS (all.getD t default)) (fS (all.getD b default)) < 0 := by rw [hcl]; decide
            clear hB hM hO hR hL hcl
            generalize Lib.compareBytes (fS (all.getD t default)) (fS (all.getD b default)) = r at *
            exact wk trueW trueW trueW
          · have hok : t + 1 ≤ all.length ∧ Bt fS all (fun i => R.lookup i) (t + 1) b := ⟨h2, hB.eqG hc.symm hd⟩
            have hd2 : ¬ Op.bytesLess (fS (all.getD t default)) (fS (all.getD b default)) = true := hd
            rw [if_neg hd2] at hcl
            clear hd hd2
            have hcr : ¬ Lib.compareBytes (fS (all.getD t default)) (fS (all.getD b default)) < 0 := by
              rw [hcl]
              split <;> decide
            clear hB hM hO hR hL hcl
            generalize Lib.compareBytes (fS (all.getD t default)) (fS (all.getD b default)) = r at *
            exact wk trueW trueW trueW
        · have hok : t + 1 ≤ all.length ∧ Bt fS all (fun i => R.lookup i) (t + 1) t := ⟨h2, hB.more hs h2 hc⟩
          clear hB hM hO hR hL
          exact wk trueW trueW trueW
    · have hbest := hB.best hM (by omega)
      obtain rfl : b0 = b := hB0.uniq (fun a b => Cp.less_asym) hbest
      have hb := hB.lt
      have kb := hdrC_len (getD_ok h hb)
      clear hB hbest hbr
      have hi0 : J3 all R l b0 [all.getD b0 default] 0 := .mk' l [] hlp (by rw [List.append_nil]) rfl rfl
      have hll : l.length ≤ 6000000 := Nat.le_trans (pth_len hM hlp) (by omega)
      refine wk ?_ trueW trueW
      refine DR.nn rfl rfl (Does.buildSliceW (ps := [(0, .tmp 93)]) (es := [hdV (all.getD b0 default)]) tt rfl rfl rfl rfl rfl rfl (dense1 (hdV_bare _)) rfl rfl ?_ rfl) rfl rfl ?_
      · intro e he
        obtain rfl := List.mem_singleton.1 he
        exact kb
      have hbr := hdV_bare
      refine wk ?_ trueW trueW
      refine LC.loop5 (fun i X m (_u3 : Unit) (_u4 : Unit) => [(5, .s (some 17) (all.map hdV)), (9, .mp 38), (14, .w 94 m 204 0 (m + 1)), (15, .k (.int .i64 ((i : Nat) : Int)))]) (fun i X m (_u3 : Unit) (_u4 : Unit) => [(38, .m (rM R)), (94, .w 28 204 m (X.map hdV)), (17, .r 28 204 (all.map hdV).length)]) (fun i X m (_u3 : Unit) (_u4 : Unit) => J3 all R l i X m) ((nums all ·)) (b0) ([all.getD b0 default]) (0) () () (hi0) ⟨rfl, rfl, rfl, rfl, trivial⟩ ⟨rfl, rfl, rfl, trivial⟩ rfl rfW rfW ?_
      clear hi0 kb
      rintro i X m _ _ hJ
      have hXl := hJ.len
      have hmx := hJ.lt hll
      have hXm : (X.map hdV).length = X.length := List.length_map _
      by_cases hi : i = 0
      · subst hi
        have hX : X = l.reverse := hJ.fin
        have hXk : ∀ x ∈ X, x.ok := fun x hx => by
          rw [hX, List.mem_reverse] at hx
          exact h x (pth_mem hM hlp x hx)
        have r4 := Reverse_ X m hXk (by omega) 94
        rw [hXl] at r4
        have hrl : X.reverse = l := by rw [hX, List.reverse_reverse]
        rw [hrl] at r4
        have hll2 : (l.map hdV).length = m + 1 := by rw [List.length_map, ← hrl, List.length_reverse, hXl]
        clear hJ hX hXk hM hO hR hlp hB0 hrl
        refine wk ?_ trueW trueW
        refine DR.cm rfl rfl (Does.callM r4 (by with_reducible exact rfl) rfl (.same _) rfl) ⟨rfl, trivial⟩ rfl ?_
        refine .nl rfl ?_
        show LC _ _ _ _ _ _ _
        refine LC.frztmp 14 94 rfl rfl (by rw [hll2]; omega) (es' := l.map hdV) (by rw [List.drop_zero]; exact List.take_of_length_le (by rw [hll2]; exact Nat.le_refl _)) ?_
        exact wk trueW trueW trueW
      · obtain ⟨p, hp, hJ2, hnu⟩ := hJ.step hM hi
        have hpl := (hR _ (look_some hp)).2
        have hil := (hR _ (look_some hp)).1
        have hpl2 : p < all.length := hpl
        have hks := keysR fun x hx => Nat.lt_trans (hR x hx).1 (by omega)
        have hkey := keyI i (by have : i < all.length := hil; omega)
        have hget := getR1 hO hp
        have rep_e0 := @rep_m0
        have hx2 := hdrC_len (getD_ok h hpl2)
        have hok : J3 all R l p (X ++ [all.getD p default]) (m + 1) := hJ2
        clear hJ hJ2 hM hO hR hlp hB0 hp
        exact wk trueW trueW trueW
end Cm
end Lf
set_option maxRecDepth 100000
namespace Ch
section
variable {H : Type} [Inhabited H] [DecidableEq H]
def sh : List H → List H → Nat
  | x :: a, y :: b => if x = y then sh a b + 1 else 0
  | _, _ => 0
omit [Inhabited H] in
theorem sh_le : ∀ a b : List H, sh a b ≤ a.length ∧ sh a b ≤ b.length
  | [], b => by simp [sh]
  | _ :: _, [] => by simp [sh]
  | x :: a, y :: b => by
    have := sh_le a b
    unfold sh
    split
    · simp only [List.length_cons]; omega
    · simp
omit [Inhabited H] in
theorem sh_take : ∀ a b : List H, a.take (sh a b) = b.take (sh a b)
  | [], b => by simp [sh]
  | _ :: _, [] => by simp [sh]
  | x :: a, y :: b => by
    unfold sh
    split
    · rename_i e
      rw [List.take_succ_cons, List.take_succ_cons, sh_take a b, e]
    · simp
theorem sh_at : ∀ (a b : List H) (i : Nat), i < sh a b → a.getD i default = b.getD i default
  | [], b, i, h => by simp [sh] at h
  | _ :: _, [], i, h => by simp [sh] at h
  | x :: a, y :: b, i, h => by
    unfold sh at h
    split at h
    · rename_i e
      cases i with
      | zero => rw [List.getD_cons_zero, List.getD_cons_zero, e]
      | succ i =>
        rw [List.getD_cons_succ, List.getD_cons_succ]
        exact sh_at a b i (by omega)
    · omega
theorem sh_ne : ∀ (a b : List H), sh a b < a.length → sh a b < b.length → a.getD (sh a b) default ≠ b.getD (sh a b) default
  | [], b, h, _ => by simp at h
  | _ :: _, [], _, h => by simp at h
  | x :: a, y :: b, h1, h2 => by
    unfold sh at h1 h2 ⊢
    split
    · rename_i e
      rw [if_pos e, List.length_cons] at h1 h2
      rw [List.getD_cons_succ, List.getD_cons_succ]
      exact sh_ne a b (by omega) (by omega)
    · rename_i e
      rw [List.getD_cons_zero, List.getD_cons_zero]
      exact e
omit [Inhabited H] in
theorem turned (a b : List H) : a.take (sh a b) ++ b.drop (sh a b) = b := by rw [sh_take, List.take_append_drop]
end
end Ch
end Go.Proofs.Ytgjoecocahpfhaa

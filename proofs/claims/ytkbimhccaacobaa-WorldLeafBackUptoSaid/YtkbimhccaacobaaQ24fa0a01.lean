/- A part of the proof: texts joined. -/
import Derived.Test.YtkbimhccaacobaaQ23378cf8
namespace Go.Proofs.Ytkbimhccaacobaa
open Go.RowKit Rg Wm Ar
set_option linter.unusedVariables false
set_option maxRecDepth 100000
namespace Lf
open Tr Ro Pk
def wayA (n : Nd) (q : Pa) : List (List UInt8) := way sumB (q.length + 1) n q
theorem way_fuel : ∀ (f g : Nat) (n : Nd) (q : Pa) (d : Nat), Right n d → q.length < f → q.length < g → way sumB f n q = way sumB g n q := by
 intro f
 induction f with
 | zero => intro g n q d _ h; omega
 | succ f ih =>
  intro g n q d hr hf hg
  obtain ⟨g, rfl⟩ : ∃ k, g = k + 1 := ⟨g - 1, by omega⟩
  unfold way
  cases hn : nxN n q with
  | none => rfl
  | some x =>
   obtain ⟨k, r⟩ := x
   obtain ⟨d', _, h2, _, h4, _⟩ := nxN_right sumB hr hn
   simp only []
   rw [ih g k r d' h2 (by omega) (by omega)]
theorem wayA_some {n k : Nd} {q r : Pa} {d : Nat} (hr : Right n d) (h : nxN n q = some (k, r)) : wayA n q = hcB n :: wayA k r := by
 obtain ⟨d', _, h2, _, h4, _⟩ := nxN_right sumB hr h
 unfold wayA
 rw [way, h]
 simp only []
 rw [way_fuel q.length (r.length + 1) k r d' h2 h4 (by omega)]
theorem wayA_none {n : Nd} {q : Pa} (h : nxN n q = none) : wayA n q = [hcB n] := by
 unfold wayA
 rw [way, h]
theorem wayA_head (n : Nd) (q : Pa) : wayA n q = hcB n :: (wayA n q).tail := by
 unfold wayA
 rw [way]
 rfl
structure MkAt (L W : List (List UInt8)) (b A : Nat) (X : Rn) (P : List UInt8) (O : List (List UInt8)) : Prop where
 right : ∃ d, rt X d = true
 size : X.size ≤ b
 at_ : ∃ pre post, L = pre ++ (cdB (toN X) ++ post) ∧ pre.length = A
 path : ∃ Q : Pa, P = pB Q ∧ Q.length ≤ 64 ∧ O ++ (wayA (toN X) Q).tail = W
theorem MkAt.le {L W : List (List UInt8)} {b A : Nat} {X : Rn} {P : List UInt8} {O : List (List UInt8)} (h : MkAt L W b A X P O) : A < L.length ∧ O.length ≤ W.length ∧ P.length ≤ 64 := by
 obtain ⟨pre, post, rfl, rfl⟩ := h.at_
 obtain ⟨Q, rfl, h2, rfl⟩ := h.path
 have := (Rw.cdB_zero (toN X)).1
 rw [pB_len]
 simp only [List.length_append]
 omega
theorem MkAt.fin {W : List (List UInt8)} {X : Rn} {Q : Pa} {O : List (List UInt8)} (h : O ++ (wayA (toN X) Q).tail = W) (hn : nxN (toN X) Q = none) : O = W := by
 rw [wayA_none hn] at h
 simpa using h
theorem MkAt.next {L W : List (List UInt8)} {b A : Nat} {X Y : Rn} {Q r : Pa} {O : List (List UInt8)} {k : Nat} {d e : Nat} (hX : rt X d = true) (hY : rt Y e = true) (hsz : Y.size ≤ b) (hw : O ++ (wayA (toN X) Q).tail = W) (hQ : Q.length ≤ 64) (hr : r.length ≤ Q.length) (hn : nxN (toN X) Q = some (toN Y, r)) {pre post : List (List UInt8)} (hL : L = pre ++ (cdB (toN X) ++ post)) (hA : pre.length = A) {mid rst : List (List UInt8)} (hc : cdB (toN X) = hcB (toN X) :: (mid ++ (cdB (toN Y) ++ rst))) (hk : mid.length = k) :
  MkAt L W b (A + k + 1) Y (pB r) (O ++ [L.getD (A + k + 1) default]) ∧ A + k + 1 < L.length := by
 have hL2 : L = (pre ++ hcB (toN X) :: mid) ++ (cdB (toN Y) ++ (rst ++ post)) := by
  rw [hL, hc]
  simp only [List.cons_append, List.append_assoc]
 have hpl : (pre ++ hcB (toN X) :: mid).length = A + k + 1 := by
  rw [List.length_append, List.length_cons, hA, hk]; omega
 obtain ⟨z1, z2⟩ := Rw.cdB_zero (toN Y)
 have hg : L.getD (A + k + 1) default = hcB (toN Y) := by
  rw [← z2, hL2, List.getD_eq_getElem?_getD, List.getElem?_append_right (by omega), hpl, Nat.sub_self, List.getElem?_append_left (by omega), ← List.getD_eq_getElem?_getD]
 refine ⟨⟨⟨e, hY⟩, hsz, ⟨_, _, hL2, hpl⟩, ⟨r, rfl, by omega, ?_⟩⟩, ?_⟩
 ·rw [← hw, wayA_some (rt_right _ _ d (Nat.le_refl _) hX) hn, hg, List.tail_cons, List.append_assoc, List.singleton_append, ← wayA_head]
 ·rw [hL2, List.length_append, hpl, List.length_append]; omega
theorem kidC_kid {y : Rn} (h : y.kind ≠ 0) : kidC 2 y = cdB (toN y) := if_neg fun hh => hh.elim (fun e => by cases e) h
namespace Rw
set_option maxHeartbeats 8000000 in
theorem Make_ok (x : Rn) (key : List UInt8) (hx : x.size < 20000000) (hr : rt x 0 = true) (hk : key.length ≤ 32) : LF Try.prog 29 [rnV x, bV key] (fun _ => .t [txV (wayA (toN x) (keyP key)), .k (.int .i64 0)]) none := by
  have c1 := Codes_ok x hx hr
  have c2 := Te.Halves_ key (by omega)
  have hkl := keyP_len key
  have hk4 := rnC_len x
  have hrf := rnC_refs
  have hcs := cdB_size hr
  obtain ⟨h0, h1⟩ := cdB_zero (toN x)
  obtain ⟨W, hW⟩ : ∃ W, W = wayA (toN x) (keyP key) := ⟨_, rfl⟩
  have hWl : W.length ≤ 65 := by rw [hW]; exact Nat.le_trans (way_len sumB _ _ _) (by omega)
  have hst : MkAt (cdB (toN x)) W x.size 0 x (pB (keyP key)) [(cdB (toN x)).getD 0 default] := ⟨⟨0, hr⟩, Nat.le_refl _, ⟨[], [], by simp, rfl⟩, ⟨keyP key, rfl, by omega, by rw [h1, hW]; exact (wayA_head _ _).symm⟩⟩
  rw [← hW]
  clear hW h1
  generalize cdB (toN x) = L at *
  generalize pB (keyP key) = P0 at *
  refine LFx.mk' tt Try.func29 rfl rfl rfl (by kernel_rfl) rfl rfl fun F => ?_
  refine wk ?_ trueW trueW
  refine LC.loop5 (fun A X P O (_u4 : Unit) => [(2, .p 2 0), (6, .s none (L.map bV)), (8, .s (some 30) (O.map bV)), (9, .k (.int .i64 ((A : Nat) : Int))), (10, bV P)]) (fun A X P O (_u4 : Unit) => [(2, .b (rnC X)), (30, .r 22 1 O.length)]) (fun A X P O (_u4 : Unit) => MkAt L W x.size A X P O) ((L.length - ·)) (0) (x) (P0) ([L.getD 0 default]) () (hst) ⟨rfl, rfl, rfl, rfl, rfl, trivial⟩ ⟨rfl, rfl, trivial⟩ rfl rfW rfW ?_
  rintro A X P O _ hM
  clear hst c1 c2
  obtain ⟨m1, m2, m3⟩ := hM.le
  obtain ⟨⟨d, hrt⟩, hsz, ⟨pre, post, hL, hA⟩, ⟨Q, rfl, hQ, hw⟩⟩ := hM
  have hk5 := rnC_len X
  have hR := rt_right _ _ d (Nat.le_refl _) hrt
  have nx0 : X.kind ≠ 2 → X.kind ≠ 3 → nxN (toN X) Q = none := fun h2 h3 => by
    obtain ⟨k, p, v, ks⟩ := X
    rw [toN_eq]
    by_cases h1 : k = 1
    · rw [if_pos h1]; rfl
    · rw [if_neg h1, if_neg (show ¬ k = 2 from h2), if_neg (show ¬ k = 3 from h3)]; rfl
  have hX := X
  obtain ⟨k, p, v, ks⟩ := X
  have hrt0 := hrt
  rw [rt_eq] at hrt
  rw [size_eq] at hsz
  have hkl2 := Tr.sizeL_len ks
  have hPl := pB_len Q
  by_cases h2 : k = 2
  · subst h2
    simp only [Int.reduceEq, if_true, if_false, Bool.and_eq_true, decide_eq_true_eq] at hrt
    obtain ⟨⟨⟨⟨a1, a2⟩, a3⟩, a4⟩, a5⟩ := hrt
    have hrk := rtL_get.1 a5 0 (by omega)
    have hpp := pB_of a2
    have hpl := pOf_len p
    have hpd := path_deep (p := pOf p) (k := toN (ks.getD 0 default)) (d := d) (by rw [toN_eq] at hR; exact hR)
    have c1 := Te.Common_ (pOf p) Q (by omega) (by omega)
    rw [hpp] at c1
    obtain ⟨k1, k2⟩ := common_le (pOf p) Q
    have htn : toN (.mk 2 p v ks) = .road (pOf p) (toN (ks.getD 0 default)) := by rw [toN_eq]; rfl
    have hk6 := rnC_len (ks.getD 0 default)
    have ld1 := @rn_kind
    by_cases hc : Tr.common (pOf p) Q = (pOf p).length
    · have hrest := common_rest hc
      rw [hc, hpl] at c1
      have hle : p.length ≤ (pB Q).length := by omega
      have hd : pB (Q.drop (pOf p).length) = (pB Q).drop p.length := by rw [hpl]; unfold pB; rw [List.map_drop]
      have hne : (ks.getD 0 default).kind ≠ 0 := by rw [a4]; decide
      obtain ⟨n1, n2⟩ := MkAt.next (b := x.size) (Y := ks.getD 0 default) (r := Q.drop (pOf p).length) hrt0 hrk (by have := sizeL_get (ks := ks) (i := 0) (by omega); omega) hw hQ (by rw [List.length_drop]; omega) (by rw [htn, nxN_road, hrest]; rfl) hL hA (mid := []) (rst := []) (k := 0) (by
        rw [htn]
        unfold cdB
        rw [cds_road, List.nil_append, List.append_nil]) rfl
      rw [hd, Nat.add_zero] at n1
      rw [Nat.add_zero] at n2
      clear nx0 hL hA hw hrt0 hR hrest hc hd htn a5 hpp hrk
      generalize pB Q = P at *
      simp only [rnC_eq]
      exact wk trueW trueW trueW
    · have hn : nxN (toN (.mk 2 p v ks)) Q = none := by
        rw [htn, nxN_road]
        cases hr : rest (pOf p) Q with
        | none => rfl
        | some r => exact absurd (rest_common hr) hc
      have hOW := MkAt.fin hw hn
      subst hOW
      have hne : Tr.common (pOf p) Q ≠ p.length := fun e => hc (by omega)
      clear nx0 hL hA hw hrt0 hR hc hn htn a5 hpp hrk
      generalize Tr.common (pOf p) Q = C at *
      generalize pB Q = P at *
      simp only [rnC_eq]
      exact wk trueW trueW trueW
  by_cases h3 : k = 3
  · subst h3
    simp only [Int.reduceEq, if_true, if_false, Bool.and_eq_true, decide_eq_true_eq] at hrt
    obtain ⟨⟨⟨⟨a1, a2⟩, a3⟩, a4⟩, a5⟩ := hrt
    have hrk := rtL_get.1 a4
    cases Q with
    | nil =>
      have hn : nxN (toN (.mk 3 p v ks)) [] = none := by rw [toN_eq]; rfl
      have hOW := MkAt.fin hw hn
      subst hOW
      have hz : (pB []).length = 0 := rfl
      clear nx0 hL hA hw hrt0 hR hn a5 hrk
      generalize pB [] = P at *
      simp only [rnC_eq]
      exact wk trueW trueW trueW
    | cons x0 r =>
      have hx0 := x0.isLt
      have hg0 : ((pB (x0 :: r)).getD 0 default).toNat = x0.val := half_byte x0
      have hd : (pB (x0 :: r)).drop 1 = pB r := rfl
      have hl1 : 1 ≤ (pB (x0 :: r)).length := by rw [pB_len]; simp
      have hsc : ∀ i, i < ks.length → SizeC (ks.getD i default) := fun i hi => size_ (ks.getD i default).size _ _ (Nat.le_refl _) (by have := sizeL_get hi; omega) (hrk i hi)
      have htn : toN (.mk 3 p v ks) = .fork (fun i => toN (ks.getD i.val default)) v := by rw [toN_eq]; rfl
      have hcd : cdB (toN (.mk 3 p v ks)) = hcB (toN (.mk 3 p v ks)) :: ks.flatMap (kidC 3) := (codes_plain hrt0 fun e => by cases e).2
      have e2 : ks.flatMap (kidC 3) = ks.flatMap (kidC 2) := by
        rw [List.flatMap_def, List.flatMap_def]
        congr 1
        exact List.map_congr_left fun y _ => kidC_two (by decide) y
      rw [e2] at hcd
      have hbnd : (ks.flatMap (kidC 2)).length < 20000000 := by
        have h9 := congrArg List.length hL
        rw [hcd] at h9
        simp only [List.length_append, List.length_cons] at h9
        omega
      have split_ : ks.flatMap (kidC 2) = (ks.take x0.val).flatMap (kidC 2) ++ (kidC 2 (ks.getD x0.val default) ++ (ks.drop (x0.val + 1)).flatMap (kidC 2)) := by
        conv => lhs; rw [← List.take_append_drop (x0.val + 1) ks]
        rw [List.flatMap_append, flatM_take (by omega), List.append_assoc]
      have fin : ((ks.getD x0.val default).kind = 0 → O = W) ∧ ((ks.getD x0.val default).kind ≠ 0 → MkAt L W x.size (A + ((ks.take x0.val).flatMap (kidC 2)).length + 1) (ks.getD x0.val default) (pB r) (O ++ [L.getD (A + ((ks.take x0.val).flatMap (kidC 2)).length + 1) default]) ∧ A + ((ks.take x0.val).flatMap (kidC 2)).length + 1 < L.length) := by
        refine ⟨fun hk0 => MkAt.fin hw ?_, fun hk0 => MkAt.next (b := x.size) (Y := ks.getD x0.val default) (r := r) hrt0 (hrk _ (by omega)) (by have := sizeL_get (ks := ks) (i := x0.val) (by omega); omega) hw hQ (by simp) ?_ hL hA (mid := (ks.take x0.val).flatMap (kidC 2)) (rst := (ks.drop (x0.val + 1)).flatMap (kidC 2)) ?_ rfl⟩
        · rw [htn, nxN_fork, if_pos]
          rw [toN_zero hk0]; rfl
        · rw [htn, nxN_fork, if_neg]
          intro e
          exact hk0 ((toN_no (hrk x0.val (by omega))).1 (isNo_eq.1 e))
        · rw [hcd, split_, kidC_kid hk0]
      have hk6 := rnC_len (ks.getD x0.val default)
      have ld1 := @rn_kind
      have hlk : x0.val < ks.length := by omega
      have z1 : ∀ e ∈ ks.map rnV, e.cells.length = 4 := fun e he => by obtain ⟨x, _, rfl⟩ := List.mem_map.1 he; exact rnC_len x
      clear nx0 hL hA hw hrt0 hR htn a5 hrk hcd e2 split_
      rw [← hd] at fin
      clear hd
      generalize pB (x0 :: r) = P at *
      generalize hxv : x0.val = xv at *
      clear hxv
      simp only [rnC_eq]
      refine wk ?_ trueW trueW
      refine LC.loop2 (fun i S => [(2, .p 2 0), (6, .s none (L.map bV)), (8, .s (some 30) (O.map bV)), (9, .k (.int .i64 ((S : Nat) : Int))), (10, bV P), (11, .p 11 0), (70, .s none ((ks.take (P.getD 0 default).toNat).map rnV)), (71, .k (.int .i64 (((ks.take (P.getD 0 default).toNat).length : Nat) : Int))), (72, .k (.int .i64 ((i : Nat) : Int)))]) (fun i S => [(2, .b [.k (.int .i64 3), bV p, bV v, .s none (ks.map rnV)]), (11, .b [.k (.int .i64 0), .nil, .nil, .nil]), (30, .r 22 1 O.length)]) (fun i S => i ≤ xv ∧ S = A + ((ks.take i).flatMap (kidC 2)).length) ((xv - ·)) (0) (A) ⟨by omega, by rw [List.take_zero]; rfl⟩ ⟨rfl, rfl, rfl, rfl, rfl, rfl, rfl, rfl, rfl, trivial⟩ ⟨rfl, rfl, rfl, trivial⟩ rfl rfW rfW ?_
      rintro i S ⟨hi, hS⟩
      rw [hg0]
      have htl : (ks.take xv).length = xv := by rw [List.length_take]; omega
      have hKl : ((ks.take i).flatMap (kidC 2)).length ≤ (ks.flatMap (kidC 2)).length := flat_len_le i
      rcases Nat.lt_or_ge i xv with h | h
      · have c1 := hsc i (by omega)
        unfold SizeC at c1
        have hgt : (ks.take xv).getD i default = ks.getD i default := take_getD h
        rw [← hgt] at c1
        have hk7 := rnC_len ((ks.take xv).getD i default)
        have hft : ((ks.take (i + 1)).flatMap (kidC 2)).length = ((ks.take i).flatMap (kidC 2)).length + (kidC 2 ((ks.take xv).getD i default)).length := by rw [hgt, flatM_take (show i < ks.length by omega), List.length_append]
        have hKl2 : ((ks.take (i + 1)).flatMap (kidC 2)).length ≤ (ks.flatMap (kidC 2)).length := flat_len_le (i + 1)
        have hok : i + 1 ≤ xv ∧ S + (kidC 2 ((ks.take xv).getD i default)).length = A + ((ks.take (i + 1)).flatMap (kidC 2)).length := ⟨h, by omega⟩
        clear hsc fin hgt
        generalize (kidC 2 ((ks.take xv).getD i default)).length = M at *
        generalize ks.take xv = KT at *
        exact wk trueW trueW trueW
      · obtain rfl : i = xv := by omega
        rw [← hS] at fin
        obtain ⟨f1, f2⟩ := fin
        clear hsc
        by_cases hk0 : (ks.getD i default).kind = 0
        · have hOW := f1 hk0
          subst hOW
          have hk0' : (ks.getD (P.getD 0 default).toNat default).kind = 0 := by rw [hg0]; exact hk0
          have hk6' : (rnC (ks.getD (P.getD 0 default).toNat default)).length = 4 := by rw [hg0]; exact hk6
          clear f1 f2
          exact wk trueW trueW trueW
        · obtain ⟨n1, n2⟩ := f2 hk0
          have hk0' : (ks.getD (P.getD 0 default).toNat default).kind ≠ 0 := by rw [hg0]; exact hk0
          have hk6' : (rnC (ks.getD (P.getD 0 default).toNat default)).length = 4 := by rw [hg0]; exact hk6
          have n1' : MkAt L W x.size (S + 1) (ks.getD (P.getD 0 default).toNat default) (P.drop 1) (O ++ [L.getD (S + 1) default]) := by rw [hg0]; exact n1
          clear f1 f2 n1
          exact wk trueW trueW trueW
  · have hOW := MkAt.fin hw (nx0 h2 h3)
    subst hOW
    clear nx0 hL hA hw hrt0 hR hrt
    generalize pB Q = P at *
    simp only [rnC_eq]
    have ld1 := @rn_kind
    exact wk trueW trueW trueW
end Rw
end Lf
end Go.Proofs.Ytkbimhccaacobaa

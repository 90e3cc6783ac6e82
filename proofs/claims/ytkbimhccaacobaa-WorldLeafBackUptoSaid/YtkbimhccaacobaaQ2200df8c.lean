/- A part of the proof: texts joined. -/
import Derived.Test.YtkbimhccaacobaaQ21671a9d
namespace Go.Proofs.Ytkbimhccaacobaa
open Go.RowKit Rg Wm Ar
set_option linter.unusedVariables false
set_option maxRecDepth 100000
namespace Lf
open Tr Ro Pk
theorem LC.slotweak {P : Program} {F : Fr0} {N : Nat} {Q : LQ} {env : Env} {mem : Mem} {c : Code} {v v' : V} (t : Nat) (ht : aget env t = some v) (hw : ∀ (w : World) (g : Gh) (x : Value), Rep w g v x → Rep w g v' x) (h : LC P F N c Q ((t, v') :: env) mem) : LC P F N c Q env mem := ⟨fun F0 hx g a w hr => by
 refine h.go F0 hx _ a w ⟨fun t' u hv => ?_, hr.mem, hr.kept, hr.defers, hr.size, hr.big⟩
 rw [aget_cons] at hv
 split at hv
 ·rename_i e; subst e; cases hv
  obtain ⟨x, h1, h4⟩ := hr.env _ _ ht
  exact ⟨x, h1, hw _ _ _ h4⟩
 ·exact hr.env t' u hv⟩
theorem nxS_fork (p v : List UInt8) (ks : List (List UInt8)) (x : UInt8) (r : List UInt8) : nxS ⟨3, p, v, ks⟩ (x :: r) = (ks.getD x.toNat default, r, []) := rfl
theorem nxS_end (p v : List UInt8) (ks : List (List UInt8)) : nxS ⟨3, p, v, ks⟩ [] = ([], [], v) := rfl
theorem nxS_leaf (p v : List UInt8) (ks : List (List UInt8)) (q : List UInt8) : nxS ⟨1, p, v, ks⟩ q = if p = q then ([], [], v) else ([], [], []) := rfl
theorem nxS_road (p v : List UInt8) (ks : List (List UInt8)) (q : List UInt8) : nxS ⟨2, p, v, ks⟩ q = (match rest (pOf p) (pOf q) with | some r => (ks.getD 0 default, pB r, []) | none => ([], [], [])) := rfl
theorem nxS_none {s : Shp} (h : s.kind ≠ 1 ∧ s.kind ≠ 2 ∧ s.kind ≠ 3) (q : List UInt8) : nxS s q = ([], [], []) := by
 unfold nxS
 rw [if_neg h.1, if_neg h.2.1, if_neg h.2.2]
theorem nxS_path (s : Shp) (q : Pa) : ∃ r, (nxS s (pB q)).2.1 = pB r ∧ r.length ≤ q.length := by
 unfold nxS
 split
 ·split <;> exact ⟨[], rfl, Nat.zero_le _⟩
 ·split
  ·rw [pOf_B]
   cases hr : rest (pOf s.path) q with
   | none => exact ⟨[], rfl, Nat.zero_le _⟩
   | some r =>
    have := congrArg List.length (rest_some hr)
    rw [List.length_append] at this
    exact ⟨r, rfl, by omega⟩
  ·split
   ·cases q with
    | nil => exact ⟨[], rfl, Nat.zero_le _⟩
    | cons x r => exact ⟨r, rfl, by simp⟩
   ·exact ⟨[], rfl, Nat.zero_le _⟩
namespace Rw
set_option maxHeartbeats 4000000 in
theorem next_ (s : Shp) (q : Pa) (it : Itm) (hi : itmS s = some it) (hp : s.path.length < 100000000) (hq : q.length ≤ 1000) (hv : s.value.length < 100000000) : LF Try.prog 63 [shV s, bV (pB q)] (fun _ => .t [bV (nxS s (pB q)).1, bV (nxS s (pB q)).2.1, bV (nxS s (pB q)).2.2]) none := by
  have hql := pB_len q
  rcases itmS_list hi with ⟨k, _⟩ | ⟨l, _, ⟨k, _, c⟩ | ⟨k, _, c⟩ | ⟨k, _, c⟩⟩
  · rw [nxS_none ⟨by omega, by omega, by omega⟩]
    obtain ⟨k', p, v, ks⟩ := s
    obtain rfl : k' = 0 := k
    simp only [shV, shC_eq]
    clear hi
    refine LFx.mk' tt Try.func63 rfl rfl rfl (by kernel_rfl) rfl rfl fun F => ?_
    exact wk trueW trueW trueW
  · obtain ⟨k', p, v, ks⟩ := s
    obtain rfl : k' = 1 := k
    rw [nxS_leaf]
    simp only [shV, shC_eq]
    simp only at hp hv
    clear hi c
    by_cases h : p = pB q
    · rw [if_pos h]
      have hs : arithS .eql ⟨p.toArray⟩ ⟨(pB q).toArray⟩ = some (.bool true) := Lf.eqS (decide_eq_true h)
      clear h
      refine LFx.mk' tt Try.func63 rfl rfl rfl (by kernel_rfl) rfl rfl fun F => ?_
      exact wk trueW trueW trueW
    · rw [if_neg h]
      have hs : arithS .eql ⟨p.toArray⟩ ⟨(pB q).toArray⟩ = some (.bool false) := Lf.eqS (decide_eq_false h)
      clear h
      refine LFx.mk' tt Try.func63 rfl rfl rfl (by kernel_rfl) rfl rfl fun F => ?_
      exact wk trueW trueW trueW
  · obtain ⟨k', p, v, ks⟩ := s
    obtain rfl : k' = 2 := k
    simp only at hp hv c
    have hpp := pB_of c.1
    have hpl := pOf_len p
    have c1 := Te.Common_ (pOf p) q (by omega) (by omega)
    rw [hpp] at c1
    rw [nxS_road, pOf_B]
    have hkl := c.2.2.1
    obtain ⟨k1, k2⟩ := common_le (pOf p) q
    simp only [shV, shC_eq]
    by_cases h : Tr.common (pOf p) q = (pOf p).length
    · rw [common_rest h]
      rw [h, hpl] at c1
      have hle : p.length ≤ q.length := by omega
      have hd : pB (q.drop (pOf p).length) = (pB q).drop p.length := by rw [hpl]; unfold pB; rw [List.map_drop]
      simp only []
      rw [hd]
      clear hi c h hd
      refine LFx.mk' tt Try.func63 rfl rfl rfl (by kernel_rfl) rfl rfl fun F => ?_
      exact wk trueW trueW trueW
    · have hn : rest (pOf p) q = none := by
        cases hr : rest (pOf p) q with
        | none => rfl
        | some r => exact absurd (rest_common hr) h
      rw [hn]
      simp only []
      have hne : Tr.common (pOf p) q ≠ p.length := fun e => h (by omega)
      clear hi c h hn
      generalize Tr.common (pOf p) q = C at *
      refine LFx.mk' tt Try.func63 rfl rfl rfl (by kernel_rfl) rfl rfl fun F => ?_
      exact wk trueW trueW trueW
  · obtain ⟨k', p, v, ks⟩ := s
    obtain rfl : k' = 3 := k
    simp only at hp hv c
    have hkl := c.1
    simp only [shV, shC_eq]
    clear hi c
    cases q with
    | nil =>
      rw [show pB [] = [] from rfl, nxS_end]
      have h0 : ([] : List UInt8).length = 0 := rfl
      refine LFx.mk' tt Try.func63 rfl rfl rfl (by kernel_rfl) rfl rfl fun F => ?_
      exact wk trueW trueW trueW
    | cons x r =>
      have hx := x.isLt
      have hg : ((pB (x :: r)).getD 0 default).toNat = x.val := half_byte x
      have e1 : nxS ⟨3, p, v, ks⟩ (pB (x :: r)) = (ks.getD ((pB (x :: r)).getD 0 default).toNat default, (pB (x :: r)).drop 1, []) := by rw [hg]; show nxS ⟨3, p, v, ks⟩ (UInt8.ofNat x.val :: pB r) = _; rw [nxS_fork, half_byte]; rfl
      rw [e1]
      simp only []
      have hl1 : 1 ≤ (pB (x :: r)).length := by rw [pB_len]; simp
      clear e1
      generalize pB (x :: r) = P at *
      refine LFx.mk' tt Try.func63 rfl rfl rfl (by kernel_rfl) rfl rfl fun F => ?_
      exact wk trueW trueW trueW
def SizeC (y : Rn) : Prop := LF Try.prog 62 [rnV y] (fun _ => .k (.int .i64 (((kidC 2 y).length : Nat) : Int))) none
theorem kidC_two {k : Int} (h : k ≠ 1) (y : Rn) : kidC k y = kidC 2 y := by
  unfold kidC
  by_cases e : y.kind = 0
  · rw [if_pos (.inr e), if_pos (.inr e)]
  · rw [if_neg (by rintro (h2 | h2)
                   · exact h h2
                   · exact e h2), if_neg (by rintro (h2 | h2)
                                             · cases h2
                                             · exact e h2)]
set_option maxHeartbeats 4000000 in
theorem size_ : ∀ (n : Nat) (x : Rn) (d : Nat), x.size ≤ n → n < 100000000 → rt x d = true → SizeC x := by
  intro n
  induction n with
  | zero => intro x d hx; obtain ⟨k, p, v, ks⟩ := x; rw [size_eq] at hx; omega
  | succ n ih =>
    intro x d hx hn hr
    unfold SizeC
    by_cases hk : x.kind = 0
    · rw [show kidC 2 x = [] from if_pos (.inr hk)]
      have hrf := rnC_refs
      obtain ⟨k, p, v, ks⟩ := x
      obtain rfl : k = 0 := hk
      simp only [rnV, rnC_eq]
      clear ih
      refine LFx.mk' tt Try.func62 rfl rfl rfl (by kernel_rfl) rfl rfl fun F => ?_
      exact wk trueW trueW trueW
    · have hsz := cds_size _ x d (Nat.le_refl _) hr fun e => absurd e hk
      rw [show kidC 2 x = cdB (toN x) from if_neg (by rintro (h | h)
                                                      · cases h
                                                      · exact hk h)]
      obtain ⟨k, p, v, ks⟩ := x
      have hk' : k ≠ 0 := hk
      rw [(codes_plain hr fun e => absurd e hk').2, List.length_cons] at hsz ⊢
      simp only [rnV, rnC_eq]
      rw [size_eq] at hx hsz
      have hkl := Tr.sizeL_len ks
      by_cases h1 : k = 1
      · subst h1
        have : ks.flatMap (kidC 1) = [] := by
          rw [List.flatMap_eq_nil_iff]
          intro y _
          exact if_pos (.inl rfl)
        rw [this]
        clear ih
        refine LFx.mk' tt Try.func62 rfl rfl rfl (by kernel_rfl) rfl rfl fun F => ?_
        exact wk trueW trueW trueW
      · have hkid : ∀ i, i < ks.length → SizeC (ks.getD i default) := fun i hi => by
          have hs := sizeL_get hi
          obtain ⟨e, he⟩ : ∃ e, rt (ks.getD i default) e = true := by
            rw [rt_eq, if_neg hk', if_neg h1] at hr
            by_cases k2 : k = 2
            · rw [if_pos k2] at hr
              simp only [Bool.and_eq_true, decide_eq_true_eq] at hr
              exact ⟨_, rtL_get.1 hr.2 i hi⟩
            rw [if_neg k2] at hr
            by_cases k3 : k = 3
            · rw [if_pos k3] at hr
              simp only [Bool.and_eq_true, decide_eq_true_eq] at hr
              exact ⟨_, rtL_get.1 hr.1.2 i hi⟩
            · rw [if_neg k3] at hr; cases hr
          exact ih _ e (by omega) (by omega) he
        have e2 : ks.flatMap (kidC k) = ks.flatMap (kidC 2) := by
          rw [List.flatMap_def, List.flatMap_def]
          congr 1
          exact List.map_congr_left fun y _ => kidC_two h1 y
        rw [e2] at hsz ⊢
        have hrf := rnC_refs
        clear ih hr e2
        refine LFx.mk' tt Try.func62 rfl rfl rfl (by kernel_rfl) rfl rfl fun F => ?_
        refine wk ?_ trueW trueW
        refine LC.loop2 (fun i S => [(1, .p 1 0), (3, .k (.int .i64 ((S : Nat) : Int))), (14, .s none (ks.map rnV)), (15, .k (.int .i64 ((ks.length : Nat) : Int))), (16, .k (.int .i64 ((i : Nat) : Int)))]) (fun i S => [(1, .b [.k (.int .i64 k), bV p, bV v, .s none (ks.map rnV)])]) (fun i S => i ≤ ks.length ∧ S = 1 + ((ks.take i).flatMap (kidC 2)).length) ((ks.length - ·)) (0) (1) ⟨by omega, rfl⟩ ⟨rfl, rfl, rfl, rfl, rfl, trivial⟩ ⟨rfl, trivial⟩ rfl rfW rfW ?_
        rintro i S ⟨hi, hS⟩
        have hKl : ((ks.take i).flatMap (kidC 2)).length ≤ (ks.flatMap (kidC 2)).length := flat_len_le i
        rcases Nat.lt_or_ge i ks.length with h | h
        · have c1 := hkid i h
          unfold SizeC at c1
          have hk4 := rnC_len (ks.getD i default)
          have hft : ((ks.take (i + 1)).flatMap (kidC 2)).length = ((ks.take i).flatMap (kidC 2)).length + (kidC 2 (ks.getD i default)).length := by rw [flatM_take h, List.length_append]
          have hKl2 : ((ks.take (i + 1)).flatMap (kidC 2)).length ≤ (ks.flatMap (kidC 2)).length := flat_len_le (i + 1)
          have hok : i + 1 ≤ ks.length ∧ S + (kidC 2 (ks.getD i default)).length = 1 + ((ks.take (i + 1)).flatMap (kidC 2)).length := ⟨h, by omega⟩
          clear hkid
          generalize (kidC 2 (ks.getD i default)).length = M at *
          exact wk trueW trueW trueW
        · obtain rfl : i = ks.length := by omega
          rw [List.take_length] at hS
          rw [show (ks.flatMap (kidC 2)).length + 1 = S by omega]
          clear hkid
          exact wk trueW trueW trueW
end Rw
end Lf
open Go.RowKit Rg Wm Ar
set_option linter.unusedVariables false
set_option maxRecDepth 100000
namespace Lf
open Tr Ro Pk
theorem ck_cons (c : List UInt8) (r : List (List UInt8)) (first : Bool) (h p : List UInt8) : ck sumB (c :: r) first h p = (if sumB c = h then
      (match readS c with
      | none => (1, [])
      | some s => if s.kind = 0 ∧ first = false then (1, []) else
        if (nxS s p).1.length = 0 then (if r = [] then (0, (nxS s p).2.2) else (6, [])) else ck sumB r false (nxS s p).1 (nxS s p).2.1)
    else (4, [])) := rfl
theorem nxS_sum {s : Shp} {it : Itm} (hi : itmS s = some it) (p : List UInt8) : (nxS s p).1.length = 0 ∨ (nxS s p).1.length = 32 := by
 rcases itmS_list hi with ⟨k, _⟩ | ⟨l, _, ⟨k, _, c⟩ | ⟨k, _, c⟩ | ⟨k, _, c⟩⟩
 ·rw [nxS_none ⟨by omega, by omega, by omega⟩]; exact .inl rfl
 ·unfold nxS
  rw [if_pos k]
  split <;> exact .inl rfl
 ·unfold nxS
  rw [if_neg (by omega), if_pos k]
  split
  ·exact .inr c.2.2.2
  ·exact .inl rfl
 ·unfold nxS
  rw [if_neg (by omega), if_neg (by omega), if_pos k]
  split
  ·exact .inl rfl
  ·rename_i x r
   by_cases hx : x.toNat < s.kids.length
   ·have := all_at c.2.2.1 hx
    unfold sum0 at this
    simp only [Bool.or_eq_true, decide_eq_true_eq] at this
    exact this.symm
   ·left
    show (s.kids.getD x.toNat default).length = 0
    rw [List.getD_eq_getElem?_getD, List.getElem?_eq_none (by omega)]
    rfl
theorem nxS_val (s : Shp) (p : List UInt8) : (nxS s p).2.2.length ≤ s.value.length := by
 unfold nxS
 split
 ·split
  ·exact Nat.le_refl _
  ·exact Nat.zero_le _
 ·split
  ·split <;> exact Nat.zero_le _
  ·split
   ·split
    ·exact Nat.le_refl _
    ·exact Nat.zero_le _
   ·exact Nat.zero_le _
namespace Rw
set_option maxHeartbeats 8000000 in
theorem Check_ (h key : List UInt8) (codes : List (List UInt8)) (hh : h.length = 32) (hk : key.length ≤ 32) (hn : codes.length < 100000000) (ht : ∀ t ∈ codes, t.length < 3000000) : LF Try.prog 30 [hashV h, bV key, txV codes] (fun _ => .t [bV (ck sumB codes true h (pB (keyP key))).2, .k (.int .i64 (((ck sumB codes true h (pB (keyP key))).1 : Nat) : Int))]) none := by
 have c1 := Te.Halves_ key (by omega)
 have hkl := keyP_len key
 obtain ⟨X, hX⟩ : ∃ X, X = ck sumB codes true h (pB (keyP key)) := ⟨_, rfl⟩
 rw [← hX]
 have hfb : FrzBox 3 3 := ⟨⟩
 have hbg := bgo_mapb h
 have hcq : CutQ (h.map bK) 32 h := ⟨by rw [List.take_of_length_le (by rw [List.length_map, hh]; omega)], hh⟩
 generalize keyP key = q0 at *
 refine LFx.mk' tt Try.func30 rfl rfl rfl (by kernel_rfl) rfl rfl fun F => ?_
 refine wk ?_ trueW trueW
 refine LC.slotweak (v' := bV []) 10 rfl (fun w g x hr => rep_nilE hr) ?_
 refine LC.loop5 (fun i H Q Vl (_u4 : Unit) => [(2, .s none (codes.map bV)), (8, bV (pB Q)), (9, bV H), (10, bV Vl), (11, .k (.int .i64 ((i : Nat) : Int)))]) (fun i H Q Vl (_u4 : Unit) => []) (fun i H Q Vl (_u4 : Unit) => Q.length ≤ 64 ∧ Vl.length ≤ 1024 ∧ (H.length = 32 ∧ i ≤ codes.length ∧ X = ck sumB (codes.drop i) (decide (i = 0)) H (pB Q) ∨ H.length = 0 ∧ i ≤ codes.length ∧ X = (0, Vl))) ((codes.length - ·)) (0) (h) (q0) ([] : List UInt8) () ⟨by omega, by decide, .inl ⟨hh, Nat.zero_le _, hX⟩⟩ ⟨rfl, rfl, rfl, rfl, rfl, trivial⟩ trivial rfl rfW rfW ?_
 rintro i H Q Vl _ ⟨hQ, hVl, hinv⟩
 clear hX hfb hbg hcq
 rcases hinv with ⟨hH, hi, hX⟩ | ⟨hH, hi, hX⟩
 ·rcases Nat.lt_or_ge i codes.length with hlt | hge
  ·rw [drop_cons hlt, ck_cons] at hX
   have hm : codes.getD i default ∈ codes := by rw [List.getD_eq_getElem?_getD, List.getElem?_eq_getElem hlt]; exact List.getElem_mem hlt
   have htl := ht _ hm
   have c2 := Sp.Sum (codes.getD i default) (by omega)
   have hsl := sumB_len (codes.getD i default)
   by_cases hs : sumB (codes.getD i default) = H
   ·rw [if_pos hs] at hX
    obtain ⟨r1, r2⟩ := Read_ (codes.getD i default) htl
    cases hr : readS (codes.getD i default) with
    | none =>
     rw [hr] at hX
     subst hX
     have c3 := r1 hr
     rw [shV_zero] at c3
     simp only []
     clear r1 r2 hr
     subst hs
     generalize sumB (codes.getD i default) = H at *
     have hsm : ¬ ¬ (H = H) := fun h => h rfl
     exact wk trueW trueW trueW
    | some s =>
     rw [hr] at hX
     simp only [] at hX
     have c3 := r2 s hr
     obtain ⟨it, hit, _, _⟩ := code_read hr
     obtain ⟨b1, b2, b3, b4⟩ := readS_bound hr
     have c4 := next_ s Q it hit (by omega) (by omega) (by omega)
     obtain ⟨r', e1, e2⟩ := nxS_path s Q
     have hsum := nxS_sum hit (pB Q)
     have hval := nxS_val s (pB Q)
     rw [e1] at c4 hX
     generalize nxS s (pB Q) = Y at *
     obtain ⟨y1, y2, y3⟩ := Y
     simp only at c4 hX hsum hval
     clear r1 r2 hr hit e1
     obtain ⟨k, p, v, ks⟩ := s
     simp only [shV, shC_eq] at c3 c4
     simp only at hX b1 b2 b3 b4 hval
     subst hs
     generalize sumB (codes.getD i default) = H at *
     have hsm : ¬ ¬ (H = H) := fun h => h rfl
     by_cases hz : k = 0 ∧ i ≠ 0
     ·rw [if_pos ⟨hz.1, by simp [hz.2]⟩] at hX
      subst hX
      obtain ⟨hz1, hz2⟩ := hz
      have hz3 : 0 < i := by omega
      simp only []
      exact wk trueW trueW trueW
     ·rw [if_neg (fun hh => hz ⟨hh.1, by simpa using hh.2⟩)] at hX
      have hz' : k ≠ 0 ∨ (k = 0 ∧ i = 0) := by
       by_cases h1 : k = 0
       ·by_cases h2 : i = 0
        ·exact .inr ⟨h1, h2⟩
        ·exact absurd ⟨h1, h2⟩ hz
       ·exact .inl h1
      clear hz
      rcases hsum with hy | hy
      ·rw [if_pos hy] at hX
       by_cases hlast : codes.drop (i + 1) = []
       ·rw [if_pos hlast] at hX
        have hil : i + 1 = codes.length := by
         have := congrArg List.length hlast
         rw [List.length_drop, List.length_nil] at this; omega
        have hok : r'.length ≤ 64 ∧ y3.length ≤ 1024 ∧ (y1.length = 32 ∧ i + 1 ≤ codes.length ∧ X = ck sumB (codes.drop (i + 1)) (decide (i + 1 = 0)) y1 (pB r') ∨ y1.length = 0 ∧ i + 1 ≤ codes.length ∧ X = (0, y3)) := ⟨by omega, by omega, .inr ⟨hy, by omega, hX⟩⟩
        clear hlast hX
        rcases hz' with hz' | ⟨hz1, hz2⟩
        ·exact wk trueW trueW trueW
        ·exact wk trueW trueW trueW
       ·rw [if_neg hlast] at hX
        subst hX
        have hil : i + 1 < codes.length := by
         rcases Nat.lt_or_ge (i + 1) codes.length with h | h
         ·exact h
         ·exact absurd (List.drop_eq_nil_of_le h) hlast
        simp only []
        clear hlast
        rcases hz' with hz' | ⟨hz1, hz2⟩
        ·exact wk trueW trueW trueW
        ·exact wk trueW trueW trueW
      ·rw [if_neg (by omega)] at hX
       have hok : r'.length ≤ 64 ∧ y3.length ≤ 1024 ∧ (y1.length = 32 ∧ i + 1 ≤ codes.length ∧ X = ck sumB (codes.drop (i + 1)) (decide (i + 1 = 0)) y1 (pB r') ∨ y1.length = 0 ∧ i + 1 ≤ codes.length ∧ X = (0, y3)) := ⟨by omega, by omega, .inl ⟨hy, hlt, hX⟩⟩
       clear hX
       rcases hz' with hz' | ⟨hz1, hz2⟩
       ·exact wk trueW trueW trueW
       ·exact wk trueW trueW trueW
   ·rw [if_neg hs] at hX
    subst hX
    simp only []
    generalize sumB (codes.getD i default) = H2 at *
    exact wk trueW trueW trueW
  ·obtain rfl : i = codes.length := by omega
   rw [List.drop_length] at hX
   have hX5 : X = (5, []) := hX
   subst hX5
   simp only []
   clear hX
   exact wk trueW trueW trueW
 ·subst hX
  simp only []
  exact wk trueW trueW trueW
end Rw
end Lf
namespace Lf
namespace Te
end Te
end Lf
namespace Lf
namespace Te
end Te
end Lf
namespace Lf
namespace Sl6
end Sl6
end Lf
end Go.Proofs.Ytkbimhccaacobaa

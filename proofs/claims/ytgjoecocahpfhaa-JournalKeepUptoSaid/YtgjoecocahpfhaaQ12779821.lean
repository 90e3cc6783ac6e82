/- A part of the proof: texts joined. -/
import Derived.Test.YtgjoecocahpfhaaQ11660ba0
namespace Go.Proofs.Ytgjoecocahpfhaa
open Go.RowKit Rg
set_option linter.unusedVariables false
set_option maxRecDepth 100000
namespace Lf
namespace Jq
abbrev up_ (S : List Nat) (a : Nat) : Nat → Bool := fun x => !ltN S.toArray[a]! x
abbrev dn_ (S : List Nat) (a : Nat) : Nat → Bool := fun x => ltN S.toArray[a]! x
theorem up_iff {S : List Nat} {a x : Nat} : up_ S a x = true ↔ ¬ S.getD a default < x := by unfold up_ ltN; rw [arr_get]; simp
theorem dn_iff {S : List Nat} {a x : Nat} : dn_ S a x = true ↔ S.getD a default < x := by unfold dn_ ltN; rw [arr_get]; simp
theorem ne_of2 {S : List Nat} {a i j I J : Nat} (hI : Go.Sort.scanUp (up_ S a) S.toArray j i = I) (hJ : Go.Sort.scanDown (dn_ S a) S.toArray I j = J) (h0 : 0 < I) (h : ¬ J < I) : I < J := by
  have h1 := su_stop (up_ S a) S.toArray j (j + 1 - i) i (Nat.le_refl _)
  have h2 := sdn_stop (dn_ S a) S.toArray I h0 j
  have h3 := (sdn_le (dn_ S a) S.toArray I j).1
  rw [hI] at h1
  rw [hJ] at h2 h3
  rcases Nat.lt_or_ge I J with h4 | h4
  · exact h4
  · obtain rfl : I = J := by omega
    have e1 := h1 h3
    have e2 := h2 (Nat.le_refl _)
    rw [arr_get] at e1 e2
    have n1 : ¬ S.getD a default < S.getD I default := fun h => by rw [dn_iff.2 h] at e2; cases e2
    rw [up_iff.2 n1] at e1
    cases e1
theorem pe_end {S : List Nat} {a i j I J : Nat} (hI : Go.Sort.scanUp (up_ S a) S.toArray j i = I) (hJ : Go.Sort.scanDown (dn_ S a) S.toArray I j = J) (h : J < I) : Go.Sort.partEqLoop ltN a i j S.toArray = (I, S.toArray) := by
  rw [Go.Sort.partEqLoop]
  unfold up_ at hI
  unfold dn_ at hJ
  simp only [hI, hJ]
  rw [if_pos h]
theorem pe_go {S : List Nat} {a i j I J : Nat} (hI : Go.Sort.scanUp (up_ S a) S.toArray j i = I) (hJ : Go.Sort.scanDown (dn_ S a) S.toArray I j = J) (h : ¬ J < I) (h1 : i ≤ I) (h2 : J ≤ j) (h3 : 0 < I) : Go.Sort.partEqLoop ltN a i j S.toArray = Go.Sort.partEqLoop ltN a (I + 1) (J - 1) ((S.set I (S.getD J default)).set J (S.getD I default)).toArray := by
  conv => lhs; rw [Go.Sort.partEqLoop]
  unfold up_ at hI
  unfold dn_ at hJ
  simp only [hI, hJ]
  rw [if_neg (by omega), dif_pos (by omega), swp_l]
theorem pe_rng (a : Nat) : ∀ (n i j : Nat) (S : List Nat), j + 1 - i ≤ n → 0 < i → i ≤ j + 1 → (Go.Sort.partEqLoop ltN a i j S.toArray).1 ≤ j + 1 ∧ (Go.Sort.partEqLoop ltN a i j S.toArray).2.size = S.length := by
  intro n
  induction n with
  | zero =>
    intro i j S h h0 hij
    have rI := su_ge (up_ S a) S.toArray j (j + 1 - i) i (Nat.le_refl _)
    have rJ := sdn_le (dn_ S a) S.toArray (Go.Sort.scanUp (up_ S a) S.toArray j i) j
    rw [pe_end rfl rfl (by omega)]
    exact ⟨by dsimp only; omega, by simp⟩
  | succ n ih =>
    intro i j S h h0 hij
    have rI := su_ge (up_ S a) S.toArray j (j + 1 - i) i (Nat.le_refl _)
    have rJ := sdn_le (dn_ S a) S.toArray (Go.Sort.scanUp (up_ S a) S.toArray j i) j
    generalize hI : Go.Sort.scanUp (up_ S a) S.toArray j i = I at *
    generalize hJ : Go.Sort.scanDown (dn_ S a) S.toArray I j = J at *
    by_cases hc : J < I
    · rw [pe_end hI hJ hc]
      exact ⟨by dsimp only; omega, by simp⟩
    · have hne := ne_of2 hI hJ (by omega) hc
      rw [pe_go hI hJ hc rI.1 rJ.1 (by omega)]
      have := ih (I + 1) (J - 1) ((S.set I (S.getD J default)).set J (S.getD I default)) (by omega) (by omega) (by omega)
      rw [set_len2] at this
      exact ⟨by omega, this.2⟩
set_option maxHeartbeats 8000000 in
theorem partEq_ (D : List Nat) (g a b pivot : Nat) (hl : D.length < 100000000) (h1 : a ≤ pivot) (h2 : pivot < b) (hb : b ≤ D.length) : LM Try.prog 102 [sQ g D.length, iK a, iK b, iK pivot] (mQ g D) fun o m => o = .ret (iK (Go.Sort.partitionEqual ltN D.toArray a b pivot).1) ∧ m = mQ g (Go.Sort.partitionEqual ltN D.toArray a b pivot).2.toList := by
  generalize hR : Go.Sort.partitionEqual ltN D.toArray a b pivot = R
  unfold Go.Sort.partitionEqual at hR
  rw [swp_l] at hR
  have hel0 : (D.map uK).length = D.length := List.length_map _
  have hel1 : ((D.set a (D.getD pivot default)).map uK).length = D.length := by rw [List.length_map, List.length_set]
  have hSl : ((D.set a (D.getD pivot default)).set pivot (D.getD a default)).length = D.length := set_len2 _ _ _ _ _
  refine LM.enter tt Try.func102 rfl rfl rfl (by kernel_rfl) rfl rfl rfl (fun o mo h => by rw [h.2]; rfl) fun F _ => ?_
  refine wk ?_ trueW trueW
  refine LC.afterW [(9, iK R.1)] (mQ g R.2.toList) ?_ ?_
  · refine LC.loop5 (fun i j T (_u3 : Unit) (_u4 : Unit) => [(0, .w 1000 g 1 0 D.length), (1, .k (.int .i64 ((a : Nat) : Int))), (9, .k (.int .i64 ((i : Nat) : Int))), (10, .k (.int .i64 ((j : Nat) : Int)))]) (fun i j T (_u3 : Unit) (_u4 : Unit) => [(1000, .w 24 1 g (T.map uK))]) (fun i j T (_u3 : Unit) (_u4 : Unit) => a < i ∧ i ≤ j + 1 ∧ j < b ∧ T.length = D.length ∧ Go.Sort.partEqLoop ltN a i j T.toArray = R) ((b - ·)) (a + 1) (b - 1) ((D.set a (D.getD pivot default)).set pivot (D.getD a default)) () () ⟨by omega, by omega, by omega, hSl, hR⟩ ⟨rfl, rfl, rfl, rfl, trivial⟩ ⟨rfl, trivial⟩ rfl rfW rfW ?_
    clear hR hSl hel0 hel1
    rintro i0 j0 T _ _ ⟨ha, hij, hjb, hTl, hr⟩
    have hel : (T.map uK).length = T.length := List.length_map _
    have rI := su_ge (up_ T a) T.toArray j0 (j0 + 1 - i0) i0 (Nat.le_refl _)
    generalize hI : Go.Sort.scanUp (up_ T a) T.toArray j0 i0 = I at rI
    refine LC.block ?_
    refine LC.seq (LC.block ?_)
    refine LC.afterW [(0, sQ g D.length), (1, iK a), (9, iK I), (10, iK j0)] (mQ g T) ?_ ?_
    · refine LC.loopN (fun i => [(0, .w 1000 g 1 0 D.length), (1, .k (.int .i64 ((a : Nat) : Int))), (9, .k (.int .i64 ((i : Nat) : Int))), (10, .k (.int .i64 ((j0 : Nat) : Int)))]) (fun i => [(1000, .w 24 1 g (T.map uK))]) (fun i => a < i ∧ i ≤ j0 + 1 ∧ Go.Sort.scanUp (up_ T a) T.toArray j0 i = I) ((j0 + 1 - ·)) (i0) ⟨by omega, by omega, hI⟩ ⟨rfl, rfl, rfl, rfl, trivial⟩ ⟨rfl, trivial⟩ rfl rfW rfW ?_
      rintro i ⟨ha, hib, hI'⟩
      have c1 := Less_ (T.getD a default) (T.getD i default)
      by_cases hc : i ≤ j0
      · by_cases hlt : T.getD a default < T.getD i default
        · rw [show ltN _ _ = true from decide_eq_true hlt] at c1
          rw [su_end fun h => up_iff.1 h.2 hlt] at hI'
          subst hI'
          clear hI hr hlt
          refine wk ?_ trueW trueW
          exact ⟨rfl, by repeat (first | exact True.intro | refine And.intro rfl ?_), by repeat (first | exact True.intro | refine And.intro rfl ?_), rfl⟩
        · rw [show ltN _ _ = false from decide_eq_false hlt] at c1
          rw [su_step hc (up_iff.2 hlt)] at hI'
          have hok : a < i + 1 ∧ i + 1 ≤ j0 + 1 ∧ Go.Sort.scanUp (up_ T a) T.toArray j0 (i + 1) = I := ⟨by omega, by omega, hI'⟩
          have hmu : j0 + 1 - (i + 1) < j0 + 1 - i := by omega
          clear hI' hI hr hlt
          exact wk trueW trueW trueW
      · rw [su_end fun h => hc h.1] at hI'
        subst hI'
        clear hI hr
        refine wk ?_ trueW trueW
        exact ⟨rfl, by repeat (first | exact True.intro | refine And.intro rfl ?_), by repeat (first | exact True.intro | refine And.intro rfl ?_), rfl⟩
    have rJ := sdn_le (dn_ T a) T.toArray I j0
    generalize hJ : Go.Sort.scanDown (dn_ T a) T.toArray I j0 = J at rJ
    have rI2 := rI.2 (by omega)
    have rJ2 := rJ.2 (by omega)
    refine wk ?_ trueW trueW
    refine LC.afterW [(0, sQ g D.length), (1, iK a), (9, iK I), (10, iK J)] (mQ g T) ?_ ?_
    · refine LC.loopN (fun j => [(0, .w 1000 g 1 0 D.length), (1, .k (.int .i64 ((a : Nat) : Int))), (9, .k (.int .i64 ((I : Nat) : Int))), (10, .k (.int .i64 ((j : Nat) : Int)))]) (fun j => [(1000, .w 24 1 g (T.map uK))]) (fun j => I ≤ j + 1 ∧ j ≤ j0 ∧ Go.Sort.scanDown (dn_ T a) T.toArray I j = J) ((fun j => j)) (j0) ⟨by omega, Nat.le_refl _, hJ⟩ ⟨rfl, rfl, rfl, rfl, trivial⟩ ⟨rfl, trivial⟩ rfl rfW rfW ?_
      rintro j ⟨hj1, hj2, hJ'⟩
      have c1 := Less_ (T.getD a default) (T.getD j default)
      by_cases hc : I ≤ j
      · by_cases hlt : T.getD a default < T.getD j default
        · rw [show ltN _ _ = true from decide_eq_true hlt] at c1
          rw [sdn_step hc (by omega) (dn_iff.2 hlt)] at hJ'
          have hok : I ≤ j - 1 + 1 ∧ j - 1 ≤ j0 ∧ Go.Sort.scanDown (dn_ T a) T.toArray I (j - 1) = J := ⟨by omega, by omega, hJ'⟩
          have hmu : j - 1 < j := by omega
          clear hJ' hI hJ hr hlt
          exact wk trueW trueW trueW
        · rw [show ltN _ _ = false from decide_eq_false hlt] at c1
          rw [sdn_end fun h => hlt (dn_iff.1 h.2)] at hJ'
          subst hJ'
          clear hI hJ hr hlt
          refine wk ?_ trueW trueW
          exact ⟨rfl, by repeat (first | exact True.intro | refine And.intro rfl ?_), by repeat (first | exact True.intro | refine And.intro rfl ?_), rfl⟩
      · rw [sdn_end fun h => hc h.1] at hJ'
        subst hJ'
        clear hI hJ hr
        refine wk ?_ trueW trueW
        exact ⟨rfl, by repeat (first | exact True.intro | refine And.intro rfl ?_), by repeat (first | exact True.intro | refine And.intro rfl ?_), rfl⟩
    by_cases hIJ : J < I
    · have e := pe_end hI hJ hIJ
      rw [e] at hr
      subst hr
      clear hI hJ e
      refine wk ?_ trueW trueW
      refine lblk_ne rfl ?_
      exact ⟨rfl, by repeat (first | exact True.intro | refine And.intro rfl ?_), by repeat (first | exact True.intro | refine And.intro rfl ?_), rfl⟩
    · have hne := ne_of2 hI hJ (by omega) hIJ
      rw [pe_go hI hJ hIJ rI.1 rJ.1 (by omega)] at hr
      have hel2 : ((T.set I (T.getD J default)).map uK).length = T.length := by rw [List.length_map, List.length_set]
      have hok : a < I + 1 ∧ I + 1 ≤ J - 1 + 1 ∧ J - 1 < b ∧ ((T.set I (T.getD J default)).set J (T.getD I default)).length = D.length ∧ Go.Sort.partEqLoop ltN a (I + 1) (J - 1) ((T.set I (T.getD J default)).set J (T.getD I default)).toArray = R := ⟨by omega, by omega, by omega, by rw [set_len2]; exact hTl, hr⟩
      have hmu : b - (I + 1) < b - i0 := by omega
      clear hI hJ hr
      exact wk trueW trueW trueW
  · clear hR
    exact wk trueW trueW trueW
end Jq
end Lf
open Go.RowKit Rg
set_option linter.unusedVariables false
set_option maxRecDepth 100000
namespace Lf
namespace Jq
abbrev mP (g : Nat) (S : List Nat) (sw : Nat) : Mem := [(1000, .w 24 1 g (S.map uK)), (1001, .b [iK sw])]
theorem o2_y {S : List Nat} {a b sw : Nat} (h : S.getD b default < S.getD a default) : Go.Sort.order2 ltN S.toArray a b sw = (b, a, sw + 1) := by
  unfold Go.Sort.order2; rw [arr_get, arr_get, if_pos (by simpa using h)]
theorem o2_n {S : List Nat} {a b sw : Nat} (h : ¬ S.getD b default < S.getD a default) : Go.Sort.order2 ltN S.toArray a b sw = (a, b, sw) := by
  unfold Go.Sort.order2; rw [arr_get, arr_get, if_neg (by simpa using h)]
theorem o2_rng {S : List Nat} {a b sw n : Nat} (ha : a < n) (hb : b < n) : (Go.Sort.order2 ltN S.toArray a b sw).1 < n ∧ (Go.Sort.order2 ltN S.toArray a b sw).2.1 < n ∧ (Go.Sort.order2 ltN S.toArray a b sw).2.2 ≤ sw + 1 := by
  by_cases h : S.getD b default < S.getD a default
  · rw [o2_y h]; exact ⟨hb, ha, Nat.le_refl _⟩
  · rw [o2_n h]; exact ⟨ha, hb, Nat.le_succ _⟩
set_option maxHeartbeats 4000000 in
theorem order2_ (S : List Nat) (g a b sw : Nat) (hl : S.length < 100000000) (ha : a < S.length) (hb : b < S.length) (hs : sw < 1000000) : LM Try.prog 112 [sQ g S.length, iK a, iK b, .p 1001 0] (mP g S sw) fun o m => o = .ret (.t [iK (Go.Sort.order2 ltN S.toArray a b sw).1, iK (Go.Sort.order2 ltN S.toArray a b sw).2.1]) ∧ m = mP g S (Go.Sort.order2 ltN S.toArray a b sw).2.2 := by
  have c1 := Less_ (S.getD b default) (S.getD a default)
  have hel : (S.map uK).length = S.length := List.length_map _
  by_cases h : S.getD b default < S.getD a default
  · rw [show ltN _ _ = true from decide_eq_true h] at c1
    rw [o2_y h]
    refine LM.enter tt Try.func112 rfl rfl rfl (by kernel_rfl) rfl rfl rfl (fun o mo h => by rw [h.2]; rfl) fun F _ => ?_
    exact wk trueW trueW trueW
  · rw [show ltN _ _ = false from decide_eq_false h] at c1
    rw [o2_n h]
    refine LM.enter tt Try.func112 rfl rfl rfl (by kernel_rfl) rfl rfl rfl (fun o mo h => by rw [h.2]; rfl) fun F _ => ?_
    exact wk trueW trueW trueW
theorem med_rng {S : List Nat} {a b c sw n : Nat} (ha : a < n) (hb : b < n) (hc : c < n) : (Go.Sort.median ltN S.toArray a b c sw).1 < n ∧ (Go.Sort.median ltN S.toArray a b c sw).2 ≤ sw + 3 := by
  obtain ⟨a1, a2, a3⟩ := o2_rng (S := S) (sw := sw) ha hb
  unfold Go.Sort.median
  dsimp only
  generalize Go.Sort.order2 ltN S.toArray a b sw = r1 at *
  obtain ⟨b1, b2, b3⟩ := o2_rng (S := S) (sw := r1.2.2) a2 hc
  generalize Go.Sort.order2 ltN S.toArray r1.2.1 c r1.2.2 = r2 at *
  obtain ⟨c1, c2, c3⟩ := o2_rng (S := S) (sw := r2.2.2) a1 b1
  generalize Go.Sort.order2 ltN S.toArray r1.1 r2.1 r2.2.2 = r3 at *
  exact ⟨c2, by omega⟩
set_option maxHeartbeats 4000000 in
theorem median_ (S : List Nat) (g a b c sw : Nat) (hl : S.length < 100000000) (ha : a < S.length) (hb : b < S.length) (hc : c < S.length) (hs : sw < 900000) : LM Try.prog 111 [sQ g S.length, iK a, iK b, iK c, .p 1001 0] (mP g S sw) fun o m => o = .ret (iK (Go.Sort.median ltN S.toArray a b c sw).1) ∧ m = mP g S (Go.Sort.median ltN S.toArray a b c sw).2 := by
  have c1 := order2_ S g a b sw hl ha hb (by omega)
  obtain ⟨a1, a2, a3⟩ := o2_rng (S := S) (sw := sw) ha hb
  unfold Go.Sort.median
  dsimp only
  generalize Go.Sort.order2 ltN S.toArray a b sw = r1 at *
  have c2 := order2_ S g r1.2.1 c r1.2.2 hl a2 hc (by omega)
  obtain ⟨b1, b2, b3⟩ := o2_rng (S := S) (sw := r1.2.2) a2 hc
  generalize Go.Sort.order2 ltN S.toArray r1.2.1 c r1.2.2 = r2 at *
  have c3 := order2_ S g r1.1 r2.1 r2.2.2 hl a1 b1 (by omega)
  generalize Go.Sort.order2 ltN S.toArray r1.1 r2.1 r2.2.2 = r3 at *
  refine LM.enter tt Try.func111 rfl rfl rfl (by kernel_rfl) rfl rfl rfl (fun o mo h => by rw [h.2]; rfl) fun F _ => ?_
  exact wk trueW trueW trueW
set_option maxHeartbeats 4000000 in
theorem medAdj_ (S : List Nat) (g a sw : Nat) (hl : S.length < 100000000) (ha : 0 < a) (hb : a + 1 < S.length) (hs : sw < 900000) : LM Try.prog 110 [sQ g S.length, iK a, .p 1001 0] (mP g S sw) fun o m => o = .ret (iK (Go.Sort.medianAdjacent ltN S.toArray a sw).1) ∧ m = mP g S (Go.Sort.medianAdjacent ltN S.toArray a sw).2 := by
  have c1 := median_ S g (a - 1) a (a + 1) sw hl (by omega) (by omega) hb hs
  unfold Go.Sort.medianAdjacent
  generalize Go.Sort.median ltN S.toArray (a - 1) a (a + 1) sw = r at *
  refine LM.enter tt Try.func110 rfl rfl rfl (by kernel_rfl) rfl rfl rfl (fun o mo h => by rw [h.2]; rfl) fun F _ => ?_
  exact wk trueW trueW trueW
theorem sw_gen {f : Nat} {us : List V} {g : Nat} {S : List Nat} {n sw r s : Nat} (has : ∀ ρ : Nat → Nat, us.map (V.ren ρ) = us) (h : LM Try.prog f (sQ g n :: (us ++ [.p 1001 0])) (mP g S sw) fun o m => o = .ret (iK r) ∧ m = mP g S s) : LM Try.prog f (sQ g n :: (us ++ [.p 9 0])) [(1000, .w 24 1 g (S.map uK)), (9, .b [iK sw])] fun o m => o = .ret (iK r) ∧ m = [(1000, .w 24 1 g (S.map uK)), (9, .b [iK s])] :=
  LM.gen [1000, 1001] [1000, 9] (by simp) (by simp) rfl h fun ρ hρ => by
    simp at hρ
    obtain ⟨h1, h2⟩ := hρ
    exact ⟨by simp [V.ren, has, h1, h2], by simp [Mem.ren, M.ren, V.ren, h1, h2], rfl, by simp [Mem.ren, M.ren, V.ren, h1, h2]⟩
def hintN : Go.Sort.Hint → Nat
  | .unknown => 0
  | .increasing => 1
  | .decreasing => 2
set_option maxHeartbeats 8000000 in
theorem pivot_ (S : List Nat) (g a b : Nat) (hl : S.length < 100000000) (hab : a + 12 < b) (hb : b ≤ S.length) : LM Try.prog 98 [sQ g S.length, iK a, iK b] (mQ g S) fun o m => o = .ret (.t [iK (Go.Sort.choosePivot ltN S.toArray a b).1, iK (hintN (Go.Sort.choosePivot ltN S.toArray a b).2)]) ∧ m = mQ g S := by
  have hi1 : a + (b - a) / 4 * 1 < b := by omega
  have hi2 : a + (b - a) / 4 * 2 < b := by omega
  have hi3 : a + (b - a) / 4 * 3 < b := by omega
  unfold Go.Sort.choosePivot
  dsimp only
  rw [if_pos (show b - a ≥ 8 by omega)]
  by_cases h50 : b - a ≥ 50
  · rw [if_pos h50]
    have j1 : 0 < a + (b - a) / 4 * 1 := by omega
    have c1 := sw_gen (us := [iK (a + (b - a) / 4 * 1)]) (fun _ => rfl) (medAdj_ S g (a + (b - a) / 4 * 1) 0 hl j1 (by omega) (by decide))
    have m1 := med_rng (S := S) (sw := 0) (n := S.length) (a := a + (b - a) / 4 * 1 - 1) (b := a + (b - a) / 4 * 1) (c := a + (b - a) / 4 * 1 + 1) (by omega) (by omega) (by omega)
    change (Go.Sort.medianAdjacent ltN S.toArray (a + (b - a) / 4 * 1) 0).1 < _ ∧ (Go.Sort.medianAdjacent ltN S.toArray (a + (b - a) / 4 * 1) 0).2 ≤ _ at m1
    generalize Go.Sort.medianAdjacent ltN S.toArray (a + (b - a) / 4 * 1) 0 = ri at *
    have c2 := sw_gen (us := [iK (a + (b - a) / 4 * 2)]) (fun _ => rfl) (medAdj_ S g (a + (b - a) / 4 * 2) ri.2 hl (by omega) (by omega) (by omega))
    have m2 := med_rng (S := S) (sw := ri.2) (n := S.length) (a := a + (b - a) / 4 * 2 - 1) (b := a + (b - a) / 4 * 2) (c := a + (b - a) / 4 * 2 + 1) (by omega) (by omega) (by omega)
    change (Go.Sort.medianAdjacent ltN S.toArray (a + (b - a) / 4 * 2) ri.2).1 < _ ∧ (Go.Sort.medianAdjacent ltN S.toArray (a + (b - a) / 4 * 2) ri.2).2 ≤ _ at m2
    generalize Go.Sort.medianAdjacent ltN S.toArray (a + (b - a) / 4 * 2) ri.2 = rj at *
    have c3 := sw_gen (us := [iK (a + (b - a) / 4 * 3)]) (fun _ => rfl) (medAdj_ S g (a + (b - a) / 4 * 3) rj.2 hl (by omega) (by omega) (by omega))
    have m3 := med_rng (S := S) (sw := rj.2) (n := S.length) (a := a + (b - a) / 4 * 3 - 1) (b := a + (b - a) / 4 * 3) (c := a + (b - a) / 4 * 3 + 1) (by omega) (by omega) (by omega)
    change (Go.Sort.medianAdjacent ltN S.toArray (a + (b - a) / 4 * 3) rj.2).1 < _ ∧ (Go.Sort.medianAdjacent ltN S.toArray (a + (b - a) / 4 * 3) rj.2).2 ≤ _ at m3
    generalize Go.Sort.medianAdjacent ltN S.toArray (a + (b - a) / 4 * 3) rj.2 = rk at *
    have c4 := sw_gen (us := [iK ri.1, iK rj.1, iK rk.1]) (fun _ => rfl) (median_ S g ri.1 rj.1 rk.1 rk.2 hl m1.1 m2.1 m3.1 (by omega))
    have m4 := med_rng (S := S) (sw := rk.2) m1.1 m2.1 m3.1
    generalize Go.Sort.median ltN S.toArray ri.1 rj.1 rk.1 rk.2 = r at *
    refine LM.enter tt Try.func98 rfl rfl rfl (by kernel_rfl) rfl rfl rfl (fun o mo h => by rw [h.2]; rfl) fun F _ => ?_
    by_cases e0 : r.2 = 0
    · rw [if_pos e0]
      show LC _ _ _ _ (LRet _ _ fun o m => o = .ret (.t [iK r.1, iK 1]) ∧ _) _ _
      exact wk trueW trueW trueW
    · rw [if_neg e0]
      by_cases e1 : r.2 = 12
      · rw [if_pos e1]
        show LC _ _ _ _ (LRet _ _ fun o m => o = .ret (.t [iK r.1, iK 2]) ∧ _) _ _
        exact wk trueW trueW trueW
      · rw [if_neg e1]
        show LC _ _ _ _ (LRet _ _ fun o m => o = .ret (.t [iK r.1, iK 0]) ∧ _) _ _
        exact wk trueW trueW trueW
  · rw [if_neg h50]
    have c4 := sw_gen (us := [iK (a + (b - a) / 4 * 1), iK (a + (b - a) / 4 * 2), iK (a + (b - a) / 4 * 3)]) (fun _ => rfl) (median_ S g (a + (b - a) / 4 * 1) (a + (b - a) / 4 * 2) (a + (b - a) / 4 * 3) 0 hl (by omega) (by omega) (by omega) (by omega))
    have m4 := med_rng (S := S) (sw := 0) (n := S.length) (a := a + (b - a) / 4 * 1) (b := a + (b - a) / 4 * 2) (c := a + (b - a) / 4 * 3) (by omega) (by omega) (by omega)
    generalize Go.Sort.median ltN S.toArray (a + (b - a) / 4 * 1) (a + (b - a) / 4 * 2) (a + (b - a) / 4 * 3) 0 = r at *
    refine LM.enter tt Try.func98 rfl rfl rfl (by kernel_rfl) rfl rfl rfl (fun o mo h => by rw [h.2]; rfl) fun F _ => ?_
    by_cases e0 : r.2 = 0
    · rw [if_pos e0]
      show LC _ _ _ _ (LRet _ _ fun o m => o = .ret (.t [iK r.1, iK 1]) ∧ _) _ _
      exact wk trueW trueW trueW
    · rw [if_neg e0]
      by_cases e1 : r.2 = 12
      · rw [if_pos e1]
        show LC _ _ _ _ (LRet _ _ fun o m => o = .ret (.t [iK r.1, iK 2]) ∧ _) _ _
        exact wk trueW trueW trueW
      · rw [if_neg e1]
        show LC _ _ _ _ (LRet _ _ fun o m => o = .ret (.t [iK r.1, iK 0]) ∧ _) _ _
        exact wk trueW trueW trueW
end Jq
end Lf
end Go.Proofs.Ytgjoecocahpfhaa

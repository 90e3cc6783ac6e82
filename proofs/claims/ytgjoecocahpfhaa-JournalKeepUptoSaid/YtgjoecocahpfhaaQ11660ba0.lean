/- A part of the proof: texts joined. -/
import Derived.Test.YtgjoecocahpfhaaQ10d9e996
namespace Go.Proofs.Ytgjoecocahpfhaa
open Go.RowKit Rg
set_option linter.unusedVariables false
set_option maxRecDepth 100000
namespace Lf
def LXit (id : Nat) (e1 : Env) (m1 : Mem) : LQ
  | .exit i, env, mem => i = id ∧ Sub env mem e1 m1
  | _, _, _ => False
theorem LC.afterW {P : Program} {F : Fr0} {N : Nat} {Q : LQ} {env : Env} {mem : Mem} {c rest : Code} {id : Nat} (e1 : Env) (m1 : Mem) (ha : LC P F N c (LXit id e1 m1) env mem) (hb : LC P F N rest Q e1 m1) : LC P F N c (LBlk id (LThen (fun env mem => LC P F N rest Q env mem) Q)) env mem :=
  ha.mono fun e en me h => by
    cases e with
    | exit i =>
      obtain ⟨rfl, hs⟩ := h
      simp only [LBlk, Nat.beq_refl]
      exact hb.weak hs
    | _ => exact h.elim
namespace Jq
section
variable {p : Nat → Bool} {S : List Nat} {i j : Nat}
theorem su_step (h : i ≤ j) (hp : p (S.getD i default) = true) : Go.Sort.scanUp p S.toArray j i = Go.Sort.scanUp p S.toArray j (i + 1) := by
  conv => lhs; rw [Go.Sort.scanUp]
  rw [arr_get, hp, if_pos (by simpa using h)]
theorem su_end (h : ¬ (i ≤ j ∧ p (S.getD i default) = true)) : Go.Sort.scanUp p S.toArray j i = i := by
  rw [Go.Sort.scanUp, arr_get, if_neg (by simpa using h)]
theorem sdn_step (h : i ≤ j) (h0 : 0 < j) (hp : p (S.getD j default) = true) : Go.Sort.scanDown p S.toArray i j = Go.Sort.scanDown p S.toArray i (j - 1) := by
  cases j with
  | zero => omega
  | succ j => rw [Go.Sort.scanDown, arr_get, hp, if_pos (by simpa using h)]; rfl
theorem sdn_end (h : ¬ (i ≤ j ∧ p (S.getD j default) = true)) : Go.Sort.scanDown p S.toArray i j = j := by
  cases j with
  | zero => rfl
  | succ j => rw [Go.Sort.scanDown, arr_get, if_neg (by simpa using h)]
end
theorem su_ge (p : Nat → Bool) (d : Array Nat) (j : Nat) : ∀ (n i : Nat), j + 1 - i ≤ n → i ≤ Go.Sort.scanUp p d j i ∧ (i ≤ j + 1 → Go.Sort.scanUp p d j i ≤ j + 1) := by
  intro n
  induction n with
  | zero =>
    intro i h
    rw [Go.Sort.scanUp, if_neg (by simp; intro h2; omega)]
    exact ⟨Nat.le_refl _, id⟩
  | succ n ih =>
    intro i h
    rw [Go.Sort.scanUp]
    split
    · rename_i hc
      have hij : i ≤ j := by simp at hc; exact hc.1
      have := ih (i + 1) (by omega)
      exact ⟨by omega, fun _ => this.2 (by omega)⟩
    · exact ⟨Nat.le_refl _, id⟩
theorem sdn_le (p : Nat → Bool) (d : Array Nat) (i : Nat) : ∀ (j : Nat), Go.Sort.scanDown p d i j ≤ j ∧ (i ≤ j + 1 → i ≤ Go.Sort.scanDown p d i j + 1)
  | 0 => ⟨Nat.le_refl _, id⟩
  | j + 1 => by
    rw [Go.Sort.scanDown]
    split
    · rename_i hc
      have hij : i ≤ j + 1 := by simp at hc; exact hc.1
      have := sdn_le p d i j
      exact ⟨by omega, fun _ => this.2 hij⟩
    · exact ⟨Nat.le_refl _, id⟩
theorem su_stop (p : Nat → Bool) (d : Array Nat) (j : Nat) : ∀ (n i : Nat), j + 1 - i ≤ n → Go.Sort.scanUp p d j i ≤ j → p d[Go.Sort.scanUp p d j i]! = false := by
  intro n
  induction n with
  | zero =>
    intro i h h2
    rw [Go.Sort.scanUp, if_neg (by simp; intro h2; omega)] at h2
    omega
  | succ n ih =>
    intro i h h2
    rw [Go.Sort.scanUp] at h2 ⊢
    split
    · rename_i hc
      rw [if_pos hc] at h2
      have hij : i ≤ j := by simp at hc; exact hc.1
      exact ih (i + 1) (by omega) h2
    · rename_i hc
      rw [if_neg hc] at h2
      simp at hc
      simpa using hc h2
theorem sdn_stop (p : Nat → Bool) (d : Array Nat) (i : Nat) (h0 : 0 < i) : ∀ (j : Nat), i ≤ Go.Sort.scanDown p d i j → p d[Go.Sort.scanDown p d i j]! = false
  | 0, h => by rw [Go.Sort.scanDown] at h; omega
  | j + 1, h => by
    rw [Go.Sort.scanDown] at h ⊢
    split
    · rename_i hc
      rw [if_pos hc] at h
      exact sdn_stop p d i h0 j h
    · rename_i hc
      rw [if_neg hc] at h
      simp at hc
      simpa using hc h
abbrev lo_ (S : List Nat) (a : Nat) : Nat → Bool := fun x => ltN x S.toArray[a]!
abbrev nlo_ (S : List Nat) (a : Nat) : Nat → Bool := fun x => !ltN x S.toArray[a]!
theorem lo_iff {S : List Nat} {a x : Nat} : lo_ S a x = true ↔ x < S.getD a default := by unfold lo_ ltN; rw [arr_get]; simp
theorem nlo_iff {S : List Nat} {a x : Nat} : nlo_ S a x = true ↔ ¬ x < S.getD a default := by unfold nlo_ ltN; rw [arr_get]; simp
theorem ne_of {S : List Nat} {a i j I J : Nat} (hI : Go.Sort.scanUp (lo_ S a) S.toArray j i = I) (hJ : Go.Sort.scanDown (nlo_ S a) S.toArray I j = J) (h0 : 0 < I) (h : ¬ J < I) : I < J := by
  have h1 := su_stop (lo_ S a) S.toArray j (j + 1 - i) i (Nat.le_refl _)
  have h2 := sdn_stop (nlo_ S a) S.toArray I h0 j
  have h3 := (sdn_le (nlo_ S a) S.toArray I j).1
  rw [hI] at h1
  rw [hJ] at h2 h3
  rcases Nat.lt_or_ge I J with h4 | h4
  · exact h4
  · obtain rfl : I = J := by omega
    have e1 := h1 h3
    have e2 := h2 (Nat.le_refl _)
    rw [arr_get] at e1 e2
    have n1 : ¬ S.getD I default < S.getD a default := fun h => by rw [lo_iff.2 h] at e1; cases e1
    rw [nlo_iff.2 n1] at e2
    cases e2
theorem pl_end {S : List Nat} {a i j I J : Nat} (hI : Go.Sort.scanUp (lo_ S a) S.toArray j i = I) (hJ : Go.Sort.scanDown (nlo_ S a) S.toArray I j = J) (h : J < I) : Go.Sort.partLoop ltN a i j S.toArray = (J, S.toArray) := by
  rw [Go.Sort.partLoop]
  unfold lo_ at hI
  unfold nlo_ at hJ
  simp only [hI, hJ]
  rw [if_pos h]
theorem pl_go {S : List Nat} {a i j I J : Nat} (hI : Go.Sort.scanUp (lo_ S a) S.toArray j i = I) (hJ : Go.Sort.scanDown (nlo_ S a) S.toArray I j = J) (h : ¬ J < I) (h1 : i ≤ I) (h2 : J ≤ j) (h3 : 0 < I) : Go.Sort.partLoop ltN a i j S.toArray = Go.Sort.partLoop ltN a (I + 1) (J - 1) ((S.set I (S.getD J default)).set J (S.getD I default)).toArray := by
  conv => lhs; rw [Go.Sort.partLoop]
  unfold lo_ at hI
  unfold nlo_ at hJ
  simp only [hI, hJ]
  rw [if_neg (by omega), dif_pos (by omega), swp_l]
theorem pl_rng (a b : Nat) : ∀ (n i j : Nat) (S : List Nat), j + 1 - i ≤ n → 0 < i → i ≤ j + 1 → j < b → (Go.Sort.partLoop ltN a i j S.toArray).1 < b ∧ (Go.Sort.partLoop ltN a i j S.toArray).2.size = S.length := by
  intro n
  induction n with
  | zero =>
    intro i j S h h0 hij hjb
    have rI := su_ge (lo_ S a) S.toArray j (j + 1 - i) i (Nat.le_refl _)
    have rJ := sdn_le (nlo_ S a) S.toArray (Go.Sort.scanUp (lo_ S a) S.toArray j i) j
    rw [pl_end rfl rfl (by omega)]
    exact ⟨by dsimp only; omega, by simp⟩
  | succ n ih =>
    intro i j S h h0 hij hjb
    have rI := su_ge (lo_ S a) S.toArray j (j + 1 - i) i (Nat.le_refl _)
    have rJ := sdn_le (nlo_ S a) S.toArray (Go.Sort.scanUp (lo_ S a) S.toArray j i) j
    generalize hI : Go.Sort.scanUp (lo_ S a) S.toArray j i = I at *
    generalize hJ : Go.Sort.scanDown (nlo_ S a) S.toArray I j = J at *
    by_cases hc : J < I
    · rw [pl_end hI hJ hc]
      exact ⟨by dsimp only; omega, by simp⟩
    · have hne := ne_of hI hJ (by omega) hc
      rw [pl_go hI hJ hc rI.1 rJ.1 (by omega)]
      have := ih (I + 1) (J - 1) ((S.set I (S.getD J default)).set J (S.getD I default)) (by omega) (by omega) (by omega) (by omega)
      rwa [set_len2] at this
theorem part_end {D S : List Nat} {a b pivot I J : Nat} (hS : S = (D.set a (D.getD pivot default)).set pivot (D.getD a default)) (hI : Go.Sort.scanUp (lo_ S a) S.toArray (b - 1) (a + 1) = I) (hJ : Go.Sort.scanDown (nlo_ S a) S.toArray I (b - 1) = J) (h : J < I) : Go.Sort.partition ltN D.toArray a b pivot = (J, true, ((S.set J (S.getD a default)).set a (S.getD J default)).toArray) := by
  rw [Go.Sort.partition, swp_l, ← hS]
  unfold lo_ at hI
  unfold nlo_ at hJ
  simp only [hI, hJ]
  rw [if_pos h, swp_l]
theorem part_go {D S : List Nat} {a b pivot I J : Nat} (hS : S = (D.set a (D.getD pivot default)).set pivot (D.getD a default)) (hI : Go.Sort.scanUp (lo_ S a) S.toArray (b - 1) (a + 1) = I) (hJ : Go.Sort.scanDown (nlo_ S a) S.toArray I (b - 1) = J) (h : ¬ J < I) {r : Nat × Array Nat} (hr : Go.Sort.partLoop ltN a (I + 1) (J - 1) ((S.set I (S.getD J default)).set J (S.getD I default)).toArray = r) : Go.Sort.partition ltN D.toArray a b pivot = (r.1, false, Go.Sort.swp r.2 r.1 a) := by
  rw [Go.Sort.partition, swp_l, ← hS]
  unfold lo_ at hI
  unfold nlo_ at hJ
  simp only [hI, hJ]
  rw [if_neg (by omega), swp_l, hr]
set_option maxHeartbeats 8000000 in
theorem part_ (D : List Nat) (g a b pivot : Nat) (hl : D.length < 100000000) (h1 : a ≤ pivot) (h2 : pivot < b) (hb : b ≤ D.length) : LM Try.prog 103 [sQ g D.length, iK a, iK b, iK pivot] (mQ g D) fun o m => o = .ret (.t [iK (Go.Sort.partition ltN D.toArray a b pivot).1, .k (.bool (Go.Sort.partition ltN D.toArray a b pivot).2.1)]) ∧ m = mQ g (Go.Sort.partition ltN D.toArray a b pivot).2.2.toList := by
  generalize hR : Go.Sort.partition ltN D.toArray a b pivot = R
  have hel0 : (D.map uK).length = D.length := List.length_map _
  have hel1 : ((D.set a (D.getD pivot default)).map uK).length = D.length := by rw [List.length_map, List.length_set]
  refine LM.enter tt Try.func103 rfl rfl rfl (by kernel_rfl) rfl rfl rfl (fun o mo h => by rw [h.2]; rfl) fun F _ => ?_
  refine wk ?_ trueW trueW
  generalize hSe : (D.set a (D.getD pivot default)).set pivot (D.getD a default) = S at *
  have hSl : S.length = D.length := by rw [← hSe]; exact set_len2 _ _ _ _ _
  have hel : (S.map uK).length = S.length := List.length_map _
  have rI := su_ge (lo_ S a) S.toArray (b - 1) (b - 1 + 1 - (a + 1)) (a + 1) (Nat.le_refl _)
  generalize hI : Go.Sort.scanUp (lo_ S a) S.toArray (b - 1) (a + 1) = I at rI
  refine LC.afterW [(0, sQ g D.length), (1, iK a), (10, iK I), (11, iK (b - 1))] (mQ g S) ?_ ?_
  · refine LC.loopN (fun i => [(0, .w 1000 g 1 0 D.length), (1, .k (.int .i64 ((a : Nat) : Int))), (10, .k (.int .i64 ((i : Nat) : Int))), (11, .k (.int .i64 (((b - 1) : Nat) : Int)))]) (fun i => [(1000, .w 24 1 g (S.map uK))]) (fun i => a < i ∧ i ≤ (b - 1) + 1 ∧ Go.Sort.scanUp (lo_ S a) S.toArray (b - 1) i = I) (((b - 1) + 1 - ·)) ((a + 1)) ⟨by omega, by omega, hI⟩ ⟨rfl, rfl, rfl, rfl, trivial⟩ ⟨rfl, trivial⟩ rfl rfW rfW ?_
    rintro i ⟨ha, hib, hI'⟩
    have c1 := Less_ (S.getD i default) (S.getD a default)
    by_cases hc : i ≤ (b - 1)
    · by_cases hlt : S.getD i default < S.getD a default
      · rw [show ltN _ _ = true from decide_eq_true hlt] at c1
        rw [su_step hc (lo_iff.2 hlt)] at hI'
        have hok : a < i + 1 ∧ i + 1 ≤ (b - 1) + 1 ∧ Go.Sort.scanUp (lo_ S a) S.toArray (b - 1) (i + 1) = I := ⟨by omega, by omega, hI'⟩
        have hmu : (b - 1) + 1 - (i + 1) < (b - 1) + 1 - i := by omega
        clear hI' hI hR hlt
        exact wk trueW trueW trueW
      · rw [show ltN _ _ = false from decide_eq_false hlt] at c1
        rw [su_end fun h => hlt (lo_iff.1 h.2)] at hI'
        subst hI'
        clear hI hR hlt
        refine wk ?_ trueW trueW
        exact ⟨rfl, by repeat (first | exact True.intro | refine And.intro rfl ?_), by repeat (first | exact True.intro | refine And.intro rfl ?_), rfl⟩
    · rw [su_end fun h => hc h.1] at hI'
      subst hI'
      clear hI hR
      refine wk ?_ trueW trueW
      exact ⟨rfl, by repeat (first | exact True.intro | refine And.intro rfl ?_), by repeat (first | exact True.intro | refine And.intro rfl ?_), rfl⟩
  have rJ := sdn_le (nlo_ S a) S.toArray I (b - 1)
  generalize hJ : Go.Sort.scanDown (nlo_ S a) S.toArray I (b - 1) = J at rJ
  have rI2 := rI.2 (by omega)
  have rJ2 := rJ.2 (by omega)
  refine wk ?_ trueW trueW
  refine LC.afterW [(0, sQ g D.length), (1, iK a), (10, iK I), (11, iK J)] (mQ g S) ?_ ?_
  · refine LC.loopN (fun j => [(0, .w 1000 g 1 0 D.length), (1, .k (.int .i64 ((a : Nat) : Int))), (10, .k (.int .i64 ((I : Nat) : Int))), (11, .k (.int .i64 ((j : Nat) : Int)))]) (fun j => [(1000, .w 24 1 g (S.map uK))]) (fun j => I ≤ j + 1 ∧ j ≤ (b - 1) ∧ Go.Sort.scanDown (nlo_ S a) S.toArray I j = J) ((fun j => j)) ((b - 1)) ⟨by omega, Nat.le_refl _, hJ⟩ ⟨rfl, rfl, rfl, rfl, trivial⟩ ⟨rfl, trivial⟩ rfl rfW rfW ?_
    rintro j ⟨hj1, hj2, hJ'⟩
    have c1 := Less_ (S.getD j default) (S.getD a default)
    by_cases hc : I ≤ j
    · by_cases hlt : S.getD j default < S.getD a default
      · rw [show ltN _ _ = true from decide_eq_true hlt] at c1
        rw [sdn_end fun h => nlo_iff.1 h.2 hlt] at hJ'
        subst hJ'
        clear hI hJ hR hlt
        refine wk ?_ trueW trueW
        exact ⟨rfl, by repeat (first | exact True.intro | refine And.intro rfl ?_), by repeat (first | exact True.intro | refine And.intro rfl ?_), rfl⟩
      · rw [show ltN _ _ = false from decide_eq_false hlt] at c1
        rw [sdn_step hc (by omega) (nlo_iff.2 hlt)] at hJ'
        have hok : I ≤ j - 1 + 1 ∧ j - 1 ≤ (b - 1) ∧ Go.Sort.scanDown (nlo_ S a) S.toArray I (j - 1) = J := ⟨by omega, by omega, hJ'⟩
        have hmu : j - 1 < j := by omega
        clear hJ' hI hJ hR hlt
        exact wk trueW trueW trueW
    · rw [sdn_end fun h => hc h.1] at hJ'
      subst hJ'
      clear hI hJ hR
      refine wk ?_ trueW trueW
      exact ⟨rfl, by repeat (first | exact True.intro | refine And.intro rfl ?_), by repeat (first | exact True.intro | refine And.intro rfl ?_), rfl⟩
  by_cases hIJ : J < I
  · have hR2 := (part_end hSe.symm hI hJ hIJ).symm.trans hR
    have hel2 : ((S.set J (S.getD a default)).map uK).length = S.length := by rw [List.length_map, List.length_set]
    clear hI hJ hR hSe
    subst hR2
    exact wk trueW trueW trueW
  · generalize hr : Go.Sort.partLoop ltN a (I + 1) (J - 1) ((S.set I (S.getD J default)).set J (S.getD I default)).toArray = r
    have hR2 := (part_go hSe.symm hI hJ hIJ hr).symm.trans hR
    have hne := ne_of hI hJ (by omega) hIJ
    have hel2 : ((S.set I (S.getD J default)).map uK).length = S.length := by rw [List.length_map, List.length_set]
    have hTl : ((S.set I (S.getD J default)).set J (S.getD I default)).length = D.length := by rw [set_len2]; exact hSl
    clear hI hJ hR hSe
    subst hR2
    refine wk ?_ trueW trueW
    refine LC.afterW [(0, sQ g D.length), (1, iK a), (11, iK r.1)] (mQ g r.2.toList) ?_ ?_
    · refine LC.loop5 (fun i j T (_u3 : Unit) (_u4 : Unit) => [(0, .w 1000 g 1 0 D.length), (1, .k (.int .i64 ((a : Nat) : Int))), (10, .k (.int .i64 ((i : Nat) : Int))), (11, .k (.int .i64 ((j : Nat) : Int)))]) (fun i j T (_u3 : Unit) (_u4 : Unit) => [(1000, .w 24 1 g (T.map uK))]) (fun i j T (_u3 : Unit) (_u4 : Unit) => a < i ∧ i ≤ j + 1 ∧ j < b ∧ T.length = D.length ∧ Go.Sort.partLoop ltN a i j T.toArray = r) ((b - ·)) (I + 1) (J - 1) ((S.set I (S.getD J default)).set J (S.getD I default)) () () ⟨by omega, by omega, by omega, hTl, hr⟩ ⟨rfl, rfl, rfl, rfl, trivial⟩ ⟨rfl, trivial⟩ rfl rfW rfW ?_
      clear hr hTl hel2 hel
      rintro i0 j0 T _ _ ⟨ha, hij, hjb, hTl, hr⟩
      have hel : (T.map uK).length = T.length := List.length_map _
      have rI := su_ge (lo_ T a) T.toArray j0 (j0 + 1 - i0) i0 (Nat.le_refl _)
      generalize hI : Go.Sort.scanUp (lo_ T a) T.toArray j0 i0 = I at rI
      refine LC.block ?_
      refine LC.seq (LC.block ?_)
      refine LC.afterW [(0, sQ g D.length), (1, iK a), (10, iK I), (11, iK j0)] (mQ g T) ?_ ?_
      · refine LC.loopN (fun i => [(0, .w 1000 g 1 0 D.length), (1, .k (.int .i64 ((a : Nat) : Int))), (10, .k (.int .i64 ((i : Nat) : Int))), (11, .k (.int .i64 ((j0 : Nat) : Int)))]) (fun i => [(1000, .w 24 1 g (T.map uK))]) (fun i => a < i ∧ i ≤ j0 + 1 ∧ Go.Sort.scanUp (lo_ T a) T.toArray j0 i = I) ((j0 + 1 - ·)) (i0) ⟨by omega, by omega, hI⟩ ⟨rfl, rfl, rfl, rfl, trivial⟩ ⟨rfl, trivial⟩ rfl rfW rfW ?_
        rintro i ⟨ha, hib, hI'⟩
        have c1 := Less_ (T.getD i default) (T.getD a default)
        by_cases hc : i ≤ j0
        · by_cases hlt : T.getD i default < T.getD a default
          · rw [show ltN _ _ = true from decide_eq_true hlt] at c1
            rw [su_step hc (lo_iff.2 hlt)] at hI'
            have hok : a < i + 1 ∧ i + 1 ≤ j0 + 1 ∧ Go.Sort.scanUp (lo_ T a) T.toArray j0 (i + 1) = I := ⟨by omega, by omega, hI'⟩
            have hmu : j0 + 1 - (i + 1) < j0 + 1 - i := by omega
            clear hI' hI hr hlt
            exact wk trueW trueW trueW
          · rw [show ltN _ _ = false from decide_eq_false hlt] at c1
            rw [su_end fun h => hlt (lo_iff.1 h.2)] at hI'
            subst hI'
            clear hI hr hlt
            refine wk ?_ trueW trueW
            exact ⟨rfl, by repeat (first | exact True.intro | refine And.intro rfl ?_), by repeat (first | exact True.intro | refine And.intro rfl ?_), rfl⟩
        · rw [su_end fun h => hc h.1] at hI'
          subst hI'
          clear hI hr
          refine wk ?_ trueW trueW
          exact ⟨rfl, by repeat (first | exact True.intro | refine And.intro rfl ?_), by repeat (first | exact True.intro | refine And.intro rfl ?_), rfl⟩
      have rJ := sdn_le (nlo_ T a) T.toArray I j0
      generalize hJ : Go.Sort.scanDown (nlo_ T a) T.toArray I j0 = J at rJ
      have rI2 := rI.2 (by omega)
      have rJ2 := rJ.2 (by omega)
      refine wk ?_ trueW trueW
      refine LC.afterW [(0, sQ g D.length), (1, iK a), (10, iK I), (11, iK J)] (mQ g T) ?_ ?_
      · refine LC.loopN (fun j => [(0, .w 1000 g 1 0 D.length), (1, .k (.int .i64 ((a : Nat) : Int))), (10, .k (.int .i64 ((I : Nat) : Int))), (11, .k (.int .i64 ((j : Nat) : Int)))]) (fun j => [(1000, .w 24 1 g (T.map uK))]) (fun j => I ≤ j + 1 ∧ j ≤ j0 ∧ Go.Sort.scanDown (nlo_ T a) T.toArray I j = J) ((fun j => j)) (j0) ⟨by omega, Nat.le_refl _, hJ⟩ ⟨rfl, rfl, rfl, rfl, trivial⟩ ⟨rfl, trivial⟩ rfl rfW rfW ?_
        rintro j ⟨hj1, hj2, hJ'⟩
        have c1 := Less_ (T.getD j default) (T.getD a default)
        by_cases hc : I ≤ j
        · by_cases hlt : T.getD j default < T.getD a default
          · rw [show ltN _ _ = true from decide_eq_true hlt] at c1
            rw [sdn_end fun h => nlo_iff.1 h.2 hlt] at hJ'
            subst hJ'
            clear hI hJ hr hlt
            refine wk ?_ trueW trueW
            exact ⟨rfl, by repeat (first | exact True.intro | refine And.intro rfl ?_), by repeat (first | exact True.intro | refine And.intro rfl ?_), rfl⟩
          · rw [show ltN _ _ = false from decide_eq_false hlt] at c1
            rw [sdn_step hc (by omega) (nlo_iff.2 hlt)] at hJ'
            have hok : I ≤ j - 1 + 1 ∧ j - 1 ≤ j0 ∧ Go.Sort.scanDown (nlo_ T a) T.toArray I (j - 1) = J := ⟨by omega, by omega, hJ'⟩
            have hmu : j - 1 < j := by omega
            clear hJ' hI hJ hr hlt
            exact wk trueW trueW trueW
        · rw [sdn_end fun h => hc h.1] at hJ'
          subst hJ'
          clear hI hJ hr
          refine wk ?_ trueW trueW
          exact ⟨rfl, by repeat (first | exact True.intro | refine And.intro rfl ?_), by repeat (first | exact True.intro | refine And.intro rfl ?_), rfl⟩
      by_cases hIJ : J < I
      · have e := pl_end hI hJ hIJ
        rw [e] at hr
        subst hr
        clear hI hJ e
        refine wk ?_ trueW trueW
        refine lblk_ne rfl ?_
        exact ⟨rfl, by repeat (first | exact True.intro | refine And.intro rfl ?_), by repeat (first | exact True.intro | refine And.intro rfl ?_), rfl⟩
      · have hne := ne_of hI hJ (by omega) hIJ
        rw [pl_go hI hJ hIJ rI.1 rJ.1 (by omega)] at hr
        have hel2 : ((T.set I (T.getD J default)).map uK).length = T.length := by rw [List.length_map, List.length_set]
        have hok : a < I + 1 ∧ I + 1 ≤ J - 1 + 1 ∧ J - 1 < b ∧ ((T.set I (T.getD J default)).set J (T.getD I default)).length = D.length ∧ Go.Sort.partLoop ltN a (I + 1) (J - 1) ((T.set I (T.getD J default)).set J (T.getD I default)).toArray = r := ⟨by omega, by omega, by omega, by rw [set_len2]; exact hTl, hr⟩
        have hmu : b - (I + 1) < b - i0 := by omega
        clear hI hJ hr
        exact wk trueW trueW trueW
    · have hrg := pl_rng a b _ (I + 1) (J - 1) _ (Nat.le_refl _) (by omega) (by omega) (by omega) |> fun h => (hr ▸ h : r.1 < b ∧ r.2.size = ((S.set I (S.getD J default)).set J (S.getD I default)).length)
      clear hr
      obtain ⟨j, Q⟩ := r
      obtain ⟨T⟩ := Q
      obtain ⟨g1, g2⟩ := hrg
      have hTl2 : T.length = D.length := by rw [← hTl]; exact g2
      clear g2 hTl hel2 hel
      have hel : (T.map uK).length = T.length := List.length_map _
      have hel2 : ((T.set j (T.getD a default)).map uK).length = T.length := by rw [List.length_map, List.length_set]
      have g1 : j < b := g1
      have e := swp_l T j a
      dsimp only
      rw [e]
      clear e
      exact wk trueW trueW trueW
end Jq
end Lf
end Go.Proofs.Ytgjoecocahpfhaa

/- A part of the proof: texts joined. -/
import Derived.Test.YtgjoecocahpfhaaQ143b902b
namespace Go.Proofs.Ytgjoecocahpfhaa
open Go.RowKit Rg
set_option linter.unusedVariables false
set_option maxRecDepth 100000
namespace Lf
theorem LC.afterB {P : Program} {F : Fr0} {N : Nat} {Q : LQ} {env : Env} {mem : Mem} {c : Code} {id : Nat} (e1 : Env) (m1 : Mem) (ha : LC P F N c (LXit id e1 m1) env mem) (hb : ∀ env mem, Sub env mem e1 m1 → Q .normal env mem) : LC P F N c (LBlk id Q) env mem :=
  ha.mono fun e en me h => by
    cases e with
    | exit i =>
      obtain ⟨rfl, hs⟩ := h
      simp only [LBlk, Nat.beq_refl]
      exact hb _ _ hs
    | _ => exact h.elim
namespace Jq
theorem rv_go {i j : Nat} {S : List Nat} (h : i < j) : Go.Sort.reverseLoop i j S.toArray = Go.Sort.reverseLoop (i + 1) (j - 1) ((S.set i (S.getD j default)).set j (S.getD i default)).toArray := by
  conv => lhs; rw [Go.Sort.reverseLoop]
  rw [if_pos h, swp_l]
theorem rv_end {i j : Nat} {d : Array Nat} (h : ¬ i < j) : Go.Sort.reverseLoop i j d = d := by rw [Go.Sort.reverseLoop, if_neg h]
set_option maxHeartbeats 4000000 in
theorem rev_ (D : List Nat) (g a b : Nat) (hl : D.length < 100000000) (hab : a < b) (hb : b ≤ D.length) : LM Try.prog 99 [sQ g D.length, iK a, iK b] (mQ g D) fun o m => o = .ret (.t []) ∧ m = mQ g (Go.Sort.reverseRange D.toArray a b).toList := by
  generalize hR : Go.Sort.reverseRange D.toArray a b = R
  unfold Go.Sort.reverseRange at hR
  have hel0 : (D.map uK).length = D.length := List.length_map _
  refine LM.enter tt Try.func99 rfl rfl rfl (by kernel_rfl) rfl rfl rfl (fun o mo h => by rw [h.2]; rfl) fun F _ => ?_
  refine wk ?_ trueW trueW
  refine LC.loop5 (fun i j S (_u3 : Unit) (_u4 : Unit) => [(0, .w 1000 g 1 0 D.length), (6, .k (.int .i64 ((i : Nat) : Int))), (7, .k (.int .i64 ((j : Nat) : Int)))]) (fun i j S (_u3 : Unit) (_u4 : Unit) => [(1000, .w 24 1 g (S.map uK))]) (fun i j S (_u3 : Unit) (_u4 : Unit) => i ≤ j + 1 ∧ j < b ∧ S.length = D.length ∧ Go.Sort.reverseLoop i j S.toArray = R) ((b - ·)) (a) (b - 1) (D) () () ⟨by omega, by omega, rfl, hR⟩ ⟨rfl, rfl, rfl, trivial⟩ ⟨rfl, trivial⟩ rfl rfW rfW ?_
  clear hR hel0
  rintro i j S _ _ ⟨hij, hjb, hSl, hS⟩
  have hel : (S.map uK).length = S.length := List.length_map _
  by_cases hc : i < j
  · rw [rv_go hc] at hS
    have hok : i + 1 ≤ j - 1 + 1 ∧ j - 1 < b ∧ ((S.set i (S.getD j default)).set j (S.getD i default)).length = D.length ∧ Go.Sort.reverseLoop (i + 1) (j - 1) ((S.set i (S.getD j default)).set j (S.getD i default)).toArray = R := ⟨by omega, by omega, by rw [set_len2]; exact hSl, hS⟩
    have hel2 : ((S.set i (S.getD j default)).map uK).length = S.length := by rw [List.length_map, List.length_set]
    have hmu : b - (i + 1) < b - i := by omega
    clear hS
    exact wk trueW trueW trueW
  · rw [rv_end hc] at hS
    have e := toA hS
    rw [← e]
    clear hS e
    exact wk trueW trueW trueW
theorem ss_go {b i : Nat} {S : List Nat} (h : i < b) (h2 : ¬ S.getD i default < S.getD (i - 1) default) : Go.Sort.scanSorted ltN S.toArray b i = Go.Sort.scanSorted ltN S.toArray b (i + 1) := by
  conv => lhs; rw [Go.Sort.scanSorted]
  rw [arr_get, arr_get, if_pos (by simp at h2 ⊢; exact ⟨h, h2⟩)]
theorem ss_end {b i : Nat} {S : List Nat} (h : ¬ (i < b ∧ ¬ S.getD i default < S.getD (i - 1) default)) : Go.Sort.scanSorted ltN S.toArray b i = i := by
  rw [Go.Sort.scanSorted, arr_get, arr_get, if_neg (by simpa using h)]
theorem ss_rng {b : Nat} (d : Array Nat) : ∀ (n i : Nat), b - i ≤ n → i ≤ b → i ≤ Go.Sort.scanSorted ltN d b i ∧ Go.Sort.scanSorted ltN d b i ≤ b := by
  intro n
  induction n with
  | zero =>
    intro i h h2
    rw [Go.Sort.scanSorted, if_neg (by simp; intro h3; omega)]
    exact ⟨Nat.le_refl _, h2⟩
  | succ n ih =>
    intro i h h2
    rw [Go.Sort.scanSorted]
    split
    · rename_i hc
      have hib : i < b := by simp at hc; exact hc.1
      have := ih (i + 1) (by omega) (by omega)
      exact ⟨by omega, this.2⟩
    · exact ⟨Nat.le_refl _, h2⟩
theorem sdw_go {j : Nat} {S : List Nat} (h : 1 ≤ j) (h2 : S.getD j default < S.getD (j - 1) default) : Go.Sort.shiftDown ltN j S.toArray = Go.Sort.shiftDown ltN (j - 1) ((S.set j (S.getD (j - 1) default)).set (j - 1) (S.getD j default)).toArray := by
  cases j with
  | zero => omega
  | succ j =>
    rw [Go.Sort.shiftDown, arr_get, arr_get, if_neg (by simpa using h2), swp_l]
    rfl
theorem sdw_end {j : Nat} {S : List Nat} (h : ¬ (1 ≤ j ∧ S.getD j default < S.getD (j - 1) default)) : Go.Sort.shiftDown ltN j S.toArray = S.toArray := by
  cases j with
  | zero => rfl
  | succ j => rw [Go.Sort.shiftDown, arr_get, arr_get, if_pos (by simpa using h)]
theorem sdw_size : ∀ (j : Nat) (d : Array Nat), (Go.Sort.shiftDown ltN j d).size = d.size
  | 0, d => rfl
  | j + 1, d => by
    rw [Go.Sort.shiftDown]
    split
    · rfl
    · rw [sdw_size j, Go.Sort.size_swp]
theorem sup_go {b j : Nat} {S : List Nat} (h : j < b) (h2 : S.getD j default < S.getD (j - 1) default) : Go.Sort.shiftUp ltN b j S.toArray = Go.Sort.shiftUp ltN b (j + 1) ((S.set j (S.getD (j - 1) default)).set (j - 1) (S.getD j default)).toArray := by
  conv => lhs; rw [Go.Sort.shiftUp]
  rw [if_pos h, arr_get, arr_get, if_neg (by simpa using h2), swp_l]
theorem sup_end {b j : Nat} {S : List Nat} (h : ¬ (j < b ∧ S.getD j default < S.getD (j - 1) default)) : Go.Sort.shiftUp ltN b j S.toArray = S.toArray := by
  rw [Go.Sort.shiftUp]
  split
  · rename_i h1
    rw [arr_get, arr_get, if_pos (by simp at h ⊢; exact h h1)]
  · rfl
theorem sup_size (b : Nat) : ∀ (n j : Nat) (d : Array Nat), b - j ≤ n → (Go.Sort.shiftUp ltN b j d).size = d.size := by
  intro n
  induction n with
  | zero =>
    intro j d h
    rw [Go.Sort.shiftUp, if_neg (by omega)]
  | succ n ih =>
    intro j d h
    rw [Go.Sort.shiftUp]
    split
    · split
      · rfl
      · rw [ih _ _ (by omega), Go.Sort.size_swp]
    · rfl
set_option maxHeartbeats 8000000 in
theorem partIns_ (D : List Nat) (g a b : Nat) (hl : D.length < 100000000) (hab : a < b) (hb : b ≤ D.length) : LM Try.prog 100 [sQ g D.length, iK a, iK b] (mQ g D) fun o m => o = .ret (.k (.bool (Go.Sort.partialInsertionSort ltN D.toArray a b).2)) ∧ m = mQ g (Go.Sort.partialInsertionSort ltN D.toArray a b).1.toList := by
  generalize hR : Go.Sort.partialInsertionSort ltN D.toArray a b = R
  unfold Go.Sort.partialInsertionSort at hR
  have hel0 : (D.map uK).length = D.length := List.length_map _
  refine LM.enter tt Try.func100 rfl rfl rfl (by kernel_rfl) rfl rfl rfl (fun o mo h => by rw [h.2]; rfl) fun F _ => ?_
  refine wk ?_ trueW trueW
  refine LC.loop5 (fun j i S (_u3 : Unit) (_u4 : Unit) => [(0, .w 1000 g 1 0 D.length), (1, .k (.int .i64 ((a : Nat) : Int))), (2, .k (.int .i64 ((b : Nat) : Int))), (7, .k (.int .i64 ((i : Nat) : Int))), (8, .k (.int .i64 ((j : Nat) : Int)))]) (fun j i S (_u3 : Unit) (_u4 : Unit) => [(1000, .w 24 1 g (S.map uK))]) (fun j i S (_u3 : Unit) (_u4 : Unit) => j ≤ 5 ∧ a + 1 ≤ i ∧ i ≤ b ∧ S.length = D.length ∧ Go.Sort.partialIns ltN a b (5 - j) i S.toArray = R) ((5 - ·)) (0) (a + 1) (D) () () ⟨by omega, by omega, by omega, rfl, hR⟩ ⟨rfl, rfl, rfl, rfl, rfl, trivial⟩ ⟨rfl, trivial⟩ rfl rfW rfW ?_
  clear hR hel0
  rintro j i S _ _ ⟨hj5, hai, hib, hSl, hS⟩
  have hel : (S.map uK).length = S.length := List.length_map _
  rcases Nat.lt_or_ge j 5 with h5 | h5
  · rw [show 5 - j = 5 - (j + 1) + 1 by omega, Go.Sort.partialIns] at hS
    dsimp only at hS
    have rI := ss_rng (b := b) S.toArray (b - i) i (Nat.le_refl _) hib
    generalize hI : Go.Sort.scanSorted ltN S.toArray b i = I at hS rI
    refine wk ?_ trueW trueW
    refine LC.afterW [(0, sQ g D.length), (1, iK a), (2, iK b), (7, iK I), (8, iK j)] (mQ g S) ?_ ?_
    · refine LC.loopN (fun i => [(0, .w 1000 g 1 0 D.length), (1, .k (.int .i64 ((a : Nat) : Int))), (2, .k (.int .i64 ((b : Nat) : Int))), (7, .k (.int .i64 ((i : Nat) : Int))), (8, .k (.int .i64 ((j : Nat) : Int)))]) (fun i => [(1000, .w 24 1 g (S.map uK))]) (fun i => a + 1 ≤ i ∧ i ≤ b ∧ Go.Sort.scanSorted ltN S.toArray b i = I) ((b - ·)) (i) ⟨hai, hib, hI⟩ ⟨rfl, rfl, rfl, rfl, rfl, trivial⟩ ⟨rfl, trivial⟩ rfl rfW rfW ?_
      rintro i ⟨hai, hib, hI'⟩
      have c1 := Less_ (S.getD i default) (S.getD (i - 1) default)
      by_cases hc : i < b
      · by_cases hlt : S.getD i default < S.getD (i - 1) default
        · rw [show ltN _ _ = true from decide_eq_true hlt] at c1
          rw [ss_end fun h => h.2 hlt] at hI'
          subst hI'
          clear hI hS hlt
          refine wk ?_ trueW trueW
          exact ⟨rfl, by repeat (first | exact True.intro | refine And.intro rfl ?_), by repeat (first | exact True.intro | refine And.intro rfl ?_), rfl⟩
        · rw [show ltN _ _ = false from decide_eq_false hlt] at c1
          rw [ss_go hc hlt] at hI'
          have hok : a + 1 ≤ i + 1 ∧ i + 1 ≤ b ∧ Go.Sort.scanSorted ltN S.toArray b (i + 1) = I := ⟨by omega, by omega, hI'⟩
          have hmu : b - (i + 1) < b - i := by omega
          clear hI' hI hS hlt
          exact wk trueW trueW trueW
      · rw [ss_end fun h => hc h.1] at hI'
        subst hI'
        clear hI hS c1
        refine wk ?_ trueW trueW
        exact ⟨rfl, by repeat (first | exact True.intro | refine And.intro rfl ?_), by repeat (first | exact True.intro | refine And.intro rfl ?_), rfl⟩
    clear hI
    by_cases hIb : I = b
    · rw [if_pos hIb] at hS
      subst hS
      exact wk trueW trueW trueW
    · rw [if_neg hIb] at hS
      by_cases h50 : b - a < 50
      · rw [if_pos h50] at hS
        subst hS
        exact wk trueW trueW trueW
      · rw [if_neg h50, swp_l] at hS
        have hel2 : ((S.set I (S.getD (I - 1) default)).map uK).length = S.length := by rw [List.length_map, List.length_set]
        have hS1l : ((S.set I (S.getD (I - 1) default)).set (I - 1) (S.getD I default)).length = D.length := by rw [set_len2]; exact hSl
        by_cases hd2 : I - a ≥ 2
        · rw [if_pos hd2] at hS
          generalize hQ : Go.Sort.shiftDown ltN (I - 1) ((S.set I (S.getD (I - 1) default)).set (I - 1) (S.getD I default)).toArray = Q at hS
          have hz : Q.toList.length = D.length := by rw [← hQ, Array.length_toList, sdw_size]; simpa using hS1l
          refine wk ?_ trueW trueW
          refine LC.afterW [(0, sQ g D.length), (1, iK a), (2, iK b), (7, iK I), (8, iK j)] (mQ g Q.toList) ?_ ?_
          · refine LC.loop2 (fun k T => [(0, .w 1000 g 1 0 D.length), (1, .k (.int .i64 ((a : Nat) : Int))), (2, .k (.int .i64 ((b : Nat) : Int))), (7, .k (.int .i64 ((I : Nat) : Int))), (8, .k (.int .i64 ((j : Nat) : Int))), (9, .k (.int .i64 ((k : Nat) : Int)))]) (fun k T => [(1000, .w 24 1 g (T.map uK))]) (fun k T => k ≤ I - 1 ∧ T.length = D.length ∧ Go.Sort.shiftDown ltN k T.toArray = Q) ((fun k => k)) (I - 1) (((S.set I (S.getD (I - 1) default)).set (I - 1) (S.getD I default))) ⟨Nat.le_refl _, hS1l, hQ⟩ ⟨rfl, rfl, rfl, rfl, rfl, rfl, trivial⟩ ⟨rfl, trivial⟩ rfl rfW rfW ?_
            clear hQ hS hz hel hel2 hS1l
            rintro k T ⟨hkI, hTl, hT⟩
            have helT : (T.map uK).length = T.length := List.length_map _
            have c1 := Less_ (T.getD k default) (T.getD (k - 1) default)
            by_cases hc : 1 ≤ k
            · by_cases hlt : T.getD k default < T.getD (k - 1) default
              · rw [show ltN _ _ = true from decide_eq_true hlt] at c1
                rw [sdw_go hc hlt] at hT
                have hok : k - 1 ≤ I - 1 ∧ ((T.set k (T.getD (k - 1) default)).set (k - 1) (T.getD k default)).length = D.length ∧ Go.Sort.shiftDown ltN (k - 1) ((T.set k (T.getD (k - 1) default)).set (k - 1) (T.getD k default)).toArray = Q := ⟨by omega, by rw [set_len2]; exact hTl, hT⟩
                have hel2 : ((T.set k (T.getD (k - 1) default)).map uK).length = T.length := by rw [List.length_map, List.length_set]
                have hmu : k - 1 < k := by omega
                clear hT hlt
                exact wk trueW trueW trueW
              · rw [show ltN _ _ = false from decide_eq_false hlt] at c1
                rw [sdw_end fun h => hlt h.2] at hT
                have e := toA hT
                rw [← e]
                clear hT hlt e
                refine wk ?_ trueW trueW
                refine lblk_ne rfl ?_
                exact ⟨rfl, by repeat (first | exact True.intro | refine And.intro rfl ?_), by repeat (first | exact True.intro | refine And.intro rfl ?_), rfl⟩
            · rw [sdw_end fun h => hc h.1] at hT
              have e := toA hT
              rw [← e]
              clear hT e c1
              refine wk ?_ trueW trueW
              exact ⟨rfl, by repeat (first | exact True.intro | refine And.intro rfl ?_), by repeat (first | exact True.intro | refine And.intro rfl ?_), rfl⟩
          clear hQ hel hel2 hS1l hSl
          rw [show Q = Q.toList.toArray from rfl] at hS
          generalize Q.toList = S2 at *
          have hSl : S2.length = D.length := hz
          have hel : (S2.map uK).length = S2.length := List.length_map _
          clear hz
          by_cases hbu : b - I ≥ 2
          · rw [if_pos hbu] at hS
            generalize hQ2 : Go.Sort.shiftUp ltN b (I + 1) S2.toArray = Q2 at hS
            have hz2 : Q2.toList.length = D.length := by rw [← hQ2, Array.length_toList, sup_size _ _ _ _ (Nat.le_refl _)]; simpa using hSl
            refine wk ?_ trueW trueW
            refine LC.afterB [(0, sQ g D.length), (1, iK a), (2, iK b), (7, iK I), (8, iK j)] (mQ g Q2.toList) ?_ (fun env mem hs => ?_)
            · refine LC.loop2 (fun k T => [(0, .w 1000 g 1 0 D.length), (1, .k (.int .i64 ((a : Nat) : Int))), (2, .k (.int .i64 ((b : Nat) : Int))), (7, .k (.int .i64 ((I : Nat) : Int))), (8, .k (.int .i64 ((j : Nat) : Int))), (10, .k (.int .i64 ((k : Nat) : Int)))]) (fun k T => [(1000, .w 24 1 g (T.map uK))]) (fun k T => 0 < k ∧ k ≤ b ∧ T.length = D.length ∧ Go.Sort.shiftUp ltN b k T.toArray = Q2) ((b - ·)) (I + 1) (S2) ⟨by omega, by omega, hSl, hQ2⟩ ⟨rfl, rfl, rfl, rfl, rfl, rfl, trivial⟩ ⟨rfl, trivial⟩ rfl rfW rfW ?_
              clear hQ2 hS hz2 hel
              rintro k T ⟨hk0, hkb, hTl, hT⟩
              have helT : (T.map uK).length = T.length := List.length_map _
              have c1 := Less_ (T.getD k default) (T.getD (k - 1) default)
              by_cases hc : k < b
              · by_cases hlt : T.getD k default < T.getD (k - 1) default
                · rw [show ltN _ _ = true from decide_eq_true hlt] at c1
                  rw [sup_go hc hlt] at hT
                  have hok : 0 < k + 1 ∧ k + 1 ≤ b ∧ ((T.set k (T.getD (k - 1) default)).set (k - 1) (T.getD k default)).length = D.length ∧ Go.Sort.shiftUp ltN b (k + 1) ((T.set k (T.getD (k - 1) default)).set (k - 1) (T.getD k default)).toArray = Q2 := ⟨by omega, by omega, by rw [set_len2]; exact hTl, hT⟩
                  have hel2 : ((T.set k (T.getD (k - 1) default)).map uK).length = T.length := by rw [List.length_map, List.length_set]
                  have hmu : b - (k + 1) < b - k := by omega
                  clear hT hlt
                  exact wk trueW trueW trueW
                · rw [show ltN _ _ = false from decide_eq_false hlt] at c1
                  rw [sup_end fun h => hlt h.2] at hT
                  have e := toA hT
                  rw [← e]
                  clear hT hlt e
                  refine wk ?_ trueW trueW
                  refine lblk_ne rfl ?_
                  exact ⟨rfl, by repeat (first | exact True.intro | refine And.intro rfl ?_), by repeat (first | exact True.intro | refine And.intro rfl ?_), rfl⟩
              · rw [sup_end fun h => hc h.1] at hT
                have e := toA hT
                rw [← e]
                clear hT e c1
                refine wk ?_ trueW trueW
                exact ⟨rfl, by repeat (first | exact True.intro | refine And.intro rfl ?_), by repeat (first | exact True.intro | refine And.intro rfl ?_), rfl⟩
            · show LC _ _ _ _ _ _ _
              refine LC.weak hs ?_
              have hok : j + 1 ≤ 5 ∧ a + 1 ≤ I ∧ I ≤ b ∧ Q2.toList.length = D.length ∧ Go.Sort.partialIns ltN a b (5 - (j + 1)) I Q2.toList.toArray = R := ⟨by omega, by omega, by omega, hz2, hS⟩
              have hmu : 5 - (j + 1) < 5 - j := by omega
              clear hQ2 hS hz2 hel
              exact wk trueW trueW trueW
          · rw [if_neg hbu] at hS
            have hok : j + 1 ≤ 5 ∧ a + 1 ≤ I ∧ I ≤ b ∧ S2.length = D.length ∧ Go.Sort.partialIns ltN a b (5 - (j + 1)) I S2.toArray = R := ⟨by omega, by omega, by omega, hSl, hS⟩
            have hmu : 5 - (j + 1) < 5 - j := by omega
            clear hS
            exact wk trueW trueW trueW
        · rw [if_neg hd2] at hS
          have hel3 : (((S.set I (S.getD (I - 1) default)).set (I - 1) (S.getD I default)).map uK).length = ((S.set I (S.getD (I - 1) default)).set (I - 1) (S.getD I default)).length := List.length_map _
          by_cases hbu : b - I ≥ 2
          · rw [if_pos hbu] at hS
            generalize hQ2 : Go.Sort.shiftUp ltN b (I + 1) ((S.set I (S.getD (I - 1) default)).set (I - 1) (S.getD I default)).toArray = Q2 at hS
            have hz2 : Q2.toList.length = D.length := by rw [← hQ2, Array.length_toList, sup_size _ _ _ _ (Nat.le_refl _)]; simpa using hS1l
            refine wk ?_ trueW trueW
            refine LC.afterB [(0, sQ g D.length), (1, iK a), (2, iK b), (7, iK I), (8, iK j)] (mQ g Q2.toList) ?_ (fun env mem hs => ?_)
            · refine LC.loop2 (fun k T => [(0, .w 1000 g 1 0 D.length), (1, .k (.int .i64 ((a : Nat) : Int))), (2, .k (.int .i64 ((b : Nat) : Int))), (7, .k (.int .i64 ((I : Nat) : Int))), (8, .k (.int .i64 ((j : Nat) : Int))), (10, .k (.int .i64 ((k : Nat) : Int)))]) (fun k T => [(1000, .w 24 1 g (T.map uK))]) (fun k T => 0 < k ∧ k ≤ b ∧ T.length = D.length ∧ Go.Sort.shiftUp ltN b k T.toArray = Q2) ((b - ·)) (I + 1) (((S.set I (S.getD (I - 1) default)).set (I - 1) (S.getD I default))) ⟨by omega, by omega, hS1l, hQ2⟩ ⟨rfl, rfl, rfl, rfl, rfl, rfl, trivial⟩ ⟨rfl, trivial⟩ rfl rfW rfW ?_
              clear hQ2 hS hz2 hel hel2
              rintro k T ⟨hk0, hkb, hTl, hT⟩
              have helT : (T.map uK).length = T.length := List.length_map _
              have c1 := Less_ (T.getD k default) (T.getD (k - 1) default)
              by_cases hc : k < b
              · by_cases hlt : T.getD k default < T.getD (k - 1) default
                · rw [show ltN _ _ = true from decide_eq_true hlt] at c1
                  rw [sup_go hc hlt] at hT
                  have hok : 0 < k + 1 ∧ k + 1 ≤ b ∧ ((T.set k (T.getD (k - 1) default)).set (k - 1) (T.getD k default)).length = D.length ∧ Go.Sort.shiftUp ltN b (k + 1) ((T.set k (T.getD (k - 1) default)).set (k - 1) (T.getD k default)).toArray = Q2 := ⟨by omega, by omega, by rw [set_len2]; exact hTl, hT⟩
                  have hel2 : ((T.set k (T.getD (k - 1) default)).map uK).length = T.length := by rw [List.length_map, List.length_set]
                  have hmu : b - (k + 1) < b - k := by omega
                  clear hT hlt
                  exact wk trueW trueW trueW
                · rw [show ltN _ _ = false from decide_eq_false hlt] at c1
                  rw [sup_end fun h => hlt h.2] at hT
                  have e := toA hT
                  rw [← e]
                  clear hT hlt e
                  refine wk ?_ trueW trueW
                  refine lblk_ne rfl ?_
                  exact ⟨rfl, by repeat (first | exact True.intro | refine And.intro rfl ?_), by repeat (first | exact True.intro | refine And.intro rfl ?_), rfl⟩
              · rw [sup_end fun h => hc h.1] at hT
                have e := toA hT
                rw [← e]
                clear hT e c1
                refine wk ?_ trueW trueW
                exact ⟨rfl, by repeat (first | exact True.intro | refine And.intro rfl ?_), by repeat (first | exact True.intro | refine And.intro rfl ?_), rfl⟩
            · show LC _ _ _ _ _ _ _
              refine LC.weak hs ?_
              have hok : j + 1 ≤ 5 ∧ a + 1 ≤ I ∧ I ≤ b ∧ Q2.toList.length = D.length ∧ Go.Sort.partialIns ltN a b (5 - (j + 1)) I Q2.toList.toArray = R := ⟨by omega, by omega, by omega, hz2, hS⟩
              have hmu : 5 - (j + 1) < 5 - j := by omega
              clear hQ2 hS hz2 hel hel2
              exact wk trueW trueW trueW
          · rw [if_neg hbu] at hS
            have hok : j + 1 ≤ 5 ∧ a + 1 ≤ I ∧ I ≤ b ∧ ((S.set I (S.getD (I - 1) default)).set (I - 1) (S.getD I default)).length = D.length ∧ Go.Sort.partialIns ltN a b (5 - (j + 1)) I ((S.set I (S.getD (I - 1) default)).set (I - 1) (S.getD I default)).toArray = R := ⟨by omega, by omega, by omega, hS1l, hS⟩
            have hmu : 5 - (j + 1) < 5 - j := by omega
            clear hS
            exact wk trueW trueW trueW
  · obtain rfl : j = 5 := by omega
    rw [Nat.sub_self, Go.Sort.partialIns] at hS
    subst hS
    exact wk trueW trueW trueW
end Jq
end Lf
set_option maxRecDepth 100000
namespace Lf
namespace Jq
open Go.Sort
theorem insI_size (a : Nat) : ∀ (j : Nat) (d : Array Nat), (insInner ltN a j d).size = d.size
  | 0, d => rfl
  | j + 1, d => by
    rw [insInner]
    split
    · rw [insI_size a j, size_swp]
    · rfl
theorem insO_size (a b : Nat) : ∀ (n i : Nat) (d : Array Nat), b - i ≤ n → (insOuter ltN a b i d).size = d.size := by
  intro n
  induction n with
  | zero => intro i d h; rw [insOuter, if_neg (by omega)]
  | succ n ih =>
    intro i d h
    rw [insOuter]
    split
    · rw [ih _ _ (by omega), insI_size]
    · rfl
theorem ins_size (d : Array Nat) (a b : Nat) : (insertionSort ltN d a b).size = d.size := insO_size a b _ _ d (Nat.le_refl _)
theorem hb_size (hi f : Nat) : ∀ (k : Nat) (d : Array Nat), (heapBuild ltN hi f k d).size = d.size
  | 0, d => rfl
  | k + 1, d => by rw [heapBuild, hb_size hi f k, sd_size _ _ _ _ _ (Nat.le_refl _)]
theorem hp_size (f : Nat) : ∀ (k : Nat) (d : Array Nat), (heapPop ltN f k d).size = d.size
  | 0, d => rfl
  | k + 1, d => by rw [heapPop, hp_size f k, sd_size _ _ _ _ _ (Nat.le_refl _), size_swp]
theorem heap_size (d : Array Nat) (a b : Nat) : (heapSort ltN d a b).size = d.size := by unfold heapSort; rw [hp_size, hb_size]
theorem brk_size (d : Array Nat) (a b : Nat) : (breakPatterns d a b).size = d.size := by
  unfold breakPatterns
  dsimp only
  split
  · simp only [breakStep, size_swp]
  · rfl
theorem rvl_size : ∀ (n i j : Nat) (d : Array Nat), j - i ≤ n → (reverseLoop i j d).size = d.size := by
  intro n
  induction n with
  | zero => intro i j d h; rw [reverseLoop, if_neg (by omega)]
  | succ n ih =>
    intro i j d h
    rw [reverseLoop]
    split
    · rw [ih _ _ _ (by omega), size_swp]
    · rfl
theorem rv_size (d : Array Nat) (a b : Nat) : (reverseRange d a b).size = d.size := rvl_size _ _ _ d (Nat.le_refl _)
theorem sdn_size2 : ∀ (j : Nat) (d : Array Nat), (shiftDown ltN j d).size = d.size
  | 0, d => rfl
  | j + 1, d => by
    rw [shiftDown]
    split
    · rfl
    · rw [sdn_size2 j, size_swp]
theorem sup_size2 (b : Nat) : ∀ (n j : Nat) (d : Array Nat), b - j ≤ n → (shiftUp ltN b j d).size = d.size := by
  intro n
  induction n with
  | zero => intro j d h; rw [shiftUp, if_neg (by omega)]
  | succ n ih =>
    intro j d h
    rw [shiftUp]
    split
    · split
      · rfl
      · rw [ih _ _ (by omega), size_swp]
    · rfl
theorem pin_size (a b : Nat) : ∀ (s i : Nat) (d : Array Nat), (partialIns ltN a b s i d).1.size = d.size
  | 0, i, d => rfl
  | s + 1, i, d => by
    rw [partialIns]
    dsimp only
    split
    · rfl
    · split
      · rfl
      · rw [pin_size a b s]
        split <;> (try rw [sup_size2 _ _ _ _ (Nat.le_refl _)]) <;> split <;> (try rw [sdn_size2]) <;> rw [size_swp]
theorem pi_size (d : Array Nat) (a b : Nat) : (partialInsertionSort ltN d a b).1.size = d.size := pin_size a b 5 _ d
theorem pel_size (a : Nat) : ∀ (n i j : Nat) (d : Array Nat), j + 1 - i ≤ n → (partEqLoop ltN a i j d).2.size = d.size := by
  intro n
  induction n with
  | zero =>
    intro i j d h
    rw [partEqLoop]
    try dsimp only
    split
    · rfl
    · split
      · omega
      · rfl
  | succ n ih =>
    intro i j d h
    rw [partEqLoop]
    try dsimp only
    split
    · rfl
    · split
      · rw [ih _ _ _ (by omega), size_swp]
      · rfl
theorem pe_size (d : Array Nat) (a b p : Nat) : (partitionEqual ltN d a b p).2.size = d.size := by unfold partitionEqual; rw [pel_size _ _ _ _ _ (Nat.le_refl _), size_swp]
theorem pl_size (a : Nat) : ∀ (n i j : Nat) (d : Array Nat), j + 1 - i ≤ n → (partLoop ltN a i j d).2.size = d.size := by
  intro n
  induction n with
  | zero =>
    intro i j d h
    rw [partLoop]
    try dsimp only
    split
    · rfl
    · split
      · omega
      · rfl
  | succ n ih =>
    intro i j d h
    rw [partLoop]
    try dsimp only
    split
    · rfl
    · split
      · rw [ih _ _ _ (by omega), size_swp]
      · rfl
theorem pt_size (d : Array Nat) (a b p : Nat) : (partition ltN d a b p).2.2.size = d.size := by
  unfold partition
  dsimp only
  split
  · dsimp only; rw [size_swp, size_swp]
  · dsimp only; rw [size_swp, pl_size _ _ _ _ _ (Nat.le_refl _), size_swp, size_swp]
theorem pdq_size : ∀ (n : Nat) (d : Array Nat) (a b lim : Nat) (wb wp : Bool), b - a ≤ n → (pdq ltN d a b lim wb wp).size = d.size := by
  intro n
  induction n with
  | zero =>
    intro d a b lim wb wp h
    rw [pdq, if_pos (by omega)]
    exact ins_size d a b
  | succ n ih =>
    intro d a b lim wb wp h
    rw [pdq]
    split
    · exact ins_size d a b
    · split
      · exact heap_size d a b
      · dsimp only
        have h1 : (if (!wb) = true then breakPatterns d a b else d).size = d.size := by split; (· exact brk_size d a b); (· rfl)
        generalize (if (!wb) = true then breakPatterns d a b else d) = d1 at *
        generalize choosePivot ltN d1 a b = c at *
        have h2 : (if c.2 = Hint.decreasing then reverseRange d1 a b else d1).size = d.size := by split; (· rw [rv_size, h1]); (· exact h1)
        generalize (if c.2 = Hint.decreasing then reverseRange d1 a b else d1) = d2 at *
        generalize (if c.2 = Hint.decreasing then b - 1 - (c.1 - a) else c.1) = p at *
        generalize (if c.2 = Hint.decreasing then Hint.increasing else c.2) = hh at *
        have h3 : (if (wb && wp && decide (hh = Hint.increasing)) = true then partialInsertionSort ltN d2 a b else (d2, false)).1.size = d.size := by split; (· rw [pi_size, h2]); (· exact h2)
        generalize (if (wb && wp && decide (hh = Hint.increasing)) = true then partialInsertionSort ltN d2 a b else (d2, false)) = q at *
        generalize (if (!wb) = true then lim - 1 else lim) = l1 at *
        split
        · exact h3
        · split
          · have h4 := pe_size q.1 a b p
            generalize partitionEqual ltN q.1 a b p = r at *
            split
            · rw [ih _ _ _ _ _ _ (by omega), h4, h3]
            · rw [h4, h3]
          · have h4 := pt_size q.1 a b p
            generalize partition ltN q.1 a b p = r at *
            split
            · split
              · rw [ih _ _ _ _ _ _ (by omega), ih _ _ _ _ _ _ (by omega), h4, h3]
              · rw [ih _ _ _ _ _ _ (by omega), ih _ _ _ _ _ _ (by omega), h4, h3]
            · rw [h4, h3]
theorem swoN : SWO ltN := ⟨fun x => by simp [ltN], fun x y z h1 h2 => by simp [ltN] at *; omega, fun x y z h1 h2 => by simp [ltN] at *; omega⟩
theorem sortN (l : List Nat) : (sort ltN l.toArray).toList = l.mergeSort fun a b => decide (a ≤ b) := by
  obtain ⟨h1, h2⟩ := sort_sorts ltN swoN l.toArray
  have h3 := sorted_unique_holds swoN (fun x y h1 h2 => by simp [ltN] at *; omega) l.toArray _ h1 h2
  rw [h3]
  congr 1
  funext x y
  unfold ltN
  by_cases h : x ≤ y
  · simp [h]
  · simp [h]; omega
end Jq
end Lf
end Go.Proofs.Ytgjoecocahpfhaa

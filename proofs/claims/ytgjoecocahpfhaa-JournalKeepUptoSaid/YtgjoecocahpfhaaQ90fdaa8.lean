/- A part of the proof: texts joined. -/
import Derived.Sort.AssemblyPlain
import Derived.Test.YtgjoecocahpfhaaQ8e00cec
namespace Go.Proofs.Ytgjoecocahpfhaa
open Go.RowKit Rg
set_option linter.unusedVariables false
set_option maxRecDepth 100000
namespace Lf
namespace Jq
abbrev iK (n : Nat) : V := .k (.int .i64 ((n : Nat) : Int))
abbrev ltN (a b : Nat) : Bool := decide (a < b)
abbrev mQ (g : Nat) (S : List Nat) : Mem := [(1000, .w 24 1 g (S.map uK))]
abbrev sQ (g : Nat) (n : Nat) : V := .w 1000 g 1 0 n
theorem arr_get (S : List Nat) (i : Nat) : S.toArray[i]! = S.getD i default := by
  simp [List.getD_eq_getElem?_getD, getElem!_def]
  cases S[i]? <;> rfl
theorem swp_l (S : List Nat) (i j : Nat) : Go.Sort.swp S.toArray i j = ((S.set i (S.getD j default)).set j (S.getD i default)).toArray := by
  unfold Go.Sort.swp
  rw [arr_get, arr_get]
  simp
theorem set_len2 (S : List Nat) (i j x y : Nat) : ((S.set i x).set j y).length = S.length := by rw [List.length_set, List.length_set]
theorem isNaN_ (x : Nat) : LF Try.prog 74 [.k (.int .u64 ((x : Nat) : Int))] (fun _ => .k (.bool false)) none := by
  refine LFx.mk' tt Try.func74 rfl rfl rfl (by kernel_rfl) rfl rfl fun F => ?_
  exact wk trueW trueW trueW
theorem Less_ (x y : Nat) : LF Try.prog 101 [.k (.int .u64 ((x : Nat) : Int)), .k (.int .u64 ((y : Nat) : Int))] (fun _ => .k (.bool (ltN x y))) none := by
  have c1 := isNaN_ x
  have c2 := isNaN_ y
  by_cases h : x < y
  · rw [show ltN x y = true from decide_eq_true h]
    refine LFx.mk' tt Try.func101 rfl rfl rfl (by kernel_rfl) rfl rfl fun F => ?_
    exact wk trueW trueW trueW
  · rw [show ltN x y = false from decide_eq_false h]
    refine LFx.mk' tt Try.func101 rfl rfl rfl (by kernel_rfl) rfl rfl fun F => ?_
    exact wk trueW trueW trueW
theorem insJ_step {a j : Nat} {S : List Nat} (h1 : a < j) (h2 : S.getD j default < S.getD (j - 1) default) : Go.Sort.insInner ltN a j S.toArray = Go.Sort.insInner ltN a (j - 1) ((S.set j (S.getD (j - 1) default)).set (j - 1) (S.getD j default)).toArray := by
  cases j with
  | zero => omega
  | succ j =>
    rw [Go.Sort.insInner, arr_get, arr_get, if_pos (by simp; exact ⟨by omega, h2⟩), swp_l]
    rfl
theorem insJ_end {a j : Nat} {S : List Nat} (h : ¬ (a < j ∧ S.getD j default < S.getD (j - 1) default)) : Go.Sort.insInner ltN a j S.toArray = S.toArray := by
  cases j with
  | zero => rfl
  | succ j =>
    rw [Go.Sort.insInner, arr_get, arr_get, if_neg (by simpa using h)]
theorem insO_step {a b i : Nat} {d : Array Nat} (h : i < b) : Go.Sort.insOuter ltN a b i d = Go.Sort.insOuter ltN a b (i + 1) (Go.Sort.insInner ltN a i d) := by
  conv => lhs; rw [Go.Sort.insOuter]
  rw [if_pos h]
theorem insO_end {a b i : Nat} {d : Array Nat} (h : ¬ i < b) : Go.Sort.insOuter ltN a b i d = d := by
  rw [Go.Sort.insOuter, if_neg h]
theorem toA {S : List Nat} {Q : Array Nat} (h : S.toArray = Q) : S = Q.toList := by rw [← h]
set_option maxHeartbeats 4000000 in
theorem insSort_ (D : List Nat) (g a b : Nat) (hl : D.length < 1000000000) (ha : a < 1000000000) (hb : b ≤ D.length) : LM Try.prog 95 [sQ g D.length, iK a, iK b] (mQ g D) fun o m => o = .ret (.t []) ∧ m = mQ g (Go.Sort.insertionSort ltN D.toArray a b).toList := by
  generalize hR : Go.Sort.insertionSort ltN D.toArray a b = R
  unfold Go.Sort.insertionSort at hR
  have hel0 : (D.map uK).length = D.length := List.length_map _
  refine LM.enter tt Try.func95 rfl rfl rfl (by kernel_rfl) rfl rfl rfl (fun o mo h => by rw [h.2]; rfl) fun F _ => ?_
  refine wk ?_ trueW trueW
  refine LC.loop2 (fun i S => [(0, .w 1000 g 1 0 D.length), (1, .k (.int .i64 ((a : Nat) : Int))), (2, .k (.int .i64 ((b : Nat) : Int))), (6, .k (.int .i64 ((i : Nat) : Int)))]) (fun i S => [(1000, .w 24 1 g (S.map uK))]) (fun i S => a + 1 ≤ i ∧ S.length = D.length ∧ Go.Sort.insOuter ltN a b i S.toArray = R) ((b - ·)) (a + 1) (D) ⟨Nat.le_refl _, rfl, hR⟩ ⟨rfl, rfl, rfl, rfl, trivial⟩ ⟨rfl, trivial⟩ rfl rfW rfW ?_
  rintro i S ⟨hi, hSl, hS⟩
  have hel : (S.map uK).length = S.length := List.length_map _
  rcases Nat.lt_or_ge i b with h | h
  · rw [insO_step h] at hS
    generalize hQ : Go.Sort.insInner ltN a i S.toArray = Q at hS
    clear hR
    refine wk ?_ trueW trueW
    refine LC.loop2 (fun j T => [(0, .w 1000 g 1 0 D.length), (1, .k (.int .i64 ((a : Nat) : Int))), (2, .k (.int .i64 ((b : Nat) : Int))), (6, .k (.int .i64 ((i : Nat) : Int))), (7, .k (.int .i64 ((j : Nat) : Int)))]) (fun j T => [(1000, .w 24 1 g (T.map uK))]) (fun j T => a ≤ j ∧ j ≤ i ∧ T.length = D.length ∧ Go.Sort.insInner ltN a j T.toArray = Q) ((fun j => j)) (i) (S) ⟨by omega, by omega, hSl, hQ⟩ ⟨rfl, rfl, rfl, rfl, rfl, trivial⟩ ⟨rfl, trivial⟩ rfl rfW rfW ?_
    rintro j T ⟨h1, h2, hTl, hT⟩
    have helT : (T.map uK).length = T.length := List.length_map _
    have c1 := Less_ (T.getD j default) (T.getD (j - 1) default)
    by_cases haj : a < j
    · by_cases hlt : T.getD j default < T.getD (j - 1) default
      · rw [show ltN _ _ = true from decide_eq_true hlt] at c1
        have hok : a ≤ j - 1 ∧ j - 1 ≤ i ∧ ((T.set j (T.getD (j - 1) default)).set (j - 1) (T.getD j default)).length = D.length ∧ Go.Sort.insInner ltN a (j - 1) ((T.set j (T.getD (j - 1) default)).set (j - 1) (T.getD j default)).toArray = Q := ⟨by omega, by omega, by rw [set_len2]; exact hTl, by rw [← insJ_step haj hlt]; exact hT⟩
        have hel2 : ((T.set j (T.getD (j - 1) default)).map uK).length = T.length := by rw [List.length_map, List.length_set]
        clear hT hS hQ hlt
        exact wk trueW trueW trueW
      · rw [show ltN _ _ = false from decide_eq_false hlt] at c1
        have e := toA ((insJ_end fun k => hlt k.2).symm.trans hT)
        have hok : a + 1 ≤ i + 1 ∧ T.length = D.length ∧ Go.Sort.insOuter ltN a b (i + 1) T.toArray = R := ⟨by omega, hTl, by rw [e]; exact hS⟩
        clear hT hS hQ hlt e
        exact wk trueW trueW trueW
    · have e := toA ((insJ_end fun k => haj k.1).symm.trans hT)
      have hok : a + 1 ≤ i + 1 ∧ T.length = D.length ∧ Go.Sort.insOuter ltN a b (i + 1) T.toArray = R := ⟨by omega, hTl, by rw [e]; exact hS⟩
      clear hT hS hQ c1 e
      exact wk trueW trueW trueW
  · rw [insO_end (by omega)] at hS
    have e := toA hS
    rw [← e]
    clear hR hS e
    exact wk trueW trueW trueW
end Jq
end Lf
open Go.RowKit Rg
set_option linter.unusedVariables false
set_option maxRecDepth 100000
namespace Lf
namespace Jq
theorem lblk_ne {Q : LQ} {id id' : Nat} {env : Env} {mem : Mem} (h : Nat.beq id' id = false) (h2 : Q (.exit id') env mem) : LBlk id Q (.exit id') env mem := by
  simp only [LBlk]; rw [h]; exact h2
theorem sd_end {hi f r : Nat} {d : Array Nat} (h : hi ≤ 2 * r + 1) : Go.Sort.siftDown ltN hi f r d = d := by
  rw [Go.Sort.siftDown, dif_pos h]
theorem sd_l {hi f r : Nat} {S : List Nat} (h : ¬ hi ≤ 2 * r + 1) (h2 : ¬ (2 * r + 1 + 1 < hi ∧ S.getD (f + (2 * r + 1)) default < S.getD (f + (2 * r + 1) + 1) default)) : Go.Sort.siftDown ltN hi f r S.toArray = if S.getD (f + r) default < S.getD (f + (2 * r + 1)) default then Go.Sort.siftDown ltN hi f (2 * r + 1) ((S.set (f + r) (S.getD (f + (2 * r + 1)) default)).set (f + (2 * r + 1)) (S.getD (f + r) default)).toArray else S.toArray := by
  conv => lhs; rw [Go.Sort.siftDown]
  rw [dif_neg h, if_neg (by rw [arr_get, arr_get]; simpa using h2), swp_l, arr_get, arr_get]
  by_cases h3 : S.getD (f + r) default < S.getD (f + (2 * r + 1)) default
  · rw [if_pos h3, if_neg (by simpa using h3)]
  · rw [if_neg h3, if_pos (by simpa using h3)]
theorem sd_r {hi f r : Nat} {S : List Nat} (h : 2 * r + 1 + 1 < hi) (h2 : S.getD (f + (2 * r + 1)) default < S.getD (f + (2 * r + 1) + 1) default) : Go.Sort.siftDown ltN hi f r S.toArray = if S.getD (f + r) default < S.getD (f + (2 * r + 1 + 1)) default then Go.Sort.siftDown ltN hi f (2 * r + 1 + 1) ((S.set (f + r) (S.getD (f + (2 * r + 1 + 1)) default)).set (f + (2 * r + 1 + 1)) (S.getD (f + r) default)).toArray else S.toArray := by
  conv => lhs; rw [Go.Sort.siftDown]
  rw [dif_neg (by omega), if_pos (by rw [arr_get, arr_get]; simp; exact ⟨h, h2⟩), swp_l, arr_get, arr_get]
  by_cases h3 : S.getD (f + r) default < S.getD (f + (2 * r + 2)) default
  · rw [if_pos h3, if_neg (by simpa using h3), dif_pos (show 2 * r + 2 < hi from h)]
  · rw [if_neg h3, if_pos (by simpa using h3)]
theorem sd_size (hi f : Nat) : ∀ (n r : Nat) (d : Array Nat), hi - r ≤ n → (Go.Sort.siftDown ltN hi f r d).size = d.size := by
  intro n
  induction n with
  | zero => intro r d h; rw [sd_end (by omega)]
  | succ n ih =>
    intro r d h
    rw [Go.Sort.siftDown]
    split
    · rfl
    · split
      · split
        · rfl
        · split
          · rw [ih _ _ (by omega), Go.Sort.size_swp]
          · rfl
      · split
        · rfl
        · rw [ih _ _ (by omega), Go.Sort.size_swp]
set_option maxHeartbeats 4000000 in
theorem sift_ (D : List Nat) (g lo hi f : Nat) (hl : D.length < 1000000000) (hh : f + hi ≤ D.length) (hlo : lo < 1000000000) : LM Try.prog 107 [sQ g D.length, iK lo, iK hi, iK f] (mQ g D) fun o m => o = .ret (.t []) ∧ m = mQ g (Go.Sort.siftDown ltN hi f lo D.toArray).toList := by
  generalize hR : Go.Sort.siftDown ltN hi f lo D.toArray = R
  have hel0 : (D.map uK).length = D.length := List.length_map _
  refine LM.enter tt Try.func107 rfl rfl rfl (by kernel_rfl) rfl rfl rfl (fun o mo h => by rw [h.2]; rfl) fun F _ => ?_
  refine wk ?_ trueW trueW
  refine LC.loop2 (fun r S => [(0, .w 1000 g 1 0 D.length), (2, .k (.int .i64 ((hi : Nat) : Int))), (3, .k (.int .i64 ((f : Nat) : Int))), (8, .k (.int .i64 ((r : Nat) : Int)))]) (fun r S => [(1000, .w 24 1 g (S.map uK))]) (fun r S => S.length = D.length ∧ r < 1000000000 ∧ Go.Sort.siftDown ltN hi f r S.toArray = R) ((hi - ·)) (lo) (D) ⟨rfl, hlo, hR⟩ ⟨rfl, rfl, rfl, rfl, trivial⟩ ⟨rfl, trivial⟩ rfl rfW rfW ?_
  rintro r S ⟨hSl, hrl, hS⟩
  clear hR
  have hel : (S.map uK).length = S.length := List.length_map _
  by_cases h1 : hi ≤ 2 * r + 1
  · rw [sd_end h1] at hS
    have e := toA hS
    rw [← e]
    clear hS e
    refine wk ?_ trueW trueW
    refine lblk_ne rfl ?_
    exact wk trueW trueW trueW
  · by_cases h2 : 2 * r + 1 + 1 < hi
    · have c1 := Less_ (S.getD (f + (2 * r + 1)) default) (S.getD (f + (2 * r + 1) + 1) default)
      by_cases h3 : S.getD (f + (2 * r + 1)) default < S.getD (f + (2 * r + 1) + 1) default
      · rw [show ltN _ _ = true from decide_eq_true h3] at c1
        have c2 := Less_ (S.getD (f + r) default) (S.getD (f + (2 * r + 1 + 1)) default)
        rw [sd_r h2 h3] at hS
        by_cases h4 : S.getD (f + r) default < S.getD (f + (2 * r + 1 + 1)) default
        · rw [show ltN _ _ = true from decide_eq_true h4] at c2
          rw [if_pos h4] at hS
          have hok : ((S.set (f + r) (S.getD (f + (2 * r + 1 + 1)) default)).set (f + (2 * r + 1 + 1)) (S.getD (f + r) default)).length = D.length ∧ 2 * r + 1 + 1 < 1000000000 ∧ Go.Sort.siftDown ltN hi f (2 * r + 1 + 1) ((S.set (f + r) (S.getD (f + (2 * r + 1 + 1)) default)).set (f + (2 * r + 1 + 1)) (S.getD (f + r) default)).toArray = R := ⟨by rw [set_len2]; exact hSl, by omega, hS⟩
          have hel2 : ((S.set (f + r) (S.getD (f + (2 * r + 1 + 1)) default)).map uK).length = S.length := by rw [List.length_map, List.length_set]
          have hmu : hi - (2 * r + 1 + 1) < hi - r := by omega
          clear hS h3 h4
          exact wk trueW trueW trueW
        · rw [show ltN _ _ = false from decide_eq_false h4] at c2
          rw [if_neg h4] at hS
          have e := toA hS
          rw [← e]
          clear hS e h3 h4
          exact wk trueW trueW trueW
      · rw [show ltN _ _ = false from decide_eq_false h3] at c1
        have c2 := Less_ (S.getD (f + r) default) (S.getD (f + (2 * r + 1)) default)
        rw [sd_l h1 fun h => h3 h.2] at hS
        by_cases h4 : S.getD (f + r) default < S.getD (f + (2 * r + 1)) default
        · rw [show ltN _ _ = true from decide_eq_true h4] at c2
          rw [if_pos h4] at hS
          have hok : ((S.set (f + r) (S.getD (f + (2 * r + 1)) default)).set (f + (2 * r + 1)) (S.getD (f + r) default)).length = D.length ∧ 2 * r + 1 < 1000000000 ∧ Go.Sort.siftDown ltN hi f (2 * r + 1) ((S.set (f + r) (S.getD (f + (2 * r + 1)) default)).set (f + (2 * r + 1)) (S.getD (f + r) default)).toArray = R := ⟨by rw [set_len2]; exact hSl, by omega, hS⟩
          have hel2 : ((S.set (f + r) (S.getD (f + (2 * r + 1)) default)).map uK).length = S.length := by rw [List.length_map, List.length_set]
          have hmu : hi - (2 * r + 1) < hi - r := by omega
          clear hS h3 h4
          exact wk trueW trueW trueW
        · rw [show ltN _ _ = false from decide_eq_false h4] at c2
          rw [if_neg h4] at hS
          have e := toA hS
          rw [← e]
          clear hS e h3 h4
          exact wk trueW trueW trueW
    · have c2 := Less_ (S.getD (f + r) default) (S.getD (f + (2 * r + 1)) default)
      rw [sd_l h1 fun h => h2 h.1] at hS
      by_cases h4 : S.getD (f + r) default < S.getD (f + (2 * r + 1)) default
      · rw [show ltN _ _ = true from decide_eq_true h4] at c2
        rw [if_pos h4] at hS
        have hok : ((S.set (f + r) (S.getD (f + (2 * r + 1)) default)).set (f + (2 * r + 1)) (S.getD (f + r) default)).length = D.length ∧ 2 * r + 1 < 1000000000 ∧ Go.Sort.siftDown ltN hi f (2 * r + 1) ((S.set (f + r) (S.getD (f + (2 * r + 1)) default)).set (f + (2 * r + 1)) (S.getD (f + r) default)).toArray = R := ⟨by rw [set_len2]; exact hSl, by omega, hS⟩
        have hel2 : ((S.set (f + r) (S.getD (f + (2 * r + 1)) default)).map uK).length = S.length := by rw [List.length_map, List.length_set]
        have hmu : hi - (2 * r + 1) < hi - r := by omega
        clear hS h4
        exact wk trueW trueW trueW
      · rw [show ltN _ _ = false from decide_eq_false h4] at c2
        rw [if_neg h4] at hS
        have e := toA hS
        rw [← e]
        clear hS e h4
        exact wk trueW trueW trueW
end Jq
end Lf
end Go.Proofs.Ytgjoecocahpfhaa

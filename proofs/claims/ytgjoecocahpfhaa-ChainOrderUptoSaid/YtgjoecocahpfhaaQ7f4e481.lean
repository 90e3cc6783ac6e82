/- A part of the proof: texts joined. -/
import Derived.Test.YtgjoecocahpfhaaQ6bd2044
namespace Go.Proofs.Ytgjoecocahpfhaa
open Go.RowKit Rg
set_option linter.unusedVariables false
set_option maxRecDepth 100000
namespace Lf
namespace Sq
open So
def cmpZ (x y : Nat) : Int := if x < y then -1 else if y < x then 1 else 0
theorem cmpZ_lt {x y : Nat} (h : x < y) : cmpZ x y = -1 := if_pos h
theorem cmpZ_ge {x y : Nat} (h : ¬ x < y) : 0 ≤ cmpZ x y ∧ cmpZ x y ≤ 1 := by
  unfold cmpZ
  rw [if_neg h]
  split <;> decide
abbrev iK (n : Nat) : V := .k (.int .i64 ((n : Nat) : Int))
theorem isNaN_ (x : Nat) : LF Try.prog 74 [.k (.int .u64 ((x : Nat) : Int))] (fun _ => .k (.bool false)) none := by
  refine LFx.mk' tt Try.func74 rfl rfl rfl (by kernel_rfl) rfl rfl fun F => ?_
  exact wk trueW trueW trueW
theorem Compare_ (x y : Nat) : LF Try.prog 49 [.k (.int .u64 ((x : Nat) : Int)), .k (.int .u64 ((y : Nat) : Int))] (fun _ => .k (.int .i64 (cmpZ x y))) none := by
  have c1 := isNaN_ x
  have c2 := isNaN_ y
  by_cases h : x < y
  · rw [cmpZ_lt h]
    refine LFx.mk' tt Try.func49 rfl rfl rfl (by kernel_rfl) rfl rfl fun F => ?_
    exact wk trueW trueW trueW
  · unfold cmpZ
    rw [if_neg h]
    by_cases h2 : y < x
    · rw [if_pos h2]
      refine LFx.mk' tt Try.func49 rfl rfl rfl (by kernel_rfl) rfl rfl fun F => ?_
      exact wk trueW trueW trueW
    · rw [if_neg h2]
      refine LFx.mk' tt Try.func49 rfl rfl rfl (by kernel_rfl) rfl rfl fun F => ?_
      exact wk trueW trueW trueW
def CmpC (f : Nat → Nat) (N : Nat) (B : List V) : Prop := ∀ x y, x < N → y < N → LM Try.prog 48 [iK x, iK y, .p 1001 0] [(1001, .b B)] fun o m => o = .ret (.k (.int .i64 (cmpZ (f x) (f y)))) ∧ m = [(1001, .b B)]
abbrev cfV : V := .f (.func 48) [] [.p 1001 0]
theorem pm_lt {D S : D0} {N k : Nat} (h : ∀ x ∈ D, x < N) (p : S.Perm D) (hk : k < S.length) : S.getD k default < N := by
  refine h _ (p.mem_iff.1 ?_)
  rw [List.getD_eq_getElem?_getD, List.getElem?_eq_getElem hk]
  exact List.getElem_mem hk
theorem insJ_step {f : Nat → Nat} {a j : Nat} {D : D0} (h1 : a < j) (h2 : f (D.getD j default) < f (D.getD (j - 1) default)) : insJ f a j D = insJ f a (j - 1) ((D.set j (D.getD (j - 1) default)).set (j - 1) (D.getD j default)) := by
  cases j with
  | zero => omega
  | succ j => rw [insJ, if_pos ⟨h1, h2⟩]; rfl
theorem insJ_end {f : Nat → Nat} {a j : Nat} {D : D0} (h : ¬ (a < j ∧ f (D.getD j default) < f (D.getD (j - 1) default))) : insJ f a j D = D := by
  cases j with
  | zero => rfl
  | succ j => rw [insJ]; exact if_neg h
theorem set_len2 (D : D0) (i j x y : Nat) : ((D.set i x).set j y).length = D.length := by rw [List.length_set, List.length_set]
set_option maxHeartbeats 4000000 in
theorem swapR_ (D : D0) (g a b n : Nat) (B : List V) (hl : D.length < 1000000000) (ha : a + n ≤ D.length) (hb : b + n ≤ D.length) (hB : ∀ m, V.refs.go m B = true) : LM Try.prog 106 [.w 1000 g 1 0 D.length, iK a, iK b, iK n, cfV] [(1000, .w 3 1 g (D.map iK)), (1001, .b B)] fun o m => o = .ret (.t []) ∧ m = [(1000, .w 3 1 g ((swapR a b n 0 D).map iK)), (1001, .b B)] := by
  have hrf := hB
  have hel0 : (D.map iK).length = D.length := List.length_map _
  generalize hR : swapR a b n 0 D = R
  refine LM.enter tt Try.func106 rfl rfl rfl (by kernel_rfl) rfl rfl rfl (fun o mo h => by rw [h.2]; rfl) fun F _ => ?_
  refine wk ?_ trueW trueW
  refine LC.loop2 (fun i S => [(0, .w 1000 g 1 0 D.length), (1, .k (.int .i64 ((a : Nat) : Int))), (2, .k (.int .i64 ((b : Nat) : Int))), (3, .k (.int .i64 ((n : Nat) : Int))), (10, .k (.int .i64 ((i : Nat) : Int)))]) (fun i S => [(1000, .w 3 1 g (S.map iK)), (1001, .b B)]) (fun i S => i ≤ n ∧ S.length = D.length ∧ swapR a b n i S = R) ((n - ·)) (0) (D) ⟨by omega, rfl, hR⟩ ⟨rfl, rfl, rfl, rfl, rfl, trivial⟩ ⟨rfl, rfl, trivial⟩ rfl rfW rfW ?_
  rintro i S ⟨hi, hSl, hS⟩
  have hel : (S.map iK).length = S.length := List.length_map _
  rcases Nat.lt_or_ge i n with h | h
  · have hok : i + 1 ≤ n ∧ ((S.set (a + i) (S.getD (b + i) default)).set (b + i) (S.getD (a + i) default)).length = D.length ∧ swapR a b n (i + 1) ((S.set (a + i) (S.getD (b + i) default)).set (b + i) (S.getD (a + i) default)) = R := ⟨h, by rw [set_len2]; exact hSl, by rw [← hS, swapR_step h]; rfl⟩
    have hel2 : ((S.set (a + i) (S.getD (b + i) default)).map iK).length = S.length := by rw [List.length_map, List.length_set]
    clear hS hR
    exact wk trueW trueW trueW
  · obtain rfl : i = n := by omega
    rw [swapR_end (by omega)] at hS
    clear hR
    subst hS
    exact wk trueW trueW trueW
set_option maxHeartbeats 4000000 in
theorem insSort_ {f : Nat → Nat} {N : Nat} {B : List V} (hc : CmpC f N B) (hB : ∀ m, V.refs.go m B = true) (D : D0) (g a b : Nat) (hl : D.length < 1000000000) (ha : a < 1000000000) (hb : b ≤ D.length) (hN : ∀ x ∈ D, x < N) : LM Try.prog 86 [.w 1000 g 1 0 D.length, iK a, iK b, cfV] [(1000, .w 3 1 g (D.map iK)), (1001, .b B)] fun o m => o = .ret (.t []) ∧ m = [(1000, .w 3 1 g ((insS f a b (a + 1) D).map iK)), (1001, .b B)] := by
  have hrf := hB
  have hel0 : (D.map iK).length = D.length := List.length_map _
  generalize hR : insS f a b (a + 1) D = R
  refine LM.enter tt Try.func86 rfl rfl rfl (by kernel_rfl) rfl rfl rfl (fun o mo h => by rw [h.2]; rfl) fun F _ => ?_
  refine wk ?_ trueW trueW
  refine LC.loop2 (fun i S => [(0, .w 1000 g 1 0 D.length), (1, .k (.int .i64 ((a : Nat) : Int))), (2, .k (.int .i64 ((b : Nat) : Int))), (3, cfV), (8, .k (.int .i64 ((i : Nat) : Int)))]) (fun i S => [(1000, .w 3 1 g (S.map iK)), (1001, .b B)]) (fun i S => a + 1 ≤ i ∧ S.Perm D ∧ insS f a b i S = R) ((b - ·)) (a + 1) (D) ⟨Nat.le_refl _, .refl _, hR⟩ ⟨rfl, rfl, rfl, rfl, rfl, trivial⟩ ⟨rfl, rfl, trivial⟩ rfl rfW rfW ?_
  rintro i S ⟨hi, hp, hS⟩
  have hSl : S.length = D.length := hp.length_eq
  have hel : (S.map iK).length = S.length := List.length_map _
  rcases Nat.lt_or_ge i b with h | h
  · rw [insS_step h] at hS
    generalize hQ : insJ f a i S = Q at hS
    clear hR
    refine wk ?_ trueW trueW
    refine LC.loop2 (fun j T => [(0, .w 1000 g 1 0 D.length), (1, .k (.int .i64 ((a : Nat) : Int))), (2, .k (.int .i64 ((b : Nat) : Int))), (3, cfV), (8, .k (.int .i64 ((i : Nat) : Int))), (9, .k (.int .i64 ((j : Nat) : Int)))]) (fun j T => [(1000, .w 3 1 g (T.map iK)), (1001, .b B)]) (fun j T => a ≤ j ∧ j ≤ i ∧ T.Perm D ∧ insJ f a j T = Q) ((fun j => j)) (i) (S) ⟨by omega, by omega, hp, hQ⟩ ⟨rfl, rfl, rfl, rfl, rfl, rfl, trivial⟩ ⟨rfl, rfl, trivial⟩ rfl rfW rfW ?_
    rintro j T ⟨h1, h2, hpT, hT⟩
    have hTl : T.length = D.length := hpT.length_eq
    have helT : (T.map iK).length = T.length := List.length_map _
    have c1 := hc _ _ (pm_lt hN hpT (k := j) (by omega)) (pm_lt hN hpT (k := j - 1) (by omega))
    by_cases haj : a < j
    · by_cases hlt : f (T.getD j default) < f (T.getD (j - 1) default)
      · rw [cmpZ_lt hlt] at c1
        have hok : a ≤ j - 1 ∧ j - 1 ≤ i ∧ ((T.set j (T.getD (j - 1) default)).set (j - 1) (T.getD j default)).Perm D ∧ insJ f a (j - 1) ((T.set j (T.getD (j - 1) default)).set (j - 1) (T.getD j default)) = Q := ⟨by omega, by omega, (sw_perm (D := T) (i := j) (j := j - 1) (by omega) (by omega)).trans hpT, by rw [← insJ_step haj hlt]; exact hT⟩
        have hel2 : ((T.set j (T.getD (j - 1) default)).map iK).length = T.length := by rw [List.length_map, List.length_set]
        clear hT hS hp hpT hQ hlt
        exact wk trueW trueW trueW
      · have hz := cmpZ_ge hlt
        generalize cmpZ (f (T.getD j default)) (f (T.getD (j - 1) default)) = r at *
        obtain rfl : T = Q := (insJ_end fun k => hlt k.2).symm.trans hT
        have hok : a + 1 ≤ i + 1 ∧ T.Perm D ∧ insS f a b (i + 1) T = R := ⟨by omega, hpT, hS⟩
        clear hT hS hp hpT hQ hlt
        exact wk trueW trueW trueW
    · obtain rfl : T = Q := (insJ_end fun k => haj k.1).symm.trans hT
      have hok : a + 1 ≤ i + 1 ∧ T.Perm D ∧ insS f a b (i + 1) T = R := ⟨by omega, hpT, hS⟩
      clear hT hS hp hpT hQ c1
      exact wk trueW trueW trueW
  · rw [insS_end (by omega)] at hS
    subst hS
    clear hR
    exact wk trueW trueW trueW
end Sq
end Lf
open Go.RowKit Rg
set_option linter.unusedVariables false
set_option maxRecDepth 100000
namespace Lf
namespace Sq
open So
set_option maxHeartbeats 4000000 in
theorem rot_ (D : D0) (g a m b : Nat) (B : List V) (hl : D.length < 1000000000) (h1 : a < m) (h2 : m < b) (hb : b ≤ D.length) (hB : ∀ m, V.refs.go m B = true) : LM Try.prog 93 [.w 1000 g 1 0 D.length, iK a, iK m, iK b, cfV] [(1000, .w 3 1 g (D.map iK)), (1001, .b B)] fun o q => o = .ret (.t []) ∧ q = [(1000, .w 3 1 g ((rot m (m - a) (b - m) D).map iK)), (1001, .b B)] := by
  have hrf := hB
  generalize hR : rot m (m - a) (b - m) D = R
  refine LM.enter tt Try.func93 rfl rfl rfl (by kernel_rfl) rfl rfl rfl (fun o mo h => by rw [h.2]; rfl) fun F _ => ?_
  refine wk ?_ trueW trueW
  refine LC.loop5 (fun d i j S (_u4 : Unit) => [(0, .w 1000 g 1 0 D.length), (2, .k (.int .i64 ((m : Nat) : Int))), (4, cfV), (10, .k (.int .i64 ((i : Nat) : Int))), (11, .k (.int .i64 ((j : Nat) : Int)))]) (fun d i j S (_u4 : Unit) => [(1000, .w 3 1 g (S.map iK)), (1001, .b B)]) (fun d i j S (_u4 : Unit) => d = i + j ∧ 0 < i ∧ 0 < j ∧ i ≤ m ∧ m + j ≤ D.length ∧ S.length = D.length ∧ rot m i j S = R) ((fun d => d)) (m - a + (b - m)) (m - a) (b - m) (D) () ⟨rfl, by omega, by omega, by omega, by omega, rfl, hR⟩ ⟨rfl, rfl, rfl, rfl, rfl, trivial⟩ ⟨rfl, rfl, trivial⟩ rfl rfW rfW ?_
  rintro d i j S _ ⟨hd, hi, hj, him, hjl, hSl, hS⟩
  have hel : (S.map iK).length = S.length := List.length_map _
  rcases Nat.lt_trichotomy i j with h | h | h
  · have c1 := swapR_ S g (m - i) (m + j - i) i B (by omega) (by omega) (by omega) hB
    rw [hSl] at c1
    have hok : i + (j - i) = i + (j - i) ∧ 0 < i ∧ 0 < j - i ∧ i ≤ m ∧ m + (j - i) ≤ D.length ∧ (swapR (m - i) (m + j - i) i 0 S).length = D.length ∧ rot m i (j - i) (swapR (m - i) (m + j - i) i 0 S) = R := ⟨rfl, hi, by omega, him, by omega, by rw [swapR_len _ _ _ i 0 S (by omega)]; exact hSl, by rw [← rot_lt h hi]; exact hS⟩
    have hel2 : ((swapR (m - i) (m + j - i) i 0 S).map iK).length = (swapR (m - i) (m + j - i) i 0 S).length := List.length_map _
    have hmu : i + (j - i) < d := by omega
    clear hS hR
    generalize swapR (m - i) (m + j - i) i 0 S = T at *
    exact wk trueW trueW trueW
  · subst h
    rw [rot_eq] at hS
    have c1 := swapR_ S g (m - i) m i B (by omega) (by omega) (by omega) hB
    rw [hSl, hS] at c1
    clear hS hR
    exact wk trueW trueW trueW
  · have c1 := swapR_ S g (m - i) m j B (by omega) (by omega) (by omega) hB
    rw [hSl] at c1
    have hok : i - j + j = i - j + j ∧ 0 < i - j ∧ 0 < j ∧ i - j ≤ m ∧ m + j ≤ D.length ∧ (swapR (m - i) m j 0 S).length = D.length ∧ rot m (i - j) j (swapR (m - i) m j 0 S) = R := ⟨rfl, by omega, hj, by omega, hjl, by rw [swapR_len _ _ _ j 0 S (by omega)]; exact hSl, by rw [← rot_gt h hj]; exact hS⟩
    have hmu : i - j + j < d := by omega
    clear hS hR
    generalize swapR (m - i) m j 0 S = T at *
    exact wk trueW trueW trueW
end Sq
end Lf
set_option maxRecDepth 100000
namespace So
theorem bs_range (p : Nat → Bool) : ∀ (d i j : Nat), d = j - i → i ≤ j → i ≤ bs p i j ∧ bs p i j ≤ j := by
  intro d
  induction d using Nat.strongRecOn with
  | _ d ih =>
    intro i j hd h
    by_cases hij : i < j
    · rw [bs_step hij]
      split
      · have := ih (j - ((i + j) / 2 + 1)) (by omega) ((i + j) / 2 + 1) j rfl (by omega)
        omega
      · have := ih ((i + j) / 2 - i) (by omega) i ((i + j) / 2) rfl (by omega)
        omega
    · rw [bs_end hij]; omega
theorem symS_range (f : Nat → Nat) {a m b : Nat} (D : D0) (h1 : a < m) (h2 : m < b) : a ≤ symS f a m b D ∧ symS f a m b D ≤ m ∧ symS f a m b D ≤ (a + b) / 2 ∧ m ≤ (a + b) / 2 + m - symS f a m b D ∧ (a + b) / 2 + m - symS f a m b D ≤ b := by
  unfold symS
  split
  · have := bs_range (fun c => decide (¬ f (D.getD ((a + b) / 2 + m - 1 - c) default) < f (D.getD c default))) _ ((a + b) / 2 + m - b) ((a + b) / 2) rfl (by omega)
    omega
  · have := bs_range (fun c => decide (¬ f (D.getD ((a + b) / 2 + m - 1 - c) default) < f (D.getD c default))) _ a m rfl (by omega)
    omega
theorem symR_perm {m st en : Nat} {D : D0} (h : en ≤ D.length) : (symR m st en D).Perm D := by
  unfold symR
  split
  · exact (rot_mv m 0 D.length _ (m - st) (en - m) D rfl (by omega) (by omega) (by omega) (by omega) (by omega) (Nat.le_refl _)).perm
  · exact .refl _
theorem symM_perm (f : Nat → Nat) : ∀ (s a m b : Nat) (D : D0), s = b - a → a < m → m < b → b ≤ D.length → (symM f a m b D).Perm D ∧ (symL f a m b D).Perm D := by
  intro s
  induction s using Nat.strongRecOn with
  | _ s ih =>
    intro a m b D hs h1 h2 hb
    have hr := symS_range f D h1 h2
    have hL : (symL f a m b D).Perm D := by
      unfold symL
      have hR := symR_perm (m := m) (st := symS f a m b D) (en := (a + b) / 2 + m - symS f a m b D) (D := D) (by omega)
      split
      · rename_i h
        exact (ih ((a + b) / 2 - a) (by omega) a (symS f a m b D) ((a + b) / 2) _ rfl h.1 h.2 (by rw [hR.length_eq]; omega)).1.trans hR
      · exact hR
    refine ⟨?_, hL⟩
    by_cases k1 : m - a = 1
    · rw [symM_one k1]
      have := bs_range (fun h => decide (f (D.getD h default) < f (D.getD a default))) _ m b rfl (by omega)
      exact (upK_mv _ _ a D rfl (by omega) (by omega)).perm
    · by_cases k2 : b - m = 1
      · rw [symM_last k1 k2]
        have := bs_range (fun h => decide (¬ f (D.getD m default) < f (D.getD h default))) _ a m rfl (by omega)
        exact (dnK_mv _ m D (by omega) (by omega)).perm
      · rw [symM_all k1 k2]
        split
        · rename_i h
          exact (ih (b - (a + b) / 2) (by omega) ((a + b) / 2) _ b _ rfl h.1 h.2 (by rw [hL.length_eq]; exact hb)).1.trans hL
        · exact hL
end So
end Go.Proofs.Ytgjoecocahpfhaa

/- A part of the proof: texts joined. -/
import Derived.Test.YtgjoecocahpfhaaQ7f4e481
namespace Go.Proofs.Ytgjoecocahpfhaa
open Go.RowKit Rg
set_option linter.unusedVariables false
set_option maxRecDepth 100000
namespace Lf
namespace Sq
open So
theorem half (A B : Nat) : (A + B) / 2 ^ 1 = (A + B) / 2 := by rw [Nat.pow_one]
theorem upK_go {i k : Nat} {D : D0} (h : k + 1 < i) : upK i k D = upK i (k + 1) ((D.set k (D.getD (k + 1) default)).set (k + 1) (D.getD k default)) := upK_step h
theorem dnK_go {i k : Nat} {D : D0} (h : i < k) : dnK i k D = dnK i (k - 1) ((D.set k (D.getD (k - 1) default)).set (k - 1) (D.getD k default)) := by
  cases k with
  | zero => omega
  | succ k => rw [dnK, if_pos h]; rfl
theorem dnK_stop {i k : Nat} {D : D0} (h : ¬ i < k) : dnK i k D = D := by
  cases k with
  | zero => rfl
  | succ k => rw [dnK, if_neg h]
section
variable {f : Nat → Nat} {N : Nat} {B : List V}
def SymM (f : Nat → Nat) (B : List V) (g a m b : Nat) (D : D0) : Prop := LM Try.prog 87 [.w 1000 g 1 0 D.length, iK a, iK m, iK b, cfV] [(1000, .w 3 1 g (D.map iK)), (1001, .b B)] fun o q => o = .ret (.t []) ∧ q = [(1000, .w 3 1 g ((symM f a m b D).map iK)), (1001, .b B)]
set_option maxHeartbeats 4000000 in
theorem symM_1 (hc : CmpC f N B) (hB : ∀ m, V.refs.go m B = true) (D : D0) (g a m b : Nat) (hl : D.length < 1000000000) (h1 : a < m) (h2 : m < b) (hb : b ≤ D.length) (hN : ∀ x ∈ D, x < N) (k1 : m - a = 1) : SymM f B g a m b D := by
  unfold SymM
  have hrf := hB
  generalize hR : symM f a m b D = R
  rw [symM_one k1] at hR
  refine LM.enter tt Try.func87 rfl rfl rfl (by kernel_rfl) rfl rfl rfl (fun o mo h => by rw [h.2]; rfl) fun F _ => ?_
  have hel : (D.map iK).length = D.length := List.length_map _
  have hrg := bs_range (fun h => decide (f (D.getD h default) < f (D.getD a default))) _ m b rfl (by omega)
  generalize hq : bs (fun h => decide (f (D.getD h default) < f (D.getD a default))) m b = q at hR hrg
  refine wk ?_ trueW trueW
  refine LC.loop5 (fun d i j (_u3 : Unit) (_u4 : Unit) => [(0, .w 1000 g 1 0 D.length), (1, .k (.int .i64 ((a : Nat) : Int))), (2, .k (.int .i64 ((m : Nat) : Int))), (3, .k (.int .i64 ((b : Nat) : Int))), (4, cfV), (10, .k (.int .i64 ((i : Nat) : Int))), (11, .k (.int .i64 ((j : Nat) : Int)))]) (fun d i j (_u3 : Unit) (_u4 : Unit) => [(1000, .w 3 1 g (D.map iK)), (1001, .b B)]) (fun d i j (_u3 : Unit) (_u4 : Unit) => d = j - i ∧ m ≤ i ∧ i ≤ j ∧ j ≤ b ∧ bs (fun h => decide (f (D.getD h default) < f (D.getD a default))) i j = q) ((fun d => d)) (b - m) (m) (b) () () ⟨rfl, Nat.le_refl _, by omega, Nat.le_refl _, hq⟩ ⟨rfl, rfl, rfl, rfl, rfl, rfl, rfl, trivial⟩ ⟨rfl, rfl, trivial⟩ rfl rfW rfW ?_
  rintro d i j _ _ ⟨hd, hi, hij, hj, hbs⟩
  by_cases h : i < j
  · have hh1 : i ≤ (i + j) / 2 ^ 1 ∧ (i + j) / 2 ^ 1 < j := by rw [half]; omega
    rw [bs_step h, ← half] at hbs
    have c1 := hc _ _ (pm_lt hN (.refl _) (k := (i + j) / 2 ^ 1) (by omega)) (pm_lt hN (.refl _) (k := a) (by omega))
    by_cases hlt : f (D.getD ((i + j) / 2 ^ 1) default) < f (D.getD a default)
    · rw [cmpZ_lt hlt] at c1
      rw [if_pos (decide_eq_true hlt)] at hbs
      have hok : j - ((i + j) / 2 ^ 1 + 1) = j - ((i + j) / 2 ^ 1 + 1) ∧ m ≤ (i + j) / 2 ^ 1 + 1 ∧ (i + j) / 2 ^ 1 + 1 ≤ j ∧ j ≤ b ∧ bs (fun h => decide (f (D.getD h default) < f (D.getD a default))) ((i + j) / 2 ^ 1 + 1) j = q := ⟨rfl, by omega, by omega, hj, hbs⟩
      have hmu : j - ((i + j) / 2 ^ 1 + 1) < d := by omega
      clear hbs hR hq hlt
      exact wk trueW trueW trueW
    · have hz := cmpZ_ge hlt
      generalize cmpZ (f (D.getD ((i + j) / 2 ^ 1) default)) (f (D.getD a default)) = r at *
      rw [if_neg (by rw [decide_eq_false hlt]; decide)] at hbs
      have hok : (i + j) / 2 ^ 1 - i = (i + j) / 2 ^ 1 - i ∧ m ≤ i ∧ i ≤ (i + j) / 2 ^ 1 ∧ (i + j) / 2 ^ 1 ≤ b ∧ bs (fun h => decide (f (D.getD h default) < f (D.getD a default))) i ((i + j) / 2 ^ 1) = q := ⟨rfl, hi, by omega, by omega, hbs⟩
      have hmu : (i + j) / 2 ^ 1 - i < d := by omega
      clear hbs hR hq hlt
      exact wk trueW trueW trueW
  · rw [bs_end h] at hbs
    subst hbs
    clear hq
    refine wk ?_ trueW trueW
    refine LC.loop2 (fun k S => [(0, .w 1000 g 1 0 D.length), (10, .k (.int .i64 ((i : Nat) : Int))), (13, .k (.int .i64 ((k : Nat) : Int)))]) (fun k S => [(1000, .w 3 1 g (S.map iK)), (1001, .b B)]) (fun k S => a ≤ k ∧ S.length = D.length ∧ upK i k S = R) ((i - ·)) (a) (D) ⟨Nat.le_refl _, rfl, hR⟩ ⟨rfl, rfl, rfl, trivial⟩ ⟨rfl, rfl, trivial⟩ rfl rfW rfW ?_
    rintro k S ⟨hk, hSl, hS⟩
    have helS : (S.map iK).length = S.length := List.length_map _
    by_cases hki : k + 1 < i
    · have hok : a ≤ k + 1 ∧ ((S.set k (S.getD (k + 1) default)).set (k + 1) (S.getD k default)).length = D.length ∧ upK i (k + 1) ((S.set k (S.getD (k + 1) default)).set (k + 1) (S.getD k default)) = R := ⟨by omega, by rw [set_len2]; exact hSl, by rw [← upK_go hki]; exact hS⟩
      have hel2 : ((S.set k (S.getD (k + 1) default)).map iK).length = S.length := by rw [List.length_map, List.length_set]
      clear hS hR
      exact wk trueW trueW trueW
    · rw [upK_end hki] at hS
      subst hS
      clear hR
      exact wk trueW trueW trueW
set_option maxHeartbeats 4000000 in
theorem symM_2 (hc : CmpC f N B) (hB : ∀ m, V.refs.go m B = true) (D : D0) (g a m b : Nat) (hl : D.length < 1000000000) (h1 : a < m) (h2 : m < b) (hb : b ≤ D.length) (hN : ∀ x ∈ D, x < N) (k1 : ¬ m - a = 1) (k2 : b - m = 1) : SymM f B g a m b D := by
  unfold SymM
  have hrf := hB
  generalize hR : symM f a m b D = R
  rw [symM_last k1 k2] at hR
  refine LM.enter tt Try.func87 rfl rfl rfl (by kernel_rfl) rfl rfl rfl (fun o mo h => by rw [h.2]; rfl) fun F _ => ?_
  have hel : (D.map iK).length = D.length := List.length_map _
  have hrg := bs_range (fun h => decide (¬ f (D.getD m default) < f (D.getD h default))) _ a m rfl (by omega)
  generalize hq : bs (fun h => decide (¬ f (D.getD m default) < f (D.getD h default))) a m = q at hR hrg
  refine wk ?_ trueW trueW
  refine LC.loop5 (fun d i j (_u3 : Unit) (_u4 : Unit) => [(0, .w 1000 g 1 0 D.length), (1, .k (.int .i64 ((a : Nat) : Int))), (2, .k (.int .i64 ((m : Nat) : Int))), (3, .k (.int .i64 ((b : Nat) : Int))), (4, cfV), (14, .k (.int .i64 ((i : Nat) : Int))), (15, .k (.int .i64 ((j : Nat) : Int)))]) (fun d i j (_u3 : Unit) (_u4 : Unit) => [(1000, .w 3 1 g (D.map iK)), (1001, .b B)]) (fun d i j (_u3 : Unit) (_u4 : Unit) => d = j - i ∧ a ≤ i ∧ i ≤ j ∧ j ≤ m ∧ bs (fun h => decide (¬ f (D.getD m default) < f (D.getD h default))) i j = q) ((fun d => d)) (m - a) (a) (m) () () ⟨rfl, Nat.le_refl _, by omega, Nat.le_refl _, hq⟩ ⟨rfl, rfl, rfl, rfl, rfl, rfl, rfl, trivial⟩ ⟨rfl, rfl, trivial⟩ rfl rfW rfW ?_
  rintro d i j _ _ ⟨hd, hi, hij, hj, hbs⟩
  by_cases h : i < j
  · have hh1 : i ≤ (i + j) / 2 ^ 1 ∧ (i + j) / 2 ^ 1 < j := by rw [half]; omega
    rw [bs_step h, ← half] at hbs
    have c1 := hc _ _ (pm_lt hN (.refl _) (k := m) (by omega)) (pm_lt hN (.refl _) (k := (i + j) / 2 ^ 1) (by omega))
    by_cases hlt : f (D.getD m default) < f (D.getD ((i + j) / 2 ^ 1) default)
    · rw [cmpZ_lt hlt] at c1
      rw [if_neg (by rw [decide_eq_false (fun k => k hlt)]; decide)] at hbs
      have hok : (i + j) / 2 ^ 1 - i = (i + j) / 2 ^ 1 - i ∧ a ≤ i ∧ i ≤ (i + j) / 2 ^ 1 ∧ (i + j) / 2 ^ 1 ≤ m ∧ bs (fun h => decide (¬ f (D.getD m default) < f (D.getD h default))) i ((i + j) / 2 ^ 1) = q := ⟨rfl, hi, by omega, by omega, hbs⟩
      have hmu : (i + j) / 2 ^ 1 - i < d := by omega
      clear hbs hR hq hlt
      exact wk trueW trueW trueW
    · have hz := cmpZ_ge hlt
      generalize cmpZ (f (D.getD m default)) (f (D.getD ((i + j) / 2 ^ 1) default)) = r at *
      rw [if_pos (decide_eq_true hlt)] at hbs
      have hok : j - ((i + j) / 2 ^ 1 + 1) = j - ((i + j) / 2 ^ 1 + 1) ∧ a ≤ (i + j) / 2 ^ 1 + 1 ∧ (i + j) / 2 ^ 1 + 1 ≤ j ∧ j ≤ m ∧ bs (fun h => decide (¬ f (D.getD m default) < f (D.getD h default))) ((i + j) / 2 ^ 1 + 1) j = q := ⟨rfl, by omega, by omega, hj, hbs⟩
      have hmu : j - ((i + j) / 2 ^ 1 + 1) < d := by omega
      clear hbs hR hq hlt
      exact wk trueW trueW trueW
  · rw [bs_end h] at hbs
    subst hbs
    clear hq
    refine wk ?_ trueW trueW
    refine LC.loop2 (fun k S => [(0, .w 1000 g 1 0 D.length), (14, .k (.int .i64 ((i : Nat) : Int))), (17, .k (.int .i64 ((k : Nat) : Int)))]) (fun k S => [(1000, .w 3 1 g (S.map iK)), (1001, .b B)]) (fun k S => k ≤ m ∧ S.length = D.length ∧ dnK i k S = R) ((fun k => k)) (m) (D) ⟨Nat.le_refl _, rfl, hR⟩ ⟨rfl, rfl, rfl, trivial⟩ ⟨rfl, rfl, trivial⟩ rfl rfW rfW ?_
    rintro k S ⟨hk, hSl, hS⟩
    have helS : (S.map iK).length = S.length := List.length_map _
    by_cases hki : i < k
    · have hok : k - 1 ≤ m ∧ ((S.set k (S.getD (k - 1) default)).set (k - 1) (S.getD k default)).length = D.length ∧ dnK i (k - 1) ((S.set k (S.getD (k - 1) default)).set (k - 1) (S.getD k default)) = R := ⟨by omega, by rw [set_len2]; exact hSl, by rw [← dnK_go hki]; exact hS⟩
      have hel2 : ((S.set k (S.getD (k - 1) default)).map iK).length = S.length := by rw [List.length_map, List.length_set]
      clear hS hR
      exact wk trueW trueW trueW
    · rw [dnK_stop hki] at hS
      subst hS
      clear hR
      exact wk trueW trueW trueW
end
end Sq
end Lf
open Go.RowKit Rg
set_option linter.unusedVariables false
set_option maxRecDepth 100000
namespace Lf
namespace Sq
open So
section
variable {f : Nat → Nat} {N : Nat} {B : List V}
set_option maxHeartbeats 8000000 in
theorem symM_3p (hc : CmpC f N B) (hB : ∀ m, V.refs.go m B = true) (D : D0) (g a m b : Nat) (hl : D.length < 1000000000) (h1 : a < m) (h2 : m < b) (hb : b ≤ D.length) (hN : ∀ x ∈ D, x < N) (k1 : ¬ m - a = 1) (k2 : ¬ b - m = 1)
    (hm : (a + b) / 2 < m) (ih : ∀ (a' m' b' : Nat) (S : D0), b' - a' < b - a → a' < m' → m' < b' → b' ≤ S.length → S.length = D.length → (∀ x ∈ S, x < N) → SymM f B g a' m' b' S) : SymM f B g a m b D := by
  unfold SymM
  have hrf := hB
  generalize hR : symM f a m b D = R
  have hsr := symS_range f D h1 h2
  rw [symM_all k1 k2] at hR
  unfold symL symR at hR
  refine LM.enter tt Try.func87 rfl rfl rfl (by kernel_rfl) rfl rfl rfl (fun o mo h => by rw [h.2]; rfl) fun F _ => ?_
  have hel : (D.map iK).length = D.length := List.length_map _
  generalize hst : symS f a m b D = st at hR hsr
  unfold symS at hst
  obtain ⟨M, hM⟩ : ∃ M, M = (a + b) / 2 ^ 1 := ⟨_, rfl⟩
  have hM2 : M = (a + b) / 2 := by rw [hM, half]
  rw [← hM2] at hR hsr hst
  rw [← hM2] at hm
  have hM3 : a < M ∧ M < b := by omega
  rw [if_pos hm] at hst
  refine wk ?_ trueW trueW
  rw [← hM]
  clear hM
  refine LC.loop5 (fun d i j (_u3 : Unit) (_u4 : Unit) => [(0, .w 1000 g 1 0 D.length), (1, .k (.int .i64 ((a : Nat) : Int))), (2, .k (.int .i64 ((m : Nat) : Int))), (3, .k (.int .i64 ((b : Nat) : Int))), (4, cfV), (18, .k (.int .i64 ((M : Nat) : Int))), (19, .k (.int .i64 (((M + m) : Nat) : Int))), (20, .k (.int .i64 ((i : Nat) : Int))), (21, .k (.int .i64 ((j : Nat) : Int))), (22, .k (.int .i64 (((M + m - 1) : Nat) : Int)))]) (fun d i j (_u3 : Unit) (_u4 : Unit) => [(1000, .w 3 1 g (D.map iK)), (1001, .b B)]) (fun d i j (_u3 : Unit) (_u4 : Unit) => d = j - i ∧ M + m - b ≤ i ∧ i ≤ j ∧ j ≤ M ∧ bs (fun c => decide (¬ f (D.getD (M + m - 1 - c) default) < f (D.getD c default))) i j = st) ((fun d => d)) (M - (M + m - b)) (M + m - b) (M) () () ⟨rfl, Nat.le_refl _, by omega, Nat.le_refl _, hst⟩ ⟨rfl, rfl, rfl, rfl, rfl, rfl, rfl, rfl, rfl, rfl, trivial⟩ ⟨rfl, rfl, trivial⟩ rfl rfW rfW ?_
  rintro d i j _ _ ⟨hd, hi, hij, hj, hbs⟩
  by_cases h : i < j
  · have hh1 : i ≤ (i + j) / 2 ^ 1 ∧ (i + j) / 2 ^ 1 < j := by rw [half]; omega
    rw [bs_step h, ← half] at hbs
    have hpc : M + m - 1 - (i + j) / 2 ^ 1 < D.length ∧ (i + j) / 2 ^ 1 ≤ M + m - 1 := by omega
    have c1 := hc _ _ (pm_lt hN (.refl _) (k := M + m - 1 - (i + j) / 2 ^ 1) (by omega)) (pm_lt hN (.refl _) (k := (i + j) / 2 ^ 1) (by omega))
    by_cases hlt : f (D.getD (M + m - 1 - (i + j) / 2 ^ 1) default) < f (D.getD ((i + j) / 2 ^ 1) default)
    · rw [cmpZ_lt hlt] at c1
      rw [if_neg (by rw [decide_eq_false (fun k => k hlt)]; decide)] at hbs
      have hok : (i + j) / 2 ^ 1 - i = (i + j) / 2 ^ 1 - i ∧ M + m - b ≤ i ∧ i ≤ (i + j) / 2 ^ 1 ∧ (i + j) / 2 ^ 1 ≤ M ∧ bs (fun c => decide (¬ f (D.getD (M + m - 1 - c) default) < f (D.getD c default))) i ((i + j) / 2 ^ 1) = st := ⟨rfl, hi, by omega, by omega, hbs⟩
      have hmu : (i + j) / 2 ^ 1 - i < d := by omega
      clear hbs hR hst hlt ih hM2 hN
      exact wk trueW trueW trueW
    · have hz := cmpZ_ge hlt
      generalize cmpZ (f (D.getD (M + m - 1 - (i + j) / 2 ^ 1) default)) (f (D.getD ((i + j) / 2 ^ 1) default)) = r at *
      rw [if_pos (decide_eq_true hlt)] at hbs
      have hok : j - ((i + j) / 2 ^ 1 + 1) = j - ((i + j) / 2 ^ 1 + 1) ∧ M + m - b ≤ (i + j) / 2 ^ 1 + 1 ∧ (i + j) / 2 ^ 1 + 1 ≤ j ∧ j ≤ M ∧ bs (fun c => decide (¬ f (D.getD (M + m - 1 - c) default) < f (D.getD c default))) ((i + j) / 2 ^ 1 + 1) j = st := ⟨rfl, by omega, by omega, hj, hbs⟩
      have hmu : j - ((i + j) / 2 ^ 1 + 1) < d := by omega
      clear hbs hR hst hlt ih hM2 hN
      exact wk trueW trueW trueW
  · rw [bs_end h] at hbs
    subst hbs
    clear hst hd hi hij hj hM2
    by_cases q1 : i < m
    case neg =>
      rw [if_neg (by omega), if_neg (show ¬ (i < m ∧ m < M + m - i) by omega)] at hR
      by_cases q2 : i < M
      · rw [if_pos (by omega)] at hR
        have c1 := ih a i M D (by omega) (by omega) q2 (by omega) rfl hN
        unfold SymM at c1
        rw [hR] at c1
        have q3 : a < i := by omega
        clear ih hR hN
        exact wk trueW trueW trueW
      · rw [if_neg (by omega)] at hR
        subst hR
        clear ih hN
        exact wk trueW trueW trueW
    case pos =>
      by_cases q2 : m < M + m - i
      case neg =>
        rw [if_neg (show ¬ (i < m ∧ m < M + m - i) by omega), if_neg (show ¬ (a < i ∧ i < M) by omega), if_pos (by omega)] at hR
        have c1 := ih M (M + m - i) b D (by omega) (by omega) (by omega) hb rfl hN
        unfold SymM at c1
        rw [hR] at c1
        have q3 : ¬ i < M := by omega
        have q4 : M < M + m - i := by omega
        have q5 : M + m - i < b := by omega
        clear ih hR hN
        exact wk trueW trueW trueW
      case pos =>
        rw [if_pos (show i < m ∧ m < M + m - i from ⟨q1, q2⟩)] at hR
        have c1 := rot_ D g i m (M + m - i) B hl q1 q2 (by omega) hB
        have p1 := rot_mv m 0 D.length _ (m - i) (M + m - i - m) D rfl (by omega) (by omega) (by omega) (by omega) (by omega) (Nat.le_refl _)
        have q3 : i < M := by omega
        have q4 : M < M + m - i := by omega
        generalize rot m (m - i) (M + m - i - m) D = T1 at *
        have hT1 := p1.len
        have hN1 : ∀ x ∈ T1, x < N := fun x hx => hN x (p1.perm.mem_iff.1 hx)
        by_cases q5 : a < i
        · rw [if_pos (show a < i ∧ i < M from ⟨q5, q3⟩)] at hR
          have c2 := ih a i M T1 (by omega) q5 q3 (by omega) hT1 hN1
          unfold SymM at c2
          have p2 := (symM_perm f _ a i M T1 rfl q5 q3 (by omega)).1
          generalize symM f a i M T1 = T2 at *
          have hT2 := p2.length_eq
          by_cases q6 : M + m - i < b
          · rw [if_pos (show M < M + m - i ∧ M + m - i < b from ⟨q4, q6⟩)] at hR
            have c3 := ih M (M + m - i) b T2 (by omega) q4 q6 (by omega) (by omega) fun x hx => hN1 x (p2.mem_iff.1 hx)
            unfold SymM at c3
            rw [hR] at c3
            rw [hT1] at c2
            rw [hT2, hT1] at c3
            clear ih hR hN hN1 p1 p2
            exact wk trueW trueW trueW
          · rw [if_neg (show ¬ (M < M + m - i ∧ M + m - i < b) by omega)] at hR
            subst hR
            rw [hT1] at c2
            clear ih hN hN1 p1 p2
            exact wk trueW trueW trueW
        · rw [if_neg (show ¬ (a < i ∧ i < M) by omega)] at hR
          by_cases q6 : M + m - i < b
          · rw [if_pos (show M < M + m - i ∧ M + m - i < b from ⟨q4, q6⟩)] at hR
            have c3 := ih M (M + m - i) b T1 (by omega) q4 q6 (by omega) hT1 hN1
            unfold SymM at c3
            rw [hR, hT1] at c3
            have c2 := c3
            clear ih hR hN hN1 p1
            exact wk trueW trueW trueW
          · rw [if_neg (show ¬ (M < M + m - i ∧ M + m - i < b) by omega)] at hR
            subst hR
            clear ih hN hN1 p1
            exact wk trueW trueW trueW
end
end Sq
end Lf
end Go.Proofs.Ytgjoecocahpfhaa

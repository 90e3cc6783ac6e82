/- A part of the proof: texts joined. -/
import Derived.Test.YtgjoecocahpfhaaQ8b57eeb
namespace Go.Proofs.Ytgjoecocahpfhaa
open Go.RowKit Rg
set_option linter.unusedVariables false
set_option maxRecDepth 100000
namespace Lf
namespace Sq
open So
section
variable {f : Nat → Nat} {N : Nat} {B : List V}
set_option maxHeartbeats 8000000 in
theorem symM_3n (hc : CmpC f N B) (hB : ∀ m, V.refs.go m B = true) (D : D0) (g a m b : Nat) (hl : D.length < 1000000000) (h1 : a < m) (h2 : m < b) (hb : b ≤ D.length) (hN : ∀ x ∈ D, x < N) (k1 : ¬ m - a = 1) (k2 : ¬ b - m = 1)
    (hm : ¬ (a + b) / 2 < m) (ih : ∀ (a' m' b' : Nat) (S : D0), b' - a' < b - a → a' < m' → m' < b' → b' ≤ S.length → S.length = D.length → (∀ x ∈ S, x < N) → SymM f B g a' m' b' S) : SymM f B g a m b D := by
  unfold SymM
  have hrf := hB
  generalize hR : symM f a m b D = R
  have hsr := symS_range f D h1 h2
  rw [symM_all k1 k2] at hR
  unfold symL symR at hR
  refine LM.enter tt Try.func87 rfl rfl rfl (by kernel_rfl) rfl rfl rfl (fun o mo h => by rw [h.2]; rfl) fun F _ => ?_
  have hel : (D.map iK).length = D.length := List.length_map _
  generalize hst : symS f a m b D = st at hR hsr
  unfold symS at hst
  obtain ⟨M, hM⟩ : ∃ M, M = (a + b) / 2 ^ 1 := ⟨_, rfl⟩
  have hM2 : M = (a + b) / 2 := by rw [hM, half]
  rw [← hM2] at hR hsr hst
  rw [← hM2] at hm
  have hM3 : a < M ∧ M < b := by omega
  rw [if_neg hm] at hst
  refine wk ?_ trueW trueW
  rw [← hM]
  clear hM
  refine LC.loop5 (fun d i j (_u3 : Unit) (_u4 : Unit) => [(0, .w 1000 g 1 0 D.length), (1, .k (.int .i64 ((a : Nat) : Int))), (2, .k (.int .i64 ((m : Nat) : Int))), (3, .k (.int .i64 ((b : Nat) : Int))), (4, cfV), (18, .k (.int .i64 ((M : Nat) : Int))), (19, .k (.int .i64 (((M + m) : Nat) : Int))), (20, .k (.int .i64 ((i : Nat) : Int))), (21, .k (.int .i64 ((j : Nat) : Int))), (22, .k (.int .i64 (((M + m - 1) : Nat) : Int)))]) (fun d i j (_u3 : Unit) (_u4 : Unit) => [(1000, .w 3 1 g (D.map iK)), (1001, .b B)]) (fun d i j (_u3 : Unit) (_u4 : Unit) => d = j - i ∧ a ≤ i ∧ i ≤ j ∧ j ≤ m ∧ bs (fun c => decide (¬ f (D.getD (M + m - 1 - c) default) < f (D.getD c default))) i j = st) ((fun d => d)) (m - (a)) (a) (m) () () ⟨rfl, Nat.le_refl _, by omega, Nat.le_refl _, hst⟩ ⟨rfl, rfl, rfl, rfl, rfl, rfl, rfl, rfl, rfl, rfl, trivial⟩ ⟨rfl, rfl, trivial⟩ rfl rfW rfW ?_
  rintro d i j _ _ ⟨hd, hi, hij, hj, hbs⟩
  by_cases h : i < j
  · have hh1 : i ≤ (i + j) / 2 ^ 1 ∧ (i + j) / 2 ^ 1 < j := by rw [half]; omega
    rw [bs_step h, ← half] at hbs
    have hpc : M + m - 1 - (i + j) / 2 ^ 1 < D.length ∧ (i + j) / 2 ^ 1 ≤ M + m - 1 := by omega
    have c1 := hc _ _ (pm_lt hN (.refl _) (k := M + m - 1 - (i + j) / 2 ^ 1) (by omega)) (pm_lt hN (.refl _) (k := (i + j) / 2 ^ 1) (by omega))
    by_cases hlt : f (D.getD (M + m - 1 - (i + j) / 2 ^ 1) default) < f (D.getD ((i + j) / 2 ^ 1) default)
    · rw [cmpZ_lt hlt] at c1
      rw [if_neg (by rw [decide_eq_false (fun k => k hlt)]; decide)] at hbs
      have hok : (i + j) / 2 ^ 1 - i = (i + j) / 2 ^ 1 - i ∧ a ≤ i ∧ i ≤ (i + j) / 2 ^ 1 ∧ (i + j) / 2 ^ 1 ≤ m ∧ bs (fun c => decide (¬ f (D.getD (M + m - 1 - c) default) < f (D.getD c default))) i ((i + j) / 2 ^ 1) = st := ⟨rfl, hi, by omega, by omega, hbs⟩
      have hmu : (i + j) / 2 ^ 1 - i < d := by omega
      clear hbs hR hst hlt ih hM2 hN
      exact wk trueW trueW trueW
    · have hz := cmpZ_ge hlt
      generalize cmpZ (f (D.getD (M + m - 1 - (i + j) / 2 ^ 1) default)) (f (D.getD ((i + j) / 2 ^ 1) default)) = r at *
      rw [if_pos (decide_eq_true hlt)] at hbs
      have hok : j - ((i + j) / 2 ^ 1 + 1) = j - ((i + j) / 2 ^ 1 + 1) ∧ a ≤ (i + j) / 2 ^ 1 + 1 ∧ (i + j) / 2 ^ 1 + 1 ≤ j ∧ j ≤ m ∧ bs (fun c => decide (¬ f (D.getD (M + m - 1 - c) default) < f (D.getD c default))) ((i + j) / 2 ^ 1 + 1) j = st := ⟨rfl, by omega, by omega, hj, hbs⟩
      have hmu : j - ((i + j) / 2 ^ 1 + 1) < d := by omega
      clear hbs hR hst hlt ih hM2 hN
      exact wk trueW trueW trueW
  · rw [bs_end h] at hbs
    subst hbs
    clear hst hd hi hij hj hM2
    by_cases q1 : i < m
    case neg =>
      rw [if_neg (by omega), if_neg (show ¬ (i < m ∧ m < M + m - i) by omega)] at hR
      by_cases q2 : i < M
      · rw [if_pos (by omega)] at hR
        have c1 := ih a i M D (by omega) (by omega) q2 (by omega) rfl hN
        unfold SymM at c1
        rw [hR] at c1
        have q3 : a < i := by omega
        clear ih hR hN
        exact wk trueW trueW trueW
      · rw [if_neg (by omega)] at hR
        subst hR
        clear ih hN
        exact wk trueW trueW trueW
    case pos =>
      by_cases q2 : m < M + m - i
      case neg =>
        rw [if_neg (show ¬ (i < m ∧ m < M + m - i) by omega), if_neg (show ¬ (a < i ∧ i < M) by omega), if_pos (by omega)] at hR
        have c1 := ih M (M + m - i) b D (by omega) (by omega) (by omega) hb rfl hN
        unfold SymM at c1
        rw [hR] at c1
        have q3 : ¬ i < M := by omega
        have q4 : M < M + m - i := by omega
        have q5 : M + m - i < b := by omega
        clear ih hR hN
        exact wk trueW trueW trueW
      case pos =>
        rw [if_pos (show i < m ∧ m < M + m - i from ⟨q1, q2⟩)] at hR
        have c1 := rot_ D g i m (M + m - i) B hl q1 q2 (by omega) hB
        have p1 := rot_mv m 0 D.length _ (m - i) (M + m - i - m) D rfl (by omega) (by omega) (by omega) (by omega) (by omega) (Nat.le_refl _)
        have q3 : i < M := by omega
        have q4 : M < M + m - i := by omega
        generalize rot m (m - i) (M + m - i - m) D = T1 at *
        have hT1 := p1.len
        have hN1 : ∀ x ∈ T1, x < N := fun x hx => hN x (p1.perm.mem_iff.1 hx)
        by_cases q5 : a < i
        · rw [if_pos (show a < i ∧ i < M from ⟨q5, q3⟩)] at hR
          have c2 := ih a i M T1 (by omega) q5 q3 (by omega) hT1 hN1
          unfold SymM at c2
          have p2 := (symM_perm f _ a i M T1 rfl q5 q3 (by omega)).1
          generalize symM f a i M T1 = T2 at *
          have hT2 := p2.length_eq
          by_cases q6 : M + m - i < b
          · rw [if_pos (show M < M + m - i ∧ M + m - i < b from ⟨q4, q6⟩)] at hR
            have c3 := ih M (M + m - i) b T2 (by omega) q4 q6 (by omega) (by omega) fun x hx => hN1 x (p2.mem_iff.1 hx)
            unfold SymM at c3
            rw [hR] at c3
            rw [hT1] at c2
            rw [hT2, hT1] at c3
            clear ih hR hN hN1 p1 p2
            exact wk trueW trueW trueW
          · rw [if_neg (show ¬ (M < M + m - i ∧ M + m - i < b) by omega)] at hR
            subst hR
            rw [hT1] at c2
            clear ih hN hN1 p1 p2
            exact wk trueW trueW trueW
        · rw [if_neg (show ¬ (a < i ∧ i < M) by omega)] at hR
          by_cases q6 : M + m - i < b
          · rw [if_pos (show M < M + m - i ∧ M + m - i < b from ⟨q4, q6⟩)] at hR
            have c3 := ih M (M + m - i) b T1 (by omega) q4 q6 (by omega) hT1 hN1
            unfold SymM at c3
            rw [hR, hT1] at c3
            have c2 := c3
            clear ih hR hN hN1 p1
            exact wk trueW trueW trueW
          · rw [if_neg (show ¬ (M < M + m - i ∧ M + m - i < b) by omega)] at hR
            subst hR
            clear ih hN hN1 p1
            exact wk trueW trueW trueW
theorem symM_ (hc : CmpC f N B) (hB : ∀ m, V.refs.go m B = true) (g : Nat) : ∀ (s a m b : Nat) (D : D0), s = b - a → D.length < 1000000000 → a < m → m < b → b ≤ D.length → (∀ x ∈ D, x < N) → SymM f B g a m b D := by
  intro s
  induction s using Nat.strongRecOn with
  | _ s ih =>
    intro a m b D hs hl h1 h2 hb hN
    by_cases k1 : m - a = 1
    · exact symM_1 hc hB D g a m b hl h1 h2 hb hN k1
    · by_cases k2 : b - m = 1
      · exact symM_2 hc hB D g a m b hl h1 h2 hb hN k1 k2
      · have ih' : ∀ (a' m' b' : Nat) (S : D0), b' - a' < b - a → a' < m' → m' < b' → b' ≤ S.length → S.length = D.length → (∀ x ∈ S, x < N) → SymM f B g a' m' b' S := fun a' m' b' S j1 j2 j3 j4 j5 j6 => ih (b' - a') (by omega) a' m' b' S rfl (by omega) j2 j3 j4 j6
        by_cases hm : (a + b) / 2 < m
        · exact symM_3p hc hB D g a m b hl h1 h2 hb hN k1 k2 hm ih'
        · exact symM_3n hc hB D g a m b hl h1 h2 hb hN k1 k2 hm ih'
end
end Sq
end Lf
open Go.RowKit Rg
set_option linter.unusedVariables false
set_option maxRecDepth 100000
namespace Lf
namespace Sq
open So
section
variable {f : Nat → Nat} {N : Nat} {B : List V}
theorem insS_perm (f : Nat → Nat) (a b : Nat) : ∀ (d i : Nat) (D : D0), d = b - i → a ≤ i → b ≤ D.length → (insS f a b i D).Perm D := by
  intro d
  induction d with
  | zero => intro i D hd _ _; rw [insS_end (by omega)]
  | succ d ih =>
    intro i D hd hi hb
    rw [insS_step (by omega)]
    have m1 := insJ_mv f a i D hi (by omega)
    exact (ih (i + 1) _ (by omega) (by omega) (by rw [m1.len]; exact hb)).trans m1.perm
set_option maxHeartbeats 8000000 in
theorem stable_ (hc : CmpC f N B) (hB : ∀ m, V.refs.go m B = true) (D : D0) (g : Nat) (hl : D.length < 100000000) (hN : ∀ x ∈ D, x < N) : LM Try.prog 73 [.w 1000 g 1 0 D.length, iK D.length, cfV] [(1000, .w 3 1 g (D.map iK)), (1001, .b B)] fun o q => o = .ret (.t []) ∧ q = [(1000, .w 3 1 g ((So.sort f D).map iK)), (1001, .b B)] := by
  have hrf := hB
  generalize hR : So.sort f D = R
  unfold So.sort at hR
  generalize hR1 : blkI f D.length 0 20 D = R1 at hR
  refine LM.enter tt Try.func73 rfl rfl rfl (by kernel_rfl) rfl rfl rfl (fun o mo h => by rw [h.2]; rfl) fun F _ => ?_
  refine wk ?_ trueW trueW
  refine LC.loop5 (fun b a S (_u3 : Unit) (_u4 : Unit) => [(0, .w 1000 g 1 0 D.length), (1, .k (.int .i64 ((D.length : Nat) : Int))), (2, cfV), (6, .k (.int .i64 ((20 : Nat) : Int))), (7, .k (.int .i64 ((a : Nat) : Int))), (8, .k (.int .i64 ((b : Nat) : Int)))]) (fun b a S (_u3 : Unit) (_u4 : Unit) => [(1000, .w 3 1 g (S.map iK)), (1001, .b B)]) (fun b a S (_u3 : Unit) (_u4 : Unit) => a ≤ b ∧ b ≤ D.length + 20 ∧ a ≤ D.length ∧ S.Perm D ∧ blkI f D.length a b S = R1) ((D.length + 1 - ·)) (20) (0) (D) () () ⟨by omega, by omega, by omega, .refl _, hR1⟩ ⟨rfl, rfl, rfl, rfl, rfl, rfl, trivial⟩ ⟨rfl, rfl, trivial⟩ rfl rfW rfW ?_
  rintro b a S _ _ ⟨hab, hbl, hal, hp, hS⟩
  have hSl : S.length = D.length := hp.length_eq
  have hNS : ∀ x ∈ S, x < N := fun x hx => hN x (hp.mem_iff.1 hx)
  by_cases h : b ≤ D.length
  · have c1 := insSort_ hc hB S g a b (by omega) (by omega) (by omega) hNS
    rw [hSl] at c1
    rw [blkI_step h] at hS
    have p1 := (insS_perm f a b _ (a + 1) S rfl (by omega) (by omega)).trans hp
    have hok : b ≤ b + 20 ∧ b + 20 ≤ D.length + 20 ∧ b ≤ D.length ∧ (insS f a b (a + 1) S).Perm D ∧ blkI f D.length b (b + 20) (insS f a b (a + 1) S) = R1 := ⟨by omega, by omega, h, p1, hS⟩
    clear hS hR hR1 p1 hp hN hNS hc
    generalize insS f a b (a + 1) S = T at *
    exact wk trueW trueW trueW
  · rw [blkI_end h] at hS
    have c1 := insSort_ hc hB S g a D.length (by omega) (by omega) (by omega) hNS
    rw [hSl] at c1
    have p1 := (insS_perm f a D.length _ (a + 1) S rfl (by omega) (by omega)).trans hp
    rw [hS] at c1 p1
    clear hS hR1 hp hNS
    refine wk ?_ trueW trueW
    refine LC.loop2 (fun s S => [(0, .w 1000 g 1 0 D.length), (1, .k (.int .i64 ((D.length : Nat) : Int))), (2, cfV), (6, .k (.int .i64 ((s : Nat) : Int)))]) (fun s S => [(1000, .w 3 1 g (S.map iK)), (1001, .b B)]) (fun s S => 0 < s ∧ s ≤ 2 * D.length + 20 ∧ S.Perm D ∧ stab f s D.length S = R) ((D.length - ·)) (20) (R1) ⟨by decide, by omega, p1, hR⟩ ⟨rfl, rfl, rfl, rfl, trivial⟩ ⟨rfl, rfl, trivial⟩ rfl rfW rfW ?_
    clear p1 hR hSl
    rintro s S ⟨h0, hsl, hp, hS⟩
    have hSl : S.length = D.length := hp.length_eq
    by_cases h : s < D.length
    · rw [stab_step h h0] at hS
      generalize hQ : mrgI f s D.length 0 (2 * s) S = Q at hS
      clear c1
      refine wk ?_ trueW trueW
      refine LC.loop5 (fun b a T (_u3 : Unit) (_u4 : Unit) => [(0, .w 1000 g 1 0 D.length), (1, .k (.int .i64 ((D.length : Nat) : Int))), (2, cfV), (6, .k (.int .i64 ((s : Nat) : Int))), (7, .k (.int .i64 ((a : Nat) : Int))), (8, .k (.int .i64 ((b : Nat) : Int)))]) (fun b a T (_u3 : Unit) (_u4 : Unit) => [(1000, .w 3 1 g (T.map iK)), (1001, .b B)]) (fun b a T (_u3 : Unit) (_u4 : Unit) => b = a + 2 * s ∧ a ≤ D.length ∧ T.Perm D ∧ mrgI f s D.length a b T = Q) ((D.length + 1 - ·)) (2 * s) (0) (S) () () ⟨by omega, by omega, hp, hQ⟩ ⟨rfl, rfl, rfl, rfl, rfl, rfl, trivial⟩ ⟨rfl, rfl, trivial⟩ rfl rfW rfW ?_
      clear hp hQ hSl
      rintro b a T _ _ ⟨hb, hal, hp, hT⟩
      have hTl : T.length = D.length := hp.length_eq
      have hNT : ∀ x ∈ T, x < N := fun x hx => hN x (hp.mem_iff.1 hx)
      by_cases hbn : b ≤ D.length
      · rw [mrgI_step hbn h0] at hT
        have c1 := symM_ hc hB g _ a (a + s) b T rfl (by omega) (by omega) (by omega) (by omega) hNT
        unfold SymM at c1
        rw [hTl] at c1
        have p1 := (symM_perm f _ a (a + s) b T rfl (by omega) (by omega) (by omega)).1.trans hp
        have hok : b + 2 * s = b + 2 * s ∧ b ≤ D.length ∧ (symM f a (a + s) b T).Perm D ∧ mrgI f s D.length b (b + 2 * s) (symM f a (a + s) b T) = Q := ⟨rfl, hbn, p1, hT⟩
        have hmu : D.length + 1 - (b + 2 * s) < D.length + 1 - b := by omega
        clear hT p1 hp hNT hN hc hS
        generalize symM f a (a + s) b T = U at *
        exact wk trueW trueW trueW
      · rw [mrgI_end hbn] at hT
        by_cases hm : a + s < D.length
        · rw [if_pos hm] at hT
          have c1 := symM_ hc hB g _ a (a + s) D.length T rfl (by omega) (by omega) hm (by omega) hNT
          unfold SymM at c1
          rw [hTl, hT] at c1
          have p1 := (symM_perm f _ a (a + s) D.length T rfl (by omega) hm (by omega)).1.trans hp
          rw [hT] at p1
          have hok : 0 < s * 2 ∧ s * 2 ≤ 2 * D.length + 20 ∧ Q.Perm D ∧ stab f (s * 2) D.length Q = R := ⟨by omega, by omega, p1, hS⟩
          have hmu : D.length - s * 2 < D.length - s := by omega
          clear hT p1 hp hNT hN hc hS
          exact wk trueW trueW trueW
        · rw [if_neg hm] at hT
          subst hT
          have hok : 0 < s * 2 ∧ s * 2 ≤ 2 * D.length + 20 ∧ T.Perm D ∧ stab f (s * 2) D.length T = R := ⟨by omega, by omega, hp, hS⟩
          have hmu : D.length - s * 2 < D.length - s := by omega
          clear hp hNT hN hc hS
          exact wk trueW trueW trueW
    · rw [stab_end h] at hS
      subst hS
      clear hp hN hc c1
      exact wk trueW trueW trueW
set_option maxHeartbeats 1000000 in
theorem SortStable_ (hc : CmpC f N B) (hB : ∀ m, V.refs.go m B = true) (D : D0) (g : Nat) (hl : D.length < 100000000) (hN : ∀ x ∈ D, x < N) : LM Try.prog 47 [.w 1000 g 1 0 D.length, cfV] [(1000, .w 3 1 g (D.map iK)), (1001, .b B)] fun o q => o = .ret (.t []) ∧ q = [(1000, .w 3 1 g ((So.sort f D).map iK)), (1001, .b B)] := by
  have hrf := hB
  have c1 := stable_ hc hB D g hl hN
  generalize So.sort f D = R at *
  refine LM.enter tt Try.func47 rfl rfl rfl (by kernel_rfl) rfl rfl rfl (fun o mo h => by rw [h.2]; rfl) fun F _ => ?_
  clear hc hN
  exact wk trueW trueW trueW
end
end Sq
end Lf
end Go.Proofs.Ytgjoecocahpfhaa

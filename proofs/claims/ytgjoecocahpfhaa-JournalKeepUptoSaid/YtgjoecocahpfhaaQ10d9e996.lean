/- A part of the proof: texts joined. -/
import Derived.Test.YtgjoecocahpfhaaQ90fdaa8
namespace Go.Proofs.Ytgjoecocahpfhaa
open Go.RowKit Rg
set_option linter.unusedVariables false
set_option maxRecDepth 100000
namespace Lf
namespace Jq
def pI (k : Nat) : Int := (k : Int) - 1
theorem pI_z : pI 0 = -1 := rfl
theorem pI_s (j : Nat) : pI (j + 1) = ((j : Nat) : Int) := by unfold pI; omega
theorem pI_w {j : Nat} (h : j < 1000000000) : IntKind.i64.wrap (((j : Nat) : Int) - 1) = pI j := by
  unfold pI
  exact wrap_i64 (by omega)
set_option maxHeartbeats 4000000 in
theorem heap_ (D : List Nat) (g a b : Nat) (hl : D.length < 100000000) (hab : a < b) (hb : b ≤ D.length) : LM Try.prog 96 [sQ g D.length, iK a, iK b] (mQ g D) fun o m => o = .ret (.t []) ∧ m = mQ g (Go.Sort.heapSort ltN D.toArray a b).toList := by
  generalize hR : Go.Sort.heapSort ltN D.toArray a b = R
  unfold Go.Sort.heapSort at hR
  have hel0 : (D.map uK).length = D.length := List.length_map _
  have hq : (((b - a - 1) / 2 : Nat) : Int) = pI ((b - a - 1) / 2 + 1) := (pI_s _).symm
  have hq2 : ((b - a - 1 : Nat) : Int) = pI (b - a) := by unfold pI; omega
  refine LM.enter tt Try.func96 rfl rfl rfl (by kernel_rfl) rfl rfl rfl (fun o mo h => by rw [h.2]; rfl) fun F _ => ?_
  refine wk ?_ trueW trueW
  rw [hq]
  refine LC.loop2 (fun k S => [(0, .w 1000 g 1 0 D.length), (6, .k (.int .i64 ((a : Nat) : Int))), (7, .k (.int .i64 0)), (8, .k (.int .i64 (((b - a) : Nat) : Int))), (9, .k (.int .i64 (pI k)))]) (fun k S => [(1000, .w 24 1 g (S.map uK))]) (fun k S => S.length = D.length ∧ k ≤ b - a ∧ Go.Sort.heapPop ltN a (b - a) (Go.Sort.heapBuild ltN (b - a) a k S.toArray) = R) ((fun k => k)) ((b - a - 1) / 2 + 1) (D) ⟨rfl, by omega, hR⟩ ⟨rfl, rfl, rfl, rfl, rfl, trivial⟩ ⟨rfl, trivial⟩ rfl rfW rfW ?_
  rintro k S ⟨hSl, hk, hS⟩
  clear hR hq
  have hel : (S.map uK).length = S.length := List.length_map _
  match k, hk, hS with
  | k + 1, hk, hS =>
    rw [pI_s]
    have hw := pI_w (j := k) (by omega)
    have c1 := sift_ S g k (b - a) a (by omega) (by omega) (by omega)
    rw [hSl] at c1
    rw [Go.Sort.heapBuild] at hS
    have hz := sd_size (b - a) a (b - a - k) k S.toArray (Nat.le_refl _)
    generalize Go.Sort.siftDown ltN (b - a) a k S.toArray = T at *
    have hTl : T.toList.length = D.length := by rw [Array.length_toList, hz]; exact hSl
    have hok : T.toList.length = D.length ∧ k ≤ b - a ∧ Go.Sort.heapPop ltN a (b - a) (Go.Sort.heapBuild ltN (b - a) a k T.toList.toArray) = R := ⟨hTl, by omega, hS⟩
    clear hS hz
    exact wk trueW trueW trueW
  | 0, hk, hS =>
    rw [pI_z]
    rw [Go.Sort.heapBuild] at hS
    refine wk ?_ trueW trueW
    rw [hq2]
    refine LC.loop2 (fun k S => [(0, .w 1000 g 1 0 D.length), (6, .k (.int .i64 ((a : Nat) : Int))), (7, .k (.int .i64 0)), (10, .k (.int .i64 (pI k)))]) (fun k S => [(1000, .w 24 1 g (S.map uK))]) (fun k S => S.length = D.length ∧ k ≤ b - a ∧ Go.Sort.heapPop ltN a k S.toArray = R) ((fun k => k)) (b - a) (S) ⟨hSl, Nat.le_refl _, hS⟩ ⟨rfl, rfl, rfl, rfl, trivial⟩ ⟨rfl, trivial⟩ rfl rfW rfW ?_
    clear hS hSl hel hk
    rintro k S ⟨hSl, hk, hS⟩
    have hel : (S.map uK).length = S.length := List.length_map _
    match k, hk, hS with
    | k + 1, hk, hS =>
      rw [pI_s]
      have hw := pI_w (j := k) (by omega)
      rw [Go.Sort.heapPop, swp_l] at hS
      have hel2 : ((S.set a (S.getD (a + k) default)).map uK).length = S.length := by rw [List.length_map, List.length_set]
      have hl2 := set_len2 S a (a + k) (S.getD (a + k) default) (S.getD a default)
      generalize hT2 : (S.set a (S.getD (a + k) default)).set (a + k) (S.getD a default) = S2 at *
      have c1 := sift_ S2 g 0 k a (by omega) (by omega) (by omega)
      rw [hl2, hSl] at c1
      have hz := sd_size k a (k - 0) 0 S2.toArray (Nat.le_refl _)
      generalize Go.Sort.siftDown ltN k a 0 S2.toArray = T at *
      have hTl : T.toList.length = D.length := by rw [Array.length_toList, hz]; simp; omega
      have hok : T.toList.length = D.length ∧ k ≤ b - a ∧ Go.Sort.heapPop ltN a k T.toList.toArray = R := ⟨hTl, by omega, hS⟩
      clear hS hz
      subst hT2
      exact wk trueW trueW trueW
    | 0, hk, hS =>
      rw [pI_z]
      rw [Go.Sort.heapPop] at hS
      have e := toA hS
      rw [← e]
      clear hS e
      exact wk trueW trueW trueW
end Jq
end Lf
end Go.Proofs.Ytgjoecocahpfhaa

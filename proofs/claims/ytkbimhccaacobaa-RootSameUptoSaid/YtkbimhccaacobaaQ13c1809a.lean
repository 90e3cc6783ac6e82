/- A part of the proof: texts joined. -/
import Derived.Test.YtkbimhccaacobaaQ121dabf5
namespace Go.Proofs.Ytkbimhccaacobaa
open Go.RowKit Rg Rp Go.WideShapes Go.ChangeShapes Wm Ar
set_option linter.unusedVariables false
set_option maxRecDepth 100000
namespace Lf
open Tr
section
variable {H : Type} {enc : TypeId × Value → H} {W : World}
end
def psA : List Pr := [([1, 2], [97]), ([1], [98])]
def nA : Rn := ofN (ofP psA)
theorem psA_ok : ∀ p ∈ psA, prOk p := by
  intro p hp
  simp only [psA, List.mem_cons, List.not_mem_nil, or_false] at hp
  rcases hp with rfl | rfl <;> exact ⟨by decide, by decide⟩
theorem nA_right : rt nA 0 = true := rt_of _ _ (ofP_right psA_ok)
theorem nA_toN : toN nA = ofP psA := toN_of _
theorem nA_kind : nA.kind = 2 := by rfl
theorem nA_size : nA.size < 50000000 := by
  have : nA.size ≤ 1000 := by decide
  omega
attribute [irreducible] nA
namespace Te
end Te
end Lf
set_option maxRecDepth 100000
namespace Lf
open Tr
def wt : Nd → Nat
  | .no => 1
  | .leaf p v => 1 + p.length + v.length
  | .road p k => 2 + p.length + wt k
  | .fork ks v => 1 + v.length + ((List.finRange 16).map fun i => wt (ks i) + 1).sum
theorem wt_pos : ∀ n, 1 ≤ wt n
  | .no => Nat.le_refl _
  | .leaf _ _ => by simp only [wt]; omega
  | .road _ _ => by simp only [wt]; omega
  | .fork _ _ => by simp only [wt]; omega
def wts (ks : Fin 16 → Nd) : Nat := ((List.finRange 16).map fun i => wt (ks i) + 1).sum
theorem wt_fork (ks : Fin 16 → Nd) (v : List UInt8) : wt (.fork ks v) = 1 + v.length + wts ks := by rw [wt]; rfl
theorem sizeL_map {α : Type} (f : α → Rn) : ∀ l : List α, Rn.sizeL (l.map f) = (l.map fun a => (f a).size + 1).sum
  | [] => by simp [Rn.sizeL]
  | a :: r => by simp only [List.map_cons, List.sum_cons, Rn.sizeL, sizeL_map f r]
theorem size_of : ∀ n : Nd, (ofN n).size = wt n
  | .no => by simp [ofN, Rn.size, Rn.sizeL, wt]
  | .leaf p v => by simp [ofN, Rn.size, Rn.sizeL, wt, pB_len]
  | .road p k => by simp only [ofN, Rn.size, Rn.sizeL, wt, pB_len, size_of k, List.length_nil]; omega
  | .fork ks v => by
    simp only [ofN, Rn.size, wt, sizeL_map, List.length_nil, Nat.add_zero]
    congr 2
    apply List.map_congr_left
    intro i _
    rw [size_of (ks i)]
theorem sum_setK (g : Fin 16 → Nat) (x : Fin 16) (m : Nat) : ∀ l : List (Fin 16), l.Nodup → (l.map fun i => (if i = x then m else g i) + 1).sum + (if x ∈ l then g x else 0) = (l.map fun i => g i + 1).sum + (if x ∈ l then m else 0)
  | [], _ => by simp
  | a :: r, h => by
    have hn := List.nodup_cons.1 h
    have ih := sum_setK g x m r hn.2
    simp only [List.map_cons, List.sum_cons, List.mem_cons]
    by_cases ha : a = x
    · subst ha
      rw [if_neg hn.1, if_neg hn.1] at ih
      simp only [true_or, if_true]
      omega
    · have hx : (x = a ∨ x ∈ r) ↔ x ∈ r := ⟨fun h => h.resolve_left fun e => ha e.symm, Or.inr⟩
      simp only [hx, if_neg ha]
      omega
theorem wts_setK (ks : Fin 16 → Nd) (x : Fin 16) (n : Nd) : wts (setK ks x n) + wt (ks x) = wts ks + wt n := by
  have h := sum_setK (fun i => wt (ks i)) x (wt n) (List.finRange 16) (List.nodup_finRange 16)
  rw [if_pos (List.mem_finRange x), if_pos (List.mem_finRange x)] at h
  have e : wts (setK ks x n) = ((List.finRange 16).map fun i => (if i = x then wt n else wt (ks i)) + 1).sum := by
    unfold wts
    refine congrArg List.sum (List.map_congr_left fun i _ => ?_)
    unfold setK
    split <;> rfl
  rw [e]
  exact h
theorem sum_ge (g : Fin 16 → Nat) (hg : ∀ i, 1 ≤ g i) : ∀ l : List (Fin 16), 2 * l.length ≤ (l.map fun i => g i + 1).sum
  | [] => by simp
  | a :: r => by
    have := sum_ge g hg r
    have := hg a
    simp only [List.map_cons, List.sum_cons, List.length_cons]
    omega
theorem wts_ge (ks : Fin 16 → Nd) : 32 ≤ wts ks := by
  have h := sum_ge (fun i => wt (ks i)) (fun i => wt_pos _) (List.finRange 16)
  rw [List.length_finRange] at h
  exact h
theorem wts_at (ks : Fin 16 → Nd) (i : Fin 16) : 31 + wt (ks i) ≤ wts ks := by
  have h := wts_setK ks i .no
  have h2 := wts_ge (setK ks i .no)
  have h3 : wt .no = 1 := rfl
  omega
theorem wts_none : wts none16 = 32 := by rfl
theorem wt_behind : ∀ (p : Pa) (n : Nd), wt (behind p n) ≤ wt n + p.length + 2
  | [], n => by simp only [behind]; omega
  | _ :: _, .no => by simp only [behind]; omega
  | x :: p, .leaf q v => by simp only [behind, wt, List.length_append]; omega
  | x :: p, .road q k => by simp only [behind, wt, List.length_append]; omega
  | x :: p, .fork ks v => by simp only [behind, wt, List.length_cons]; omega
theorem wt_tidy (ks : Fin 16 → Nd) (v : List UInt8) : wt (tidy ks v) ≤ wt (.fork ks v) := by
  rw [wt_fork]
  have h := wts_ge ks
  unfold tidy
  split
  · split
    · simp only [wt]; omega
    · simp only [wt, List.length_nil]; omega
  · rename_i i _
    split
    · have h1 := wt_behind [i] (ks i)
      have h2 := wts_at ks i
      simp only [List.length_cons, List.length_nil] at h1
      omega
    · rw [wt_fork]; omega
  · rw [wt_fork]; omega
theorem wt_part (pre pa : Pa) (a : Nd) (q : Pa) (v : List UInt8) : wt (Tr.part pre pa a q v) ≤ wt a + pre.length + pa.length + q.length + v.length + 50 := by
  unfold Tr.part
  refine Nat.le_trans (wt_behind _ _) ?_
  have hk : wts (kids1 pa a) + (val1 pa a).length ≤ 36 + wt a + pa.length := by
    cases pa with
    | nil =>
      show wts none16 + (Tr.valOf a).length ≤ _
      rw [wts_none]
      have : (Tr.valOf a).length ≤ wt a := by
        cases a <;> simp only [Tr.valOf, wt, List.length_nil] <;> omega
      omega
    | cons x r =>
      show wts (setK none16 x (behind r a)) + ([] : List UInt8).length ≤ _
      have h1 := wts_setK none16 x (behind r a)
      rw [wts_none] at h1
      have h2 := wt_behind r a
      simp only [List.length_cons, List.length_nil]
      omega
  cases q with
  | nil => simp only [wt_fork, List.length_nil]; omega
  | cons y s =>
    have h1 := wts_setK (kids1 pa a) y (.leaf s v)
    have h2 : wt (.leaf s v) = 1 + s.length + v.length := by rw [wt]
    simp only [wt_fork, List.length_cons]
    omega
theorem wt_put : ∀ (n : Nd) (p : Pa) (v : List UInt8), wt (Tr.put n p v) ≤ wt n + p.length + v.length + 50
  | .no, p, v => by
    simp only [Tr.put]
    split <;> simp only [wt] <;> omega
  | .leaf p0 v0, p, v => by
    simp only [Tr.put]
    split
    · split <;> simp only [wt] <;> omega
    · split
      · omega
      · have h := wt_part (p0.take (common p0 p)) (p0.drop (common p0 p)) (.leaf [] v0) (p.drop (common p0 p)) v
        simp only [List.length_take, List.length_drop, wt, List.length_nil] at h ⊢
        omega
  | .road p0 k, p, v => by
    simp only [Tr.put]
    split
    · rename_i r hr
      have h1 := wt_behind p0 (Tr.put k r v)
      have h2 := wt_put k r v
      have h3 := congrArg List.length (rest_some hr)
      simp only [List.length_append] at h3
      simp only [wt]
      omega
    · split
      · omega
      · have h := wt_part (p0.take (common p0 p)) (p0.drop (common p0 p)) k (p.drop (common p0 p)) v
        simp only [List.length_take, List.length_drop, wt] at h ⊢
        omega
  | .fork ks v0, [], v => by
    simp only [Tr.put]
    refine Nat.le_trans (wt_tidy _ _) ?_
    rw [wt_fork, wt_fork]
    omega
  | .fork ks v0, x :: p, v => by
    simp only [Tr.put]
    refine Nat.le_trans (wt_tidy _ _) ?_
    have h1 := wts_setK ks x (Tr.put (ks x) p v)
    have h2 := wt_put (ks x) p v
    rw [wt_fork, wt_fork, List.length_cons]
    omega
end Lf
end Go.Proofs.Ytkbimhccaacobaa

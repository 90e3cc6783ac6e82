/- A part of the proof: texts joined. -/
import Derived.Test.YtkbimhccaacobaaQ12ce002c
namespace Go.Proofs.Ytkbimhccaacobaa
open Go.RowKit Rg Rp Go.WideShapes Go.ChangeShapes Wm Ar
set_option linter.unusedVariables false
set_option maxRecDepth 100000
namespace Lf
open Tr
section
variable {H : Type} {enc : TypeId × Value → H} {W : World}
theorem sum_sizesN (ks : List Rn) : (ks.map fun k => k.size + 2).sum = Rn.sizeL ks + ks.length := by
  induction ks with
  | nil => rfl
  | cons k r ih => simp only [List.map_cons, List.sum_cons, ih, Rn.sizeL, List.length_cons]; omega
theorem opnNode : ∀ n : Nat, Opn enc Try.prog W n 37 rnC (fun _ => True) (fun x => x.size + 2) := by
  intro n
  induction n using Nat.strongRecOn with
  | _ n ih =>
    cases n with
    | zero => exact Opn.zero
    | succ n =>
      have hk : Opn enc Try.prog W (n - 1) 37 rnC (fun _ => True) (fun x => x.size + 2) := ih (n - 1) (by omega)
      have h1 : Opn enc Try.prog W n 35 (fun l : List Rn => [.s none (l.map rnV)]) (fun l => ∀ a ∈ l, True) (fun l => (l.map fun x => x.size + 2).sum + 1) :=
        Opn.sl (e := 37) (k := 4) rnV (by kernel_rfl) (by kernel_rfl) (by decide) (fun _ => rfl) hk
      have h2 := Opn.st (T := 37) (n := n + 1) (P := Try.prog) (enc := enc) (W := W) (fs := #[⟨"Kind", 3, 0, false, "", "", 0⟩, ⟨"Path", 22, 1, false, "", "", 8⟩, ⟨"Value", 22, 2, false, "", "", 32⟩, ⟨"Kids", 35, 3, false, "", "", 56⟩]) (by kernel_rfl) (by kernel_rfl)
        (OpnFs.cons (Opn.i64 (by kernel_rfl)) (OpnFs.cons (Opn.bytes (e := 5) (by kernel_rfl) (by kernel_rfl) (by kernel_rfl)) (OpnFs.cons (Opn.bytes (e := 5) (by kernel_rfl) (by kernel_rfl) (by kernel_rfl)) (OpnFs.cons h1 OpnFs.nil))))
      refine h2.map (fun x => .mk x.1 x.2.1 x.2.2.1 x.2.2.2.1) (fun x _ => ?_) (fun _ _ => trivial) (fun x _ => ?_)
      · rw [rnC_eq]; rfl
      · have := sum_sizesN x.2.2.2.1
        simp only [Rn.size]
        omega
end
def psA : List Pr := [([1, 2], [97]), ([1], [98])]
def nA : Rn := ofN (ofP psA)
theorem psA_ok : ∀ p ∈ psA, prOk p := by
  intro p hp
  simp only [psA, List.mem_cons, List.not_mem_nil, or_false] at hp
  rcases hp with rfl | rfl <;> exact ⟨by decide, by decide⟩
theorem nA_right : rt nA 0 = true := rt_of _ _ (ofP_right psA_ok)
theorem nA_toN : toN nA = ofP psA := toN_of _
theorem nA_get : Tr.get (ofP psA) (keyP [1, 2]) = [97] := by rfl
attribute [irreducible] nA
theorem tr_cv2 (keep : Nat → Bool) (nn : Bool) : (∀ n, (ndV n).cv keep nn = ndV n) ∧ (∀ ks v, V.cv.go keep nn (fkC ks v) = fkC ks v) ∧ (∀ x, V.cv.go keep nn (rnC x) = rnC x) ∧ ∀ x, V.cv.go keep nn (rnV x).cells = rnC x := ⟨nd_cv keep nn, fk_cv keep nn, fun x => rnC_cv x keep nn, fun x => rnC_cv x keep nn⟩
namespace Te
end Te
end Lf
set_option maxRecDepth 100000
namespace Lf
open Tr
def wt : Nd → Nat
  | .no => 1
  | .leaf p v => 1 + p.length + v.length
  | .road p k => 2 + p.length + wt k
  | .fork ks v => 1 + v.length + ((List.finRange 16).map fun i => wt (ks i) + 1).sum
theorem wt_pos : ∀ n, 1 ≤ wt n
  | .no => Nat.le_refl _
  | .leaf _ _ => by simp only [wt]; omega
  | .road _ _ => by simp only [wt]; omega
  | .fork _ _ => by simp only [wt]; omega
def wts (ks : Fin 16 → Nd) : Nat := ((List.finRange 16).map fun i => wt (ks i) + 1).sum
theorem wt_fork (ks : Fin 16 → Nd) (v : List UInt8) : wt (.fork ks v) = 1 + v.length + wts ks := by rw [wt]; rfl
theorem sizeL_map {α : Type} (f : α → Rn) : ∀ l : List α, Rn.sizeL (l.map f) = (l.map fun a => (f a).size + 1).sum
  | [] => by simp [Rn.sizeL]
  | a :: r => by simp only [List.map_cons, List.sum_cons, Rn.sizeL, sizeL_map f r]
theorem size_of : ∀ n : Nd, (ofN n).size = wt n
  | .no => by simp [ofN, Rn.size, Rn.sizeL, wt]
  | .leaf p v => by simp [ofN, Rn.size, Rn.sizeL, wt, pB_len]
  | .road p k => by simp only [ofN, Rn.size, Rn.sizeL, wt, pB_len, size_of k, List.length_nil]; omega
  | .fork ks v => by
    simp only [ofN, Rn.size, wt, sizeL_map, List.length_nil, Nat.add_zero]
    congr 2
    apply List.map_congr_left
    intro i _
    rw [size_of (ks i)]
theorem sum_setK (g : Fin 16 → Nat) (x : Fin 16) (m : Nat) : ∀ l : List (Fin 16), l.Nodup → (l.map fun i => (if i = x then m else g i) + 1).sum + (if x ∈ l then g x else 0) = (l.map fun i => g i + 1).sum + (if x ∈ l then m else 0)
  | [], _ => by simp
  | a :: r, h => by
    have hn := List.nodup_cons.1 h
    have ih := sum_setK g x m r hn.2
    simp only [List.map_cons, List.sum_cons, List.mem_cons]
    by_cases ha : a = x
    · subst ha
      rw [if_neg hn.1, if_neg hn.1] at ih
      simp only [true_or, if_true]
      omega
    · have hx : (x = a ∨ x ∈ r) ↔ x ∈ r := ⟨fun h => h.resolve_left fun e => ha e.symm, Or.inr⟩
      simp only [hx, if_neg ha]
      omega
theorem wts_setK (ks : Fin 16 → Nd) (x : Fin 16) (n : Nd) : wts (setK ks x n) + wt (ks x) = wts ks + wt n := by
  have h := sum_setK (fun i => wt (ks i)) x (wt n) (List.finRange 16) (List.nodup_finRange 16)
  rw [if_pos (List.mem_finRange x), if_pos (List.mem_finRange x)] at h
  have e : wts (setK ks x n) = ((List.finRange 16).map fun i => (if i = x then wt n else wt (ks i)) + 1).sum := by
    unfold wts
    refine congrArg List.sum (List.map_congr_left fun i _ => ?_)
    unfold setK
    split <;> rfl
  rw [e]
  exact h
theorem sum_ge (g : Fin 16 → Nat) (hg : ∀ i, 1 ≤ g i) : ∀ l : List (Fin 16), 2 * l.length ≤ (l.map fun i => g i + 1).sum
  | [] => by simp
  | a :: r => by
    have := sum_ge g hg r
    have := hg a
    simp only [List.map_cons, List.sum_cons, List.length_cons]
    omega
theorem wts_ge (ks : Fin 16 → Nd) : 32 ≤ wts ks := by
  have h := sum_ge (fun i => wt (ks i)) (fun i => wt_pos _) (List.finRange 16)
  rw [List.length_finRange] at h
  exact h
theorem wts_at (ks : Fin 16 → Nd) (i : Fin 16) : 31 + wt (ks i) ≤ wts ks := by
  have h := wts_setK ks i .no
  have h2 := wts_ge (setK ks i .no)
  have h3 : wt .no = 1 := rfl
  omega
theorem wts_none : wts none16 = 32 := by rfl
theorem wt_behind : ∀ (p : Pa) (n : Nd), wt (behind p n) ≤ wt n + p.length + 2
  | [], n => by simp only [behind]; omega
  | _ :: _, .no => by simp only [behind]; omega
  | x :: p, .leaf q v => by simp only [behind, wt, List.length_append]; omega
  | x :: p, .road q k => by simp only [behind, wt, List.length_append]; omega
  | x :: p, .fork ks v => by simp only [behind, wt, List.length_cons]; omega
theorem wt_tidy (ks : Fin 16 → Nd) (v : List UInt8) : wt (tidy ks v) ≤ wt (.fork ks v) := by
  rw [wt_fork]
  have h := wts_ge ks
  unfold tidy
  split
  · split
    · simp only [wt]; omega
    · simp only [wt, List.length_nil]; omega
  · rename_i i _
    split
    · have h1 := wt_behind [i] (ks i)
      have h2 := wts_at ks i
      simp only [List.length_cons, List.length_nil] at h1
      omega
    · rw [wt_fork]; omega
  · rw [wt_fork]; omega
theorem wt_part (pre pa : Pa) (a : Nd) (q : Pa) (v : List UInt8) : wt (Tr.part pre pa a q v) ≤ wt a + pre.length + pa.length + q.length + v.length + 50 := by
  unfold Tr.part
  refine Nat.le_trans (wt_behind _ _) ?_
  have hk : wts (kids1 pa a) + (val1 pa a).length ≤ 36 + wt a + pa.length := by
    cases pa with
    | nil =>
      show wts none16 + (Tr.valOf a).length ≤ _
      rw [wts_none]
      have : (Tr.valOf a).length ≤ wt a := by
        cases a <;> simp only [Tr.valOf, wt, List.length_nil] <;> omega
      omega
    | cons x r =>
      show wts (setK none16 x (behind r a)) + ([] : List UInt8).length ≤ _
      have h1 := wts_setK none16 x (behind r a)
      rw [wts_none] at h1
      have h2 := wt_behind r a
      simp only [List.length_cons, List.length_nil]
      omega
  cases q with
  | nil => simp only [wt_fork, List.length_nil]; omega
  | cons y s =>
    have h1 := wts_setK (kids1 pa a) y (.leaf s v)
    have h2 : wt (.leaf s v) = 1 + s.length + v.length := by rw [wt]
    simp only [wt_fork, List.length_cons]
    omega
theorem wt_put : ∀ (n : Nd) (p : Pa) (v : List UInt8), wt (Tr.put n p v) ≤ wt n + p.length + v.length + 50
  | .no, p, v => by
    simp only [Tr.put]
    split <;> simp only [wt] <;> omega
  | .leaf p0 v0, p, v => by
    simp only [Tr.put]
    split
    · split <;> simp only [wt] <;> omega
    · split
      · omega
      · have h := wt_part (p0.take (common p0 p)) (p0.drop (common p0 p)) (.leaf [] v0) (p.drop (common p0 p)) v
        simp only [List.length_take, List.length_drop, wt, List.length_nil] at h ⊢
        omega
  | .road p0 k, p, v => by
    simp only [Tr.put]
    split
    · rename_i r hr
      have h1 := wt_behind p0 (Tr.put k r v)
      have h2 := wt_put k r v
      have h3 := congrArg List.length (rest_some hr)
      simp only [List.length_append] at h3
      simp only [wt]
      omega
    · split
      · omega
      · have h := wt_part (p0.take (common p0 p)) (p0.drop (common p0 p)) k (p.drop (common p0 p)) v
        simp only [List.length_take, List.length_drop, wt] at h ⊢
        omega
  | .fork ks v0, [], v => by
    simp only [Tr.put]
    refine Nat.le_trans (wt_tidy _ _) ?_
    rw [wt_fork, wt_fork]
    omega
  | .fork ks v0, x :: p, v => by
    simp only [Tr.put]
    refine Nat.le_trans (wt_tidy _ _) ?_
    have h1 := wts_setK ks x (Tr.put (ks x) p v)
    have h2 := wt_put (ks x) p v
    rw [wt_fork, wt_fork, List.length_cons]
    omega
theorem sizeL_range (g : Rn → Nat) : ∀ ks : List Rn, ((List.range ks.length).map fun i => g (ks.getD i default)).sum = (ks.map g).sum
  | [] => by simp
  | a :: r => by
    rw [List.length_cons, List.range_succ_eq_map, List.map_cons, List.sum_cons, List.map_map, List.map_cons, List.sum_cons, ← sizeL_range g r]
    rfl
theorem sizeL_sum : ∀ ks : List Rn, Rn.sizeL ks = (ks.map fun k => k.size + 1).sum
  | [] => by simp [Rn.sizeL]
  | a :: r => by simp only [Rn.sizeL, List.map_cons, List.sum_cons, sizeL_sum r]
theorem sum_le2 {α : Type} (f g : α → Nat) : ∀ l : List α, (∀ a ∈ l, f a ≤ g a) → (l.map f).sum ≤ (l.map g).sum
  | [], _ => by simp
  | a :: r, h => by
    have := sum_le2 f g r fun b hb => h b (List.mem_cons_of_mem _ hb)
    have := h a List.mem_cons_self
    simp only [List.map_cons, List.sum_cons]
    omega
theorem fin_range (F : Nat → Nat) : ((List.finRange 16).map fun i => F i.val).sum = ((List.range 16).map F).sum := by rfl
theorem wt_toN : ∀ (n : Nat) (x : Rn) (d : Nat), x.size ≤ n → rt x d = true → wt (toN x) ≤ x.size := by
  intro n
  induction n with
  | zero =>
    intro x d hx
    obtain ⟨k, p, v, ks⟩ := x
    rw [size_eq] at hx
    omega
  | succ n ih =>
    intro x d hx hr
    obtain ⟨k, p, v, ks⟩ := x
    rw [size_eq] at hx ⊢
    rw [rt_eq] at hr
    rw [toN_eq]
    split
    · simp only [wt, pOf_len]; omega
    · split
      · rename_i h1 h2
        rw [if_neg (by omega), if_neg h1, if_pos h2] at hr
        simp only [Bool.and_eq_true, decide_eq_true_eq] at hr
        have hl := hr.1.1.2
        have hs := sizeL_get (ks := ks) (i := 0) (by omega)
        have := ih (ks.getD 0 default) _ (by omega) (rtL_get.1 hr.2 0 (by omega))
        simp only [wt, pOf_len]
        omega
      · split
        · rename_i h1 h2 h3
          rw [if_neg (by omega), if_neg h1, if_neg h2, if_pos h3] at hr
          simp only [Bool.and_eq_true, decide_eq_true_eq] at hr
          have hl := hr.1.1.1.1
          have hs : ((List.finRange 16).map fun i : Fin 16 => wt (toN (ks.getD i.val default)) + 1).sum ≤ Rn.sizeL ks := by
            refine Nat.le_trans (sum_le2 _ (fun i : Fin 16 => (ks.getD i.val default).size + 1) _ fun i _ => ?_) ?_
            · have hi : i.val < ks.length := by omega
              have := sizeL_get hi
              have := ih (ks.getD i.val default) _ (by omega) (rtL_get.1 hr.1.2 i.val hi)
              omega
            · rw [fin_range (fun i => (ks.getD i default).size + 1), ← hl, sizeL_range (fun k => k.size + 1), sizeL_sum]; exact Nat.le_refl _
          simp only [wt]
          omega
        · simp only [wt]; omega
theorem size_put {x : Rn} {d : Nat} (hr : rt x d = true) (p : Pa) (v : List UInt8) : (ofN (Tr.put (toN x) p v)).size ≤ x.size + p.length + v.length + 50 := by
  rw [size_of]
  have h1 := wt_put (toN x) p v
  have h2 := wt_toN _ x d (Nat.le_refl _) hr
  omega
end Lf
end Go.Proofs.Ytkbimhccaacobaa

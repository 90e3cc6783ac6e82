/- A part of the proof: texts joined. -/
import Derived.Test.YtkbimhccaacobaaQ258c0caf
namespace Go.Proofs.Ytkbimhccaacobaa
open Go.RowKit Rg Wm Ar
set_option linter.unusedVariables false
set_option maxRecDepth 100000
namespace Lf
open Tr Ro Pk
theorem wt_ofP (ps : List Pr) : wt (ofP ps) ≤ 1 + 17 * (ps.map fun p => p.1.length + p.2.length + 3).sum := by
  have key : ∀ (l : List (Pa × List UInt8)) (n : Nd), wt (ofL n l) ≤ wt n + (l.map fun e => e.1.length + e.2.length + 50).sum := by
    intro l
    induction l with
    | nil => intro n; simp [ofL]
    | cons a r ih =>
      intro n
      have h1 := ih (Tr.put n a.1 a.2)
      have h2 := wt_put n a.1 a.2
      rw [List.map_cons, List.sum_cons]
      show wt (ofL (Tr.put n a.1 a.2) r) ≤ _
      omega
  have h := key (ps.map pkP) .no
  have h2 : ((ps.map pkP).map fun e => e.1.length + e.2.length + 50).sum ≤ 17 * (ps.map fun p => p.1.length + p.2.length + 3).sum := by
    clear h
    induction ps with
    | nil => simp
    | cons a r ih =>
      simp only [List.map_cons, List.sum_cons]
      have : (pkP a).1.length = 2 * a.1.length := keyP_len _
      have h3 : (pkP a).2.length = a.2.length := rfl
      omega
  show wt (ofL .no (ps.map pkP)) ≤ _
  have h3 : wt .no = 1 := rfl
  omega
namespace Rw
set_option maxHeartbeats 8000000 in
theorem Same_bad (ps : List Pr) (z : Int) (e : Nat) (he : e = 2 ∨ e = 3) (c2 : LF Try.prog 33 [prsV ps] (fun _ => .t [rnV Rn.no, erV e]) none) : LF Try.prog 10 [prsV ps, .k (.int .i64 z)] (fun _ => .k (.bool true)) none := by
  have c1 := alive8_
  have c3 := Te.Pairs_ok Rn.no (by rw [show Rn.no = .mk 0 [] [] [] from rfl, size_eq]; decide) rfl
  have hk4 := rnC_len Rn.no
  have hrf : ∀ m : Mem, (∀ x, V.refs.go m (rnC x) = true) ∧ (∀ p, V.refs.go m (prC p) = true) := fun m => ⟨rnC_refs m, prC_refs m⟩
  have hl : (pairsOf (toN Rn.no)).length = 0 := rfl
  generalize pairsOf (toN Rn.no) = L at *
  generalize Rn.no = y at *
  refine LFx.mk' tt Try.func10 rfl rfl rfl (by kernel_rfl) rfl rfl fun F => ?_
  exact wk trueW trueW trueW
set_option maxHeartbeats 8000000 in
theorem Same_turn (ps : List Pr) (y : Rn) (t : Nat) (hy : y.size < 20000000) (hr : rt y 0 = true) (hyy : ofN (toN y) = y) (c2 : LF Try.prog 33 [prsV ps] (fun _ => .t [rnV y, erV 0]) none) (ht : 0 < t) (ht2 : t < (pairsOf (toN y)).length) : LF Try.prog 10 [prsV ps, .k (.int .i64 (t : Int))] (fun _ => .k (.bool true)) none := by
  have c1 := alive8_
  have c3 := Te.Pairs_ok y (by omega) hr
  have hsz := pairsOf_len y
  have hperm : ((pairsOf (toN y)).drop t ++ (pairsOf (toN y)).take t).Perm (pairsOf (toN y)) := by
    have := List.perm_append_comm (l₁ := (pairsOf (toN y)).drop t) (l₂ := (pairsOf (toN y)).take t)
    rwa [List.take_append_drop] at this
  have c5 := Te.Of_perm y hr hperm (by rw [hperm.length_eq]; omega)
  rw [hyy] at c5
  have c6 := Root_ok y hy hr
  have hl1 := sumB_len (hcB (toN y))
  have hk4 := rnC_len y
  have hrf : ∀ m : Mem, (∀ x, V.refs.go m (rnC x) = true) ∧ (∀ p, V.refs.go m (prC p) = true) := fun m => ⟨rnC_refs m, prC_refs m⟩
  have hbr := prC_bare
  clear hperm hyy
  generalize sumB (hcB (toN y)) = HY at *
  generalize pairsOf (toN y) = L at *
  have c4 : ∀ k, LM Try.prog 35 [.s none [.s none ((L.drop t).map prV), .s none ((L.take t).map prV)]] [] fun o q => o = .ret (.s (some k) ((L.drop t ++ L.take t).map prV)) ∧ q = [(k, .r 66 2 (L.drop t ++ L.take t).length)] := fun k => by
    have e : [L.drop t, L.take t].flatten = L.drop t ++ L.take t := by simp
    have := Te.ConcatQ [L.drop t, L.take t] (by show 2 < 1073741824; decide) (by rw [e, List.length_append, List.length_drop, List.length_take]; omega) k
    rw [e] at this
    exact this
  have z1 := prs_sizes L
  refine LFx.mk' tt Try.func10 rfl rfl rfl (by kernel_rfl) rfl rfl fun F => ?_
  exact wk trueW trueW trueW
set_option maxHeartbeats 8000000 in
theorem Same_rev (ps : List Pr) (y : Rn) (z : Int) (hy : y.size < 20000000) (hr : rt y 0 = true) (hyy : ofN (toN y) = y) (c2 : LF Try.prog 33 [prsV ps] (fun _ => .t [rnV y, erV 0]) none) (hz : ¬ (0 < z ∧ z < ((pairsOf (toN y)).length : Int))) (h0 : 0 < (pairsOf (toN y)).length) : LF Try.prog 10 [prsV ps, .k (.int .i64 z)] (fun _ => .k (.bool true)) none := by
  have c1 := alive8_
  have hsz := pairsOf_len y
  have c3 := Te.Pairs_buf y (by omega) hr h0 24
  have c5 := Te.Of_perm y hr (List.reverse_perm (pairsOf (toN y))) (by rw [List.length_reverse]; omega)
  rw [hyy] at c5
  have r4 := Te.Reverse_ (pairsOf (toN y)) h0 (by omega) 24
  have c6 := Root_ok y hy hr
  have hl1 := sumB_len (hcB (toN y))
  have hk4 := rnC_len y
  have hrf : ∀ m : Mem, (∀ x, V.refs.go m (rnC x) = true) ∧ (∀ p, V.refs.go m (prC p) = true) := fun m => ⟨rnC_refs m, prC_refs m⟩
  have hbr := prC_bare
  clear hyy
  generalize sumB (hcB (toN y)) = HY at *
  generalize pairsOf (toN y) = L at *
  have z1 := prs_sizes L
  have hel : (L.map prV).length = L.length := List.length_map _
  have hel2 : (L.reverse.map prV).length = L.length := by rw [List.length_map, List.length_reverse]
  rcases Int.lt_or_le 0 z with h3 | h3
  all_goals
    refine LFx.mk' tt Try.func10 rfl rfl rfl (by kernel_rfl) rfl rfl fun F => ?_
    refine wk ?_ trueW trueW
    refine DR.cm rfl rfl (Does.callM r4 (by with_reducible exact rfl) rfl (.same _) rfl) ⟨rfl, trivial⟩ rfl ?_
    refine .nl rfl ?_
    show LC _ _ _ _ _ _ _
    refine LC.frztmp 7 24 rfl rfl (by rw [hel2]; omega) (es' := L.reverse.map prV) (by rw [List.drop_zero]; exact List.take_of_length_le (by rw [hel2]; exact Nat.le_refl _)) ?_
    exact wk trueW trueW trueW
set_option maxHeartbeats 8000000 in
theorem Same_nil (ps : List Pr) (y : Rn) (z : Int) (hy : y.size < 20000000) (hr : rt y 0 = true) (hyy : ofN (toN y) = y) (c2 : LF Try.prog 33 [prsV ps] (fun _ => .t [rnV y, erV 0]) none) (h0 : (pairsOf (toN y)).length = 0) : LF Try.prog 10 [prsV ps, .k (.int .i64 z)] (fun _ => .k (.bool true)) none := by
  have c1 := alive8_
  have c3 := Te.Pairs_ok y (by omega) hr
  have c5 := Te.Of_perm y hr (List.Perm.refl (pairsOf (toN y))) (by omega)
  rw [hyy] at c5
  have c4 := Te.Reverse0
  rw [List.eq_nil_of_length_eq_zero h0] at c3 c5
  simp only [prsV, List.map_nil] at c3 c5
  have c6 := Root_ok y hy hr
  have hl1 := sumB_len (hcB (toN y))
  have hk4 := rnC_len y
  have hrf : ∀ m : Mem, (∀ x, V.refs.go m (rnC x) = true) ∧ (∀ p, V.refs.go m (prC p) = true) := fun m => ⟨rnC_refs m, prC_refs m⟩
  clear hyy
  generalize sumB (hcB (toN y)) = HY at *
  rcases Int.lt_or_le 0 z with h3 | h3
  · refine LFx.mk' tt Try.func10 rfl rfl rfl (by kernel_rfl) rfl rfl fun F => ?_
    exact wk trueW trueW trueW
  · refine LFx.mk' tt Try.func10 rfl rfl rfl (by kernel_rfl) rfl rfl fun F => ?_
    exact wk trueW trueW trueW
theorem RootSame (ps : List Pr) (z : Int) (hs : (ps.map fun p => p.1.length + p.2.length + 3).sum ≤ 1048576) : LF Try.prog 10 [prsV ps, .k (.int .i64 z)] (fun _ => .k (.bool true)) none := by
  have hone : ∀ p ∈ ps, p.1.length + p.2.length + 3 ≤ 1048576 ∧ ps.length ≤ 1048576 := by
    have key : ∀ l : List Pr, (∀ p ∈ l, p.1.length + p.2.length + 3 ≤ (l.map fun p => p.1.length + p.2.length + 3).sum) ∧ l.length ≤ (l.map fun p => p.1.length + p.2.length + 3).sum := by
      intro l
      induction l with
      | nil => exact ⟨fun p h => (by cases h), Nat.le_refl _⟩
      | cons a r ih =>
        simp only [List.map_cons, List.sum_cons, List.length_cons]
        refine ⟨fun p hp => ?_, by omega⟩
        rcases List.mem_cons.1 hp with rfl | hp
        · omega
        · have := ih.1 p hp; omega
    intro p hp
    have := key ps
    have h1 := this.1 p hp
    omega
  have hw := wt_ofP ps
  have hl : ps.length < 1000000000 := by
    cases ps with
    | nil => decide
    | cons a r => have := (hone a (by simp)).2; omega
  rcases Te.Of_ ps hl (fun p hp => by have := (hone p hp).1; omega) with ⟨hok, c2⟩ | ⟨_, e, he, c2⟩
  · have hR : Right (ofP ps) 0 := ofP_right hok
    have hr : rt (ofN (ofP ps)) 0 = true := rt_of _ 0 hR
    have hyy : ofN (toN (ofN (ofP ps))) = ofN (ofP ps) := by rw [toN_of]
    have hy : (ofN (ofP ps)).size < 20000000 := by rw [size_of]; omega
    rcases Nat.eq_zero_or_pos (pairsOf (toN (ofN (ofP ps)))).length with h0 | h0
    · exact Same_nil ps _ z hy hr hyy c2 h0
    · by_cases hz : 0 < z ∧ z < ((pairsOf (toN (ofN (ofP ps)))).length : Int)
      · obtain ⟨t, rfl⟩ := Int.eq_ofNat_of_zero_le (by omega : 0 ≤ z)
        exact Same_turn ps _ t hy hr hyy c2 (by omega) (by omega)
      · exact Same_rev ps _ z hy hr hyy c2 hz h0
  · exact Same_bad ps z e he c2
end Rw
end Lf
open Go.RowKit Rg Rp Go.WideShapes Go.ChangeShapes Wm Ar
set_option maxRecDepth 100000
namespace Lf
open Tr Ro
section
variable {H : Type} {enc : TypeId × Value → H} {W : World}
theorem opnPair (n : Nat) : Opn enc Try.prog W n 66 prC (fun _ => True) (fun p => p.1.length + p.2.length + 3) := by
  cases n with
  | zero => exact Opn.zero
  | succ n =>
    have h2 := Opn.st (T := 66) (n := n + 1) (P := Try.prog) (enc := enc) (W := W) (fs := #[⟨"Key", 22, 0, false, "", "", 0⟩, ⟨"Value", 22, 1, false, "", "", 24⟩]) (by kernel_rfl) (by kernel_rfl)
      (OpnFs.cons (Opn.bytes (e := 5) (by kernel_rfl) (by kernel_rfl) (by kernel_rfl)) (OpnFs.cons (Opn.bytes (e := 5) (by kernel_rfl) (by kernel_rfl) (by kernel_rfl)) OpnFs.nil))
    refine h2.map (fun x => (x.1, x.2.1)) (fun x _ => ?_) (fun _ _ => trivial) (fun x _ => ?_)
    · rw [prC_eq]; rfl
    · simp only []
      omega
theorem opnPairs (n : Nat) : Opn enc Try.prog W n 60 (fun l : List Pr => [prsV l]) (fun _ => True) (fun l => (l.map fun p => p.1.length + p.2.length + 3).sum + 1) :=
  (Opn.sl (e := 66) (k := 2) prV (by kernel_rfl) (by kernel_rfl) (by decide) (fun _ => rfl) (opnPair _)).map id (fun _ _ => rfl) (fun _ _ => trivial) (fun _ _ => Nat.le_refl _)
end
end Lf
namespace Lf
namespace Rw
end Rw
end Lf
end Go.Proofs.Ytkbimhccaacobaa

/- A part of the proof: texts joined. -/
import Derived.Test.YtkbimhccaacobaaQ24849b5a
namespace Go.Proofs.Ytkbimhccaacobaa
open Go.RowKit Rg Wm Ar
set_option linter.unusedVariables false
set_option maxRecDepth 100000
namespace Lf
open Tr Ro Pk
theorem cds_len : ∀ (n : Nd) (d : Nat), Right n d → ∀ c ∈ cdB n, c.length ≤ 200000 := by
  intro n
  induction n with
  | no => intro d h c hc; have : c = hcB .no := by simpa [cdB, cds] using hc
          rw [this]; exact Rw.hcB_len h
  | leaf p v => intro d h c hc; have : c = hcB (.leaf p v) := by simpa [cdB, cds] using hc
                rw [this]; exact Rw.hcB_len h
  | road p k ih =>
    intro d h c hc
    unfold cdB at hc
    rw [cds_road] at hc
    rcases List.mem_cons.1 hc with e | e
    · rw [e]; exact Rw.hcB_len h
    · exact ih _ h.2.2 c e
  | fork ks v ih =>
    intro d h c hc
    unfold cdB at hc
    rw [cds_fork] at hc
    rcases List.mem_cons.1 hc with e | e
    · rw [e]; exact Rw.hcB_len h
    · obtain ⟨i, _, e⟩ := List.mem_flatMap.1 e
      unfold kcds at e
      split at e
      · cases e
      · exact ih i _ (h.2.2.1 i) c e
theorem cdB_size {x : Rn} (hr : rt x 0 = true) : (cdB (toN x)).length ≤ x.size := by
  by_cases h : x.kind = 0
  · rw [toN_zero h]
    have : 1 ≤ x.size := by obtain ⟨k, p, v, ks⟩ := x; rw [size_eq]; omega
    exact this
  · exact cds_size _ x 0 (Nat.le_refl _) hr fun e => absurd e h
theorem apart_clash {x y : Rn} (hx : rt x 0 = true) (hy : rt y 0 = true) (h : sumB (hcB (toN x)) = sumB (hcB (toN y))) (hn : sm x y = false) : Clashes (cdB (toN x) ++ cdB (toN y)) := by
  by_cases hc : ∀ a ∈ cdB (toN x), ∀ b ∈ cdB (toN y), sumB a = sumB b → a = b
  · have e := apart sumB sumB_len (toN x) (toN y) 0 0 (rt_right _ _ 0 (Nat.le_refl _) hx) (rt_right _ _ 0 (Nat.le_refl _) hy) hc h
    rw [(sm_iff _ x y 0 0 (Nat.le_refl _) hx hy).2 e] at hn
    cases hn
  · simp only [Classical.not_forall] at hc
    obtain ⟨a, ha, b, hb, e, hne⟩ := hc
    exact ⟨a, List.mem_append_left _ ha, b, List.mem_append_right _ hb, e, hne⟩
namespace Rw
theorem Concat2 (a b : List (List UInt8)) (ha : a.length < 500000000) (hb : b.length < 500000000) (k : Nat) : LM Try.prog 26 [.s none [txV a, txV b]] [] fun o m => o = .ret (.s (some k) ((a ++ b).map bV)) ∧ m = [(k, .r 22 1 (a ++ b).length)] := by
  have e : [a, b].flatten = a ++ b := by simp
  have := Sl6.ConcatBB [a, b] (by show 2 < 1073741824; decide) (by rw [e, List.length_append]; omega) k
  rw [e] at this
  exact this
theorem Clash_t {ts : List (List UInt8)} (hn : ts.length < 1073741824) (ht : ∀ t ∈ ts, t.length < 1073741824) : ∃ b, LF Try.prog 24 [txV ts] (fun _ => .k (.bool b)) none ∧ (b = true ↔ Clashes ts) := by
  obtain ⟨h1, h2⟩ := Sr.Clash_ ts hn ht
  by_cases hc : Clashes ts
  · exact ⟨true, h1 hc, ⟨fun _ => hc, fun _ => rfl⟩⟩
  · exact ⟨false, h2 hc, ⟨fun h => (by cases h), fun h => absurd h hc⟩⟩
set_option maxHeartbeats 8000000 in
theorem RootApart (x y : Rn) (hx : x.size ≤ 1048576) (hy : y.size ≤ 1048576) : LF Try.prog 5 [rnV x, rnV y] (fun _ => .k (.bool true)) none := by
  have c1 := alive8_
  have hk1 := rnC_len x
  have hk2 := rnC_len y
  have hrf := rnC_refs
  have hl0 : hash0.length = 32 := rfl
  cases hrx : rt x 0 with
  | false =>
    have c2 := Root_no x (by omega) hrx
    cases hry : rt y 0 with
    | false =>
      have c3 := Root_no y (by omega) hry
      generalize hash0 = H at *
      refine LFx.mk' tt Try.func5 rfl rfl rfl (by kernel_rfl) rfl rfl fun F => ?_
      exact wk trueW trueW trueW
    | true =>
      have c3 := Root_ok y (by omega) hry
      have hl1 := sumB_len (hcB (toN y))
      generalize hash0 = H at *
      generalize sumB (hcB (toN y)) = HY at *
      refine LFx.mk' tt Try.func5 rfl rfl rfl (by kernel_rfl) rfl rfl fun F => ?_
      exact wk trueW trueW trueW
  | true =>
    have c2 := Root_ok x (by omega) hrx
    have hl1 := sumB_len (hcB (toN x))
    cases hry : rt y 0 with
    | false =>
      have c3 := Root_no y (by omega) hry
      generalize hash0 = H at *
      generalize sumB (hcB (toN x)) = HX at *
      refine LFx.mk' tt Try.func5 rfl rfl rfl (by kernel_rfl) rfl rfl fun F => ?_
      exact wk trueW trueW trueW
    | true =>
      have c3 := Root_ok y (by omega) hry
      have hl2 := sumB_len (hcB (toN y))
      have c4 := Te.SameNode_ x.size x y (Nat.le_refl _) (by omega) (by omega)
      cases hs : sm x y with
      | true =>
        rw [hs] at c4
        have e := (sm_iff _ x y 0 0 (Nat.le_refl _) hrx hry).1 hs
        rw [e] at c2 hl1
        generalize sumB (hcB (toN y)) = HY at *
        clear e
        refine LFx.mk' tt Try.func5 rfl rfl rfl (by kernel_rfl) rfl rfl fun F => ?_
        exact wk trueW trueW trueW
      | false =>
        rw [hs] at c4
        by_cases he : sumB (hcB (toN x)) = sumB (hcB (toN y))
        · have hcl := apart_clash hrx hry he hs
          have hsx := cdB_size hrx
          have hsy := cdB_size hry
          have c5 := Codes_ok x (by omega) hrx
          have c6 := Codes_ok y (by omega) hry
          have c7 := Concat2 (cdB (toN x)) (cdB (toN y)) (by omega) (by omega)
          have c8 := (Sr.Clash_ (cdB (toN x) ++ cdB (toN y)) (by rw [List.length_append]; omega) (fun t ht => by
            rcases List.mem_append.1 ht with h | h
            · have := cds_len _ 0 (rt_right _ _ 0 (Nat.le_refl _) hrx) t h; omega
            · have := cds_len _ 0 (rt_right _ _ 0 (Nat.le_refl _) hry) t h; omega)).1 hcl
          rw [he] at c2 hl1
          generalize sumB (hcB (toN y)) = HY at *
          clear he hcl hs
          generalize cdB (toN x) = CX at *
          generalize cdB (toN y) = CY at *
          refine LFx.mk' tt Try.func5 rfl rfl rfl (by kernel_rfl) rfl rfl fun F => ?_
          exact wk trueW trueW trueW
        · generalize sumB (hcB (toN x)) = HX at *
          generalize sumB (hcB (toN y)) = HY at *
          refine LFx.mk' tt Try.func5 rfl rfl rfl (by kernel_rfl) rfl rfl fun F => ?_
          exact wk trueW trueW trueW
end Rw
end Lf
end Go.Proofs.Ytkbimhccaacobaa

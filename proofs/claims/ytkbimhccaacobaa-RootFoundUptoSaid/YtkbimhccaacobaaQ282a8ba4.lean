/- A part of the proof: texts joined. -/
import Derived.Test.YtkbimhccaacobaaQ275de856
namespace Go.Proofs.Ytkbimhccaacobaa
open Go.RowKit Rg Wm Ar
set_option linter.unusedVariables false
set_option maxRecDepth 100000
namespace Lf
open Tr Ro
theorem delete_at {gone : List UInt8} {L : List (List UInt8)} {g : Nat} (h : LM Try.prog 21 [.w 1001 g 1 0 L.length, fnG] (delM gone g L) (fun o m => o = .ret (.s none ((kept gone L).map bV)) ∧ m = [(1000, .b [bV gone]), (1001, .x)])) {i j : Nat} (hij : i ≠ j) :
    LM Try.prog 21 [.w j g 1 0 L.length, .f (.func 23) [] [.p i 0]] [(i, .b [bV gone]), (j, .w 22 1 g (L.map bV))] (fun o m => o = .ret (.s none ((kept gone L).map bV)) ∧ m = [(i, .b [bV gone]), (j, .x)]) :=
  LM.gen [1000, 1001] [i, j] (by simp) (by simpa using hij) rfl h fun ρ hρ => by
    simp at hρ
    obtain ⟨e1, e2⟩ := hρ
    refine ⟨?_, ?_, ?_, ?_⟩
    · simp [V.ren, V.ren.go, e1, e2]
    · simp [delM, Mem.ren, M.ren, V.ren, e1, e2]
    · rfl
    · simp [Mem.ren, M.ren, V.ren, e1, e2]
theorem lack_clash {n : Nd} (hR : Right n 0) {gone : List UInt8} (hg : gone ∈ cdB n) {y : Rn} (hl : loadR (sumB (hcB n)) (kept gone (cdB n)) = (y, 0)) : Clashes (cdB n) := by
  obtain ⟨h1, h2, h3, _⟩ := loadR_sound hl
  by_cases hc : ∀ a ∈ cdB n, ∀ b ∈ cdB n, sumB a = sumB b → a = b
  · have hsub : ∀ c ∈ cdB (toN y), c ∈ cdB n := fun c hcc => (List.mem_filter.1 (h3 c hcc)).1
    have e := apart sumB sumB_len (toN y) n 0 0 (rt_right _ _ 0 (Nat.le_refl _) h1) hR (fun a ha b hb => hc a (hsub a ha) b hb) h2
    have h4 := h3 gone (by rw [e]; exact hg)
    have := (List.mem_filter.1 h4).2
    simp [isG] at this
  · simp only [Classical.not_forall] at hc
    obtain ⟨a, ha, b, hb, e, hne⟩ := hc
    exact ⟨a, ha, b, hb, e, hne⟩
namespace Rw
theorem Clone_buf (L : List (List UInt8)) (h0 : 0 < L.length) (hl : L.length < 100000000) (k : Nat) : LM Try.prog 22 [txV L] [] fun o m => o = .ret (.w k L.length 1 0 L.length) ∧ m = [(k, .w 22 1 L.length (L.map bV))] := by
  have h := Sl2.CloneBB (L.map bV) (fun e he => by obtain ⟨x, _, rfl⟩ := List.mem_map.1 he; rfl) (by rw [List.length_map]; omega) k
  rw [List.length_map] at h
  exact LM.buf1 (List.length_map _) h0 (fun e he => by
    obtain ⟨x, _, rfl⟩ := List.mem_map.1 he
    exact ⟨rfl, fun c hc => ⟨x, by simpa [V.cells] using hc⟩⟩) h
set_option maxHeartbeats 8000000 in
theorem Found_in (h : List UInt8) (codes : List (List UInt8)) (x : Rn) (z : Int) (y : Rn) (e : Nat) (H : List UInt8) (hh : h.length = 32) (hy : y.size < 20000000) (hx : x.size ≤ 1048576)
    (c2 : LF Try.prog 18 [hashV h, txV codes] (fun _ => .t [rnV y, .k (.int .i64 (e : Int))]) none)
    (c3 : e = 0 → LF Try.prog 19 [rnV y] (fun _ => .t [hashV h, .k (.int .i64 0)]) none) :
    LF Try.prog 4 [hashV h, txV codes, rnV x, .k (.int .i64 z)] (fun _ => .k (.bool true)) none := by
  have c1 := alive8_
  have hk1 := rnC_len x
  have hk2 := rnC_len y
  have hrf := rnC_refs
  cases hrt : rt x 0 with
  | false =>
    have c4 := Codes_no x (by omega) hrt
    by_cases he : e = 0
    · have c5 := c3 he
      subst he
      clear c3
      refine LFx.mk' tt Try.func4 rfl rfl rfl (by kernel_rfl) rfl rfl fun F => ?_
      exact wk trueW trueW trueW
    · clear c3
      refine LFx.mk' tt Try.func4 rfl rfl rfl (by kernel_rfl) rfl rfl fun F => ?_
      exact wk trueW trueW trueW
  | true =>
    have c4 := Codes_ok x (by omega) hrt
    have c6 := Root_ok x (by omega) hrt
    have hR := rt_right _ _ 0 (Nat.le_refl _) hrt
    have hsz := cdB_size hrt
    have hcl := cds_len _ 0 hR
    have hl1 := sumB_len (hcB (toN x))
    obtain ⟨b, c7, hb⟩ := Clash_t (ts := cdB (toN x)) (by omega) (fun t ht => by have := hcl t ht; omega)
    by_cases hz : 0 ≤ z ∧ z < ((cdB (toN x)).length : Int)
    · obtain ⟨t, rfl⟩ := Int.eq_ofNat_of_zero_le hz.1
      have ht : t < (cdB (toN x)).length := by omega
      have hgm : (cdB (toN x)).getD t default ∈ cdB (toN x) := by rw [List.getD_eq_getElem?_getD, List.getElem?_eq_getElem ht]; exact List.getElem_mem ht
      have c8 := Clone_buf (cdB (toN x)) (by omega) (by omega) 71
      have c9 := delete_at (Delete1 ((cdB (toN x)).getD t default) (cdB (toN x)) (cdB (toN x)).length (by omega)) (i := 17) (j := 71) (by decide)
      have hkl : (kept ((cdB (toN x)).getD t default) (cdB (toN x))).length ≤ (cdB (toN x)).length := List.length_filter_le _ _
      have c10 := Load_ (sumB (hcB (toN x))) (kept ((cdB (toN x)).getD t default) (cdB (toN x))) hl1 (by omega) (fun t ht => by have := hcl t (List.mem_filter.1 ht).1; omega)
      have hfin : b = true ∨ (loadR (sumB (hcB (toN x))) (kept ((cdB (toN x)).getD t default) (cdB (toN x)))).2 ≠ 0 := by
        by_cases h0 : (loadR (sumB (hcB (toN x))) (kept ((cdB (toN x)).getD t default) (cdB (toN x)))).2 = 0
        · exact .inl (hb.2 (lack_clash hR hgm (y := (loadR (sumB (hcB (toN x))) (kept ((cdB (toN x)).getD t default) (cdB (toN x)))).1) (Prod.ext rfl h0)))
        · exact .inr h0
      have hk3 := rnC_len (loadR (sumB (hcB (toN x))) (kept ((cdB (toN x)).getD t default) (cdB (toN x)))).1
      clear hR hcl hb hgm
      generalize loadR (sumB (hcB (toN x))) (kept ((cdB (toN x)).getD t default) (cdB (toN x))) = Y at *
      obtain ⟨y2, e2⟩ := Y
      simp only at c10 hfin hk3
      generalize kept ((cdB (toN x)).getD t default) (cdB (toN x)) = KL at *
      generalize sumB (hcB (toN x)) = HX at *
      generalize cdB (toN x) = CX at *
      clear hz
      rcases hfin with rfl | hfin
      · by_cases he : e = 0
        · have c5 := c3 he
          subst he
          clear c3
          by_cases he2 : e2 = 0
          · subst he2
            refine LFx.mk' tt Try.func4 rfl rfl rfl (by kernel_rfl) rfl rfl fun F => ?_
            exact wk trueW trueW trueW
          · refine LFx.mk' tt Try.func4 rfl rfl rfl (by kernel_rfl) rfl rfl fun F => ?_
            exact wk trueW trueW trueW
        · clear c3
          by_cases he2 : e2 = 0
          · subst he2
            refine LFx.mk' tt Try.func4 rfl rfl rfl (by kernel_rfl) rfl rfl fun F => ?_
            exact wk trueW trueW trueW
          · refine LFx.mk' tt Try.func4 rfl rfl rfl (by kernel_rfl) rfl rfl fun F => ?_
            exact wk trueW trueW trueW
      · by_cases he : e = 0
        · have c5 := c3 he
          subst he
          clear c3
          refine LFx.mk' tt Try.func4 rfl rfl rfl (by kernel_rfl) rfl rfl fun F => ?_
          exact wk trueW trueW trueW
        · clear c3
          refine LFx.mk' tt Try.func4 rfl rfl rfl (by kernel_rfl) rfl rfl fun F => ?_
          exact wk trueW trueW trueW
    · clear hR hcl hb c7
      generalize cdB (toN x) = CX at *
      rcases Int.lt_or_le z 0 with hz0 | hz0
      · by_cases he : e = 0
        · have c5 := c3 he
          subst he
          clear c3
          refine LFx.mk' tt Try.func4 rfl rfl rfl (by kernel_rfl) rfl rfl fun F => ?_
          exact wk trueW trueW trueW
        · clear c3
          refine LFx.mk' tt Try.func4 rfl rfl rfl (by kernel_rfl) rfl rfl fun F => ?_
          exact wk trueW trueW trueW
      · have hz1 : (CX.length : Int) ≤ z := by omega
        by_cases he : e = 0
        · have c5 := c3 he
          subst he
          clear c3
          refine LFx.mk' tt Try.func4 rfl rfl rfl (by kernel_rfl) rfl rfl fun F => ?_
          exact wk trueW trueW trueW
        · clear c3
          refine LFx.mk' tt Try.func4 rfl rfl rfl (by kernel_rfl) rfl rfl fun F => ?_
          exact wk trueW trueW trueW
theorem RootFound (h : List UInt8) (codes : List (List UInt8)) (x : Rn) (z : Int) (hh : h.length = 32) (hc : codes.length ≤ 1048576) (ht : ∀ t ∈ codes, t.length ≤ 1048576) (hx : x.size ≤ 1048576) :
    LF Try.prog 4 [hashV h, txV codes, rnV x, .k (.int .i64 z)] (fun _ => .k (.bool true)) none := by
  have c := Load_ h codes hh (by omega) (fun t hm => by have := ht t hm; omega)
  have hs := loadR_size h codes
  refine Found_in h codes x z (loadR h codes).1 (loadR h codes).2 h hh (by omega) hx c fun e => ?_
  obtain ⟨h1, h2, _, h4, _⟩ := loadR_sound (x := (loadR h codes).1) (h := h) (cs := codes) (Prod.ext rfl e)
  have := Root_ok (loadR h codes).1 (by omega) h1
  rwa [h2] at this
end Rw
end Lf
open Go.RowKit Rg Wm Ar
set_option maxRecDepth 100000
namespace Lf
open Tr Ro
namespace Rw
theorem LRootFound (h : List UInt8) (codes : List (List UInt8)) (x : Rn) (z : Int) (hh : h.length = 32) (hs : ((codes.map fun x => x.length + 1).sum + 1) + x.size ≤ 1048576) : LF Try.prog 4 [hashV h, txV codes, rnV x, .k (.int .i64 z)] (fun _ => .k (.bool true)) none := by
  have := sum_ge_one codes
  exact RootFound h codes x z hh (by omega) (fun t ht => by have := sum_ge_mem ht; omega) (by omega)
end Rw
end Lf
end Go.Proofs.Ytkbimhccaacobaa

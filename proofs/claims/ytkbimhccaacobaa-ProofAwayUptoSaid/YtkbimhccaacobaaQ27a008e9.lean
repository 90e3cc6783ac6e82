/- A part of the proof: texts joined. -/
import Derived.Test.YtkbimhccaacobaaQ26358fef
namespace Go.Proofs.Ytkbimhccaacobaa
open Go.RowKit Rg Wm Ar
set_option linter.unusedVariables false
set_option maxRecDepth 100000
namespace Lf
open Tr Ro Pk
theorem ck_err : ∀ (cs : List (List UInt8)) (first : Bool) (h p : List UInt8), (ck sumB cs first h p).1 ≠ 0 → (ck sumB cs first h p).2 = [] := by
  intro cs
  induction cs with
  | nil => intro first h p _; rfl
  | cons c r ih =>
    intro first h p hne
    rw [ck_cons] at hne ⊢
    split at hne
    · rename_i hs
      rw [if_pos hs]
      cases hr : readS c with
      | none => rfl
      | some s =>
        rw [hr] at hne
        simp only [] at hne ⊢
        split at hne
        · rename_i h1; rw [if_pos h1]
        · rename_i h1
          rw [if_neg h1]
          split at hne
          · rename_i h2
            rw [if_pos h2]
            split at hne
            · exact absurd rfl hne
            · rename_i h3; rw [if_neg h3]
          · rename_i h2
            rw [if_neg h2]
            exact ih _ _ _ hne
    · rename_i hs; rw [if_neg hs]
theorem ck_le : ∀ (cs : List (List UInt8)) (first : Bool) (h p : List UInt8), (ck sumB cs first h p).2.length ≤ 1024 := by
  intro cs
  induction cs with
  | nil => intro first h p; exact Nat.zero_le _
  | cons c r ih =>
    intro first h p
    rw [ck_cons]
    split
    · cases hr : readS c with
      | none => exact Nat.zero_le _
      | some s =>
        have := (readS_bound hr).2.1
        simp only []
        split
        · exact Nat.zero_le _
        · split
          · split
            · have := nxS_val s p; show (nxS s p).2.2.length ≤ _; omega
            · exact Nat.zero_le _
          · exact ih _ _ _
    · exact Nat.zero_le _
theorem way_lens {n : Nd} (hR : Right n 0) (q : Pa) : ∀ t ∈ wayA n q, t.length < 3000000 := fun t ht => by
  have := cds_len n 0 hR t (way_mem sumB _ n q 0 hR t ht); omega
theorem wayA_le (n : Nd) (q : Pa) : (wayA n q).length ≤ q.length + 1 := way_len sumB _ n q
theorem psA_way : (wayA (ofP psA) (keyP [1, 2])).length = 3 := by decide +kernel
namespace Rw
theorem Check_any (h key : List UInt8) (codes : List (List UInt8)) (hh : h.length = 32) (hn : codes.length < 100000000) (ht : ∀ t ∈ codes, t.length < 3000000) : ∃ (v : List UInt8) (e : Nat), LF Try.prog 30 [hashV h, bV key, txV codes] (fun _ => .t [bV v, .k (.int .i64 (e : Int))]) none ∧ (e ≠ 0 → v = []) ∧ (e = 0 → key.length ≤ 32 ∧ ck sumB codes true h (pB (keyP key)) = (0, v)) ∧ v.length ≤ 1024 := by
  by_cases hk : key.length ≤ 32
  · exact ⟨_, _, Check_ h key codes hh hk hn ht, ck_err _ _ _ _, fun e => ⟨hk, Prod.ext e rfl⟩, ck_le _ _ _ _⟩
  · exact ⟨[], 3, Check_long h key codes (by omega), fun _ => rfl, fun e => (by cases e), Nat.zero_le _⟩
set_option maxHeartbeats 4000000 in
theorem alive9_ : LF Try.prog 27 [] (fun _ => .k (.bool true)) none := by
  have c1 : LM Try.prog 33 [prsV psA] [] fun o m => o = .ret (.t [rnV nA, erV 0]) ∧ m = [] := by
    rcases Te.Of_ psA (by decide) (fun p hp => by have := psA_ok p hp; exact ⟨by have := this.1; omega, by have := this.2; omega⟩) with ⟨_, h⟩ | ⟨⟨p, hp, h⟩, _⟩
    · rw [show nA = ofN (ofP psA) by unfold nA; rfl]
      exact h
    · exact absurd (psA_ok p hp) h
  have hs : nA.size < 20000000 := by unfold nA; rw [size_of]; exact (by decide : wt (ofP psA) < 20000000)
  have hR : Right (ofP psA) 0 := by have := rt_right _ _ 0 (Nat.le_refl _) nA_right; rwa [nA_toN] at this
  have c2 := Root_ok nA hs nA_right
  have c3 : LM Try.prog 29 [rnV nA, .s none [.k (.int .u8 1), .k (.int .u8 2)]] [] fun o m => o = .ret (.t [txV (wayA (ofP psA) (keyP [1, 2])), .k (.int .i64 0)]) ∧ m = [] := by
    have h := Make_ok nA [1, 2] hs nA_right (by decide)
    rw [nA_toN] at h
    exact h
  rw [nA_toN] at c2
  have hlen := psA_way
  have hsl := sumB_len (hcB (ofP psA))
  have c4 : LM Try.prog 30 [hashV (sumB (hcB (ofP psA))), .s none [.k (.int .u8 1), .k (.int .u8 2)], txV (wayA (ofP psA) (keyP [1, 2]))] [] fun o m => o = .ret (.t [bV [97], .k (.int .i64 0)]) ∧ m = [] := by
    have h := Check_ (sumB (hcB (ofP psA))) [1, 2] (wayA (ofP psA) (keyP [1, 2])) hsl (by decide) (by omega) (way_lens hR _)
    unfold wayA at h
    rw [ck_way sumB sumB_len _ _ _ 0 true hR (fun h => by cases h) (by omega)] at h
    rw [nA_get] at h
    exact h
  have hk4 := rnC_len nA
  have hrf := rnC_refs
  have hcv := tr_cv2
  have hss : arithS .eql ⟨([97] : List UInt8).toArray⟩ ⟨#[97]⟩ = some (.bool true) := Lf.eqS (a := [97]) (b := [97]) rfl
  unfold psA at c1
  simp only [prsV, prV, List.map_cons, List.map_nil, prC_eq] at c1
  generalize nA = T at *
  generalize wayA (ofP psA) (keyP [1, 2]) = L at *
  generalize sumB (hcB (ofP psA)) = SS at *
  clear hR
  refine LFx.mk' tt Try.func27 rfl rfl rfl (by kernel_rfl) rfl rfl fun F => ?_
  exact wk trueW trueW trueW
set_option maxHeartbeats 8000000 in
theorem ProofWhole (x : Rn) (key : List UInt8) (hx : x.size ≤ 1048576) (hkl : key.length ≤ 1048576) : LF Try.prog 9 [rnV x, bV key] (fun _ => .k (.bool true)) none := by
  have c1 := alive9_
  have hk4 := rnC_len x
  have hrf := rnC_refs
  have hl0 : hash0.length = 32 := rfl
  cases hr : rt x 0 with
  | false =>
    have c2 := Root_no x (by omega) hr
    have c3 := Make_no x key (by omega) hr
    generalize hash0 = H at *
    refine LFx.mk' tt Try.func9 rfl rfl rfl (by kernel_rfl) rfl rfl fun F => ?_
    exact wk trueW trueW trueW
  | true =>
    have c2 := Root_ok x (by omega) hr
    have hl1 := sumB_len (hcB (toN x))
    by_cases hk : key.length ≤ 32
    · have hR := rt_right _ _ 0 (Nat.le_refl _) hr
      have c3 := Make_ok x key (by omega) hr hk
      have hq := keyP_len key
      have hwl := wayA_le (toN x) (keyP key)
      have c4 := Check_ (sumB (hcB (toN x))) key (wayA (toN x) (keyP key)) hl1 hk (by omega) (way_lens hR _)
      have e : ck sumB (wayA (toN x) (keyP key)) true (sumB (hcB (toN x))) (pB (keyP key)) = (0, Tr.get (toN x) (keyP key)) := ck_way sumB sumB_len _ _ _ 0 true hR (fun h => by cases h) (by omega)
      rw [e] at c4
      have c5 := Te.Get_ok x key (by omega) hr hk
      have hgl := get_len hR (keyP key)
      have hss : arithS .eql ⟨(Tr.get (toN x) (keyP key)).toArray⟩ ⟨(Tr.get (toN x) (keyP key)).toArray⟩ = some (.bool true) := Lf.eqS (decide_eq_true rfl)
      clear e hR
      generalize Tr.get (toN x) (keyP key) = G at *
      generalize wayA (toN x) (keyP key) = W at *
      generalize sumB (hcB (toN x)) = HX at *
      refine LFx.mk' tt Try.func9 rfl rfl rfl (by kernel_rfl) rfl rfl fun F => ?_
      exact wk trueW trueW trueW
    · have c3 := Make_long x key (by omega) hr (by omega)
      generalize sumB (hcB (toN x)) = HX at *
      refine LFx.mk' tt Try.func9 rfl rfl rfl (by kernel_rfl) rfl rfl fun F => ?_
      exact wk trueW trueW trueW
set_option maxHeartbeats 8000000 in
theorem ProofTrue (x : Rn) (key : List UInt8) (codes : List (List UInt8)) (hx : x.size ≤ 1048576) (hkl : key.length ≤ 1048576) (hc : codes.length ≤ 1048576) (ht : ∀ t ∈ codes, t.length ≤ 1048576) : LF Try.prog 11 [rnV x, bV key, txV codes] (fun _ => .k (.bool true)) none := by
  have c1 := alive9_
  have hk4 := rnC_len x
  have hrf := rnC_refs
  have hl0 : hash0.length = 32 := rfl
  have ht' : ∀ t ∈ codes, t.length < 3000000 := fun t h => by have := ht t h; omega
  cases hr : rt x 0 with
  | false =>
    have c2 := Root_no x (by omega) hr
    obtain ⟨v, e, c3, h1, _, hv⟩ := Check_any hash0 key codes hl0 (by omega) ht'
    generalize hash0 = H at *
    clear h1 ht ht'
    refine LFx.mk' tt Try.func11 rfl rfl rfl (by kernel_rfl) rfl rfl fun F => ?_
    exact wk trueW trueW trueW
  | true =>
    have c2 := Root_ok x (by omega) hr
    have hl1 := sumB_len (hcB (toN x))
    obtain ⟨v, e, c3, h1, h2, hv⟩ := Check_any (sumB (hcB (toN x))) key codes hl1 (by omega) ht'
    by_cases he : e = 0
    · subst he
      obtain ⟨hk, hck⟩ := h2 rfl
      have hR := rt_right _ _ 0 (Nat.le_refl _) hr
      have c4 := Te.Get_ok x key (by omega) hr hk
      have hgl := get_len hR (keyP key)
      by_cases hvg : v = Tr.get (toN x) (keyP key)
      · have hss : arithS .eql ⟨v.toArray⟩ ⟨(Tr.get (toN x) (keyP key)).toArray⟩ = some (.bool true) := Lf.eqS (decide_eq_true hvg)
        clear hvg h1 h2 ht ht' hck hR
        generalize Tr.get (toN x) (keyP key) = G at *
        generalize sumB (hcB (toN x)) = HX at *
        refine LFx.mk' tt Try.func11 rfl rfl rfl (by kernel_rfl) rfl rfl fun F => ?_
        exact wk trueW trueW trueW
      · have hss : arithS .eql ⟨v.toArray⟩ ⟨(Tr.get (toN x) (keyP key)).toArray⟩ = some (.bool false) := Lf.eqS (decide_eq_false hvg)
        have hsz := cdB_size hr
        have c5 := Codes_ok x (by omega) hr
        have c6 := Concat2 (cdB (toN x)) codes (by omega) (by omega)
        have hcl : Clashes (cdB (toN x) ++ codes) := by
          by_cases hn : ∀ a ∈ codes, ∀ b ∈ way sumB ((keyP key).length + 1) (toN x) (keyP key), sumB a = sumB b → a = b
          · exact absurd (ck_true sumB sumB_len _ _ _ 0 true codes v hR (fun h => by cases h) (by omega) hn hck).1 hvg
          · simp only [Classical.not_forall] at hn
            obtain ⟨a, ha, b, hb, e, hne⟩ := hn
            exact ⟨a, List.mem_append_right _ ha, b, List.mem_append_left _ (way_mem sumB _ _ _ 0 hR b hb), e, hne⟩
        have c7 := (Sr.Clash_ (cdB (toN x) ++ codes) (by rw [List.length_append]; omega) (fun t hm => by
          rcases List.mem_append.1 hm with h | h
          · have := cds_len _ 0 hR t h; omega
          · have := ht t h; omega)).1 hcl
        clear hvg h1 h2 ht ht' hck hR hcl
        generalize Tr.get (toN x) (keyP key) = G at *
        generalize sumB (hcB (toN x)) = HX at *
        generalize cdB (toN x) = CX at *
        refine LFx.mk' tt Try.func11 rfl rfl rfl (by kernel_rfl) rfl rfl fun F => ?_
        exact wk trueW trueW trueW
    · have hv0 : v.length = 0 := by rw [h1 he]; rfl
      clear h1 h2 ht ht'
      generalize sumB (hcB (toN x)) = HX at *
      refine LFx.mk' tt Try.func11 rfl rfl rfl (by kernel_rfl) rfl rfl fun F => ?_
      exact wk trueW trueW trueW
end Rw
end Lf
end Go.Proofs.Ytkbimhccaacobaa

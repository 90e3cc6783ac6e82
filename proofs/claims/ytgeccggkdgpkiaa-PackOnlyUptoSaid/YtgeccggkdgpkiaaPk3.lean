/- Package pack: Encode; items held against each other. -/
import Derived.Test.YtgeccggkdgpkiaaPk2
namespace Go.Proofs.Ytgeccggkdgpkiaa
open Go.RowKit Rg Wm Ar
set_option maxRecDepth 100000
namespace Lf
open Pk
theorem sameL_get : ∀ {a b : List Itm}, a.length = b.length → (sameL a b = true ↔ ∀ i, i < a.length → same (a.getD i default) (b.getD i default) = true)
  | [], [], _ => by simp [sameL]
  | x :: r, y :: s, h => by
    have ih := sameL_get (a := r) (b := s) (by simpa using h)
    rw [sameL, Bool.and_eq_true, ih]
    constructor
    · rintro ⟨h1, h2⟩ i hi
      cases i with
      | zero => exact h1
      | succ i => exact h2 i (by simpa using hi)
    · intro h1
      exact ⟨h1 0 (by simp), fun i hi => h1 (i + 1) (by simpa using hi)⟩
  | [], _ :: _, h => by simp at h
  | _ :: _, [], h => by simp at h
theorem sizeL_len (ks : List Itm) : ks.length ≤ Itm.sizeL ks := by
  induction ks with
  | nil => simp
  | cons a r ih => simp only [List.length_cons, Itm.sizeL]; omega
theorem getD_mem {ks : List Itm} {i : Nat} (h : i < ks.length) : ks.getD i default ∈ ks := by
  rw [List.getD_eq_getElem?_getD, List.getElem?_eq_getElem h]; exact List.getElem_mem h
namespace Pw
set_option maxHeartbeats 2000000 in
theorem Encode : ∀ (n : Nat) (x : Itm), x.size ≤ n → n < 100000000 → LF Try.prog 32 [itV x] (fun _ => .s none ((enc x).map bK)) none := by
  intro n
  induction n with
  | zero => intro x hx; obtain ⟨l, t, ks⟩ := x; simp only [Itm.size] at hx; omega
  | succ n ih =>
    intro x hx hn
    have hlen := enc_len x (by omega)
    obtain ⟨l, t, ks⟩ := x
    simp only [Itm.size] at hx hlen
    simp only [itV, itC_eq]
    cases l with
    | false =>
      by_cases hc : t.length = 1 ∧ t.getD 0 default < 128
      · have e : enc (.mk false t ks) = t := by unfold enc; rw [if_pos hc]
        rw [e]
        obtain ⟨h1, h2⟩ := hc
        have h3 : ((t.getD 0 default).toNat : Int) < 128 := by have : (t.getD 0 default).toNat < 128 := h2; omega
        have hv : V.s none [bK (t.getD 0 default)] = V.s none (t.map bK) := by
          match t, h1 with
          | [c], _ => rfl
        clear h2 hlen e
        refine LFx.mk' tt Try.func32 rfl rfl rfl (by kernel_rfl) rfl rfl fun F => ?_
        exact wk trueW trueW trueW
      · have e : enc (.mk false t ks) = Pk.head 128 t.length ++ t := by unfold enc; rw [if_neg hc]
        rw [e] at hlen ⊢
        rw [List.length_append] at hlen
        have c1 := head 128 (.inl rfl) t.length (by omega) 28
        rw [show (128 : UInt8).toNat = 128 from rfl] at c1
        generalize Pk.head 128 t.length = H at *
        clear e
        by_cases h1 : t.length = 1
        · have h3 : ¬ ((t.getD 0 default).toNat : Int) < 128 := fun h => hc ⟨h1, (show (t.getD 0 default).toNat < 128 by omega)⟩
          clear hc
          refine LFx.mk' tt Try.func32 rfl rfl rfl (by kernel_rfl) rfl rfl fun F => ?_
          exact wk trueW trueW trueW
        · clear hc
          refine LFx.mk' tt Try.func32 rfl rfl rfl (by kernel_rfl) rfl rfl fun F => ?_
          exact wk trueW trueW trueW
    | true =>
      have e : enc (.mk true t ks) = Pk.head 192 (encL ks).length ++ encL ks := by unfold enc; rfl
      rw [e] at hlen ⊢
      rw [List.length_append] at hlen
      have c2 := head 192 (.inr rfl) (encL ks).length (by omega) 46
      rw [show (192 : UInt8).toNat = 192 from rfl] at c2
      generalize Pk.head 192 (encL ks).length = H at *
      clear e
      have hkl := sizeL_len ks
      refine LFx.mk' tt Try.func32 rfl rfl rfl (by kernel_rfl) rfl rfl fun F => ?_
      refine wk ?_ trueW trueW
      refine LC.nilrow 3 3 5 1 rfl rfl rfl ?_
      refine LC.loop2 (fun i S => [(1, .p 1 0), (3, .s (some 3) (S.map bK)), (33, .s none (ks.map itV)), (34, .k (.int .i64 ((ks.length : Nat) : Int))), (35, .k (.int .i64 ((i : Nat) : Int)))]) (fun i S => [(1, .b [.k (.bool true), bV t, .s none (ks.map itV)]), (3, .r 5 1 S.length)]) (fun i S => i ≤ ks.length ∧ S = encL (ks.take i)) ((ks.length - ·)) (0) ([]) ⟨by omega, by rw [List.take_zero]; unfold encL; rfl⟩ ⟨rfl, rfl, rfl, rfl, rfl, trivial⟩ ⟨rfl, rfl, trivial⟩ rfl (by first | exact rfl | (simp only [V.cells, refsE, refsM, V.refs, V.refs.go, V.pure, V.pure.go, pure_mapq, pure_mapb, pure_mapu, refs_mapq, refs_mapb, refs_mapu, refs_append, Bool.and_true, Bool.true_and, Bool.and_self] <;> exact rfl) | (simp only [V.cells, refsE, refsM, V.refs, V.refs.go, V.pure, V.pure.go, pure_mapq, pure_mapb, pure_mapu, refs_mapq, refs_mapb, refs_mapu, refs_append, Bool.and_true, Bool.true_and, Bool.and_self, hrf] <;> exact rfl) | (simp only [V.cells, refsE, refsM, V.refs, V.refs.go, V.pure, V.pure.go, pure_mapq, pure_mapb, pure_mapu, refs_mapq, refs_mapb, refs_mapu, refs_append, Bool.and_true, Bool.true_and, Bool.and_self, hrf, hrg] <;> exact rfl) | exact lz) (by first | exact rfl | (simp only [V.cells, refsE, refsM, V.refs, V.refs.go, V.pure, V.pure.go, pure_mapq, pure_mapb, pure_mapu, refs_mapq, refs_mapb, refs_mapu, refs_append, Bool.and_true, Bool.true_and, Bool.and_self] <;> exact rfl) | (simp only [V.cells, refsE, refsM, V.refs, V.refs.go, V.pure, V.pure.go, pure_mapq, pure_mapb, pure_mapu, refs_mapq, refs_mapb, refs_mapu, refs_append, Bool.and_true, Bool.true_and, Bool.and_self, hrf] <;> exact rfl) | (simp only [V.cells, refsE, refsM, V.refs, V.refs.go, V.pure, V.pure.go, pure_mapq, pure_mapb, pure_mapu, refs_mapq, refs_mapb, refs_mapu, refs_append, Bool.and_true, Bool.true_and, Bool.and_self, hrf, hrg] <;> exact rfl) | exact lz) ?_
      rintro i S ⟨hi, hS⟩
      have hSl := encL_take_le ks i
      rw [← hS] at hSl
      rcases Nat.lt_or_ge i ks.length with h | h
      · have hm := sizeL_mem (getD_mem h)
        have c1 := ih (ks.getD i default) (by omega) (by omega)
        have hk3 := itC_len (ks.getD i default)
        have hE := encL_take h
        rw [← hS] at hE
        have hSl2 := encL_take_le ks (i + 1)
        rw [hE, List.length_append] at hSl2
        have hok : i + 1 ≤ ks.length ∧ S ++ enc (ks.getD i default) = encL (ks.take (i + 1)) := ⟨h, hE.symm⟩
        have hrf := itC_refs
        clear ih hS hE
        exact wk trueW trueW trueW
      · obtain rfl : i = ks.length := by omega
        rw [List.take_length] at hS
        subst hS
        clear ih
        exact wk trueW trueW trueW
set_option maxHeartbeats 2000000 in
theorem SameItem : ∀ (n : Nat) (x y : Itm), x.size ≤ n → n < 100000000 → y.size < 100000000 → LF Try.prog 31 [itV x, itV y] (fun _ => .k (.bool (same x y))) none := by
  intro n
  induction n with
  | zero => intro x y hx; obtain ⟨l, t, ks⟩ := x; simp only [Itm.size] at hx; omega
  | succ n ih =>
    intro x y hx hn hy
    obtain ⟨l, t, ks⟩ := x
    obtain ⟨l', t', ks'⟩ := y
    simp only [Itm.size] at hx hy
    simp only [itV, itC_eq]
    have hkl := sizeL_len ks
    have hkl' := sizeL_len ks'
    have e : same (.mk l t ks) (.mk l' t' ks') = (decide (l = l') && (if l = false then decide (t = t') else decide (ks.length = ks'.length) && sameL ks ks')) := by rw [same]
    rw [e]
    clear e
    cases l <;> cases l'
    · simp only [decide_true, Bool.true_and, if_true]
      have hs : arithS .eql ⟨t.toArray⟩ ⟨t'.toArray⟩ = some (.bool (decide (t = t'))) := by
        simp only [arithS, ByteArray.toList_mk]
        by_cases h : t = t'
        · subst h; simp
        · simp [h]
      clear ih
      refine LFx.mk' tt Try.func31 rfl rfl rfl (by kernel_rfl) rfl rfl fun F => ?_
      exact wk trueW trueW trueW
    · clear ih
      refine LFx.mk' tt Try.func31 rfl rfl rfl (by kernel_rfl) rfl rfl fun F => ?_
      exact wk trueW trueW trueW
    · clear ih
      refine LFx.mk' tt Try.func31 rfl rfl rfl (by kernel_rfl) rfl rfl fun F => ?_
      exact wk trueW trueW trueW
    · simp only [decide_true, Bool.true_and, Bool.true_eq_false, if_false]
      by_cases hl : ks.length = ks'.length
      · rw [show decide (ks.length = ks'.length) = true from decide_eq_true hl, Bool.true_and]
        have hg := sameL_get hl
        refine LFx.mk' tt Try.func31 rfl rfl rfl (by kernel_rfl) rfl rfl fun F => ?_
        refine wk ?_ trueW trueW
        refine LC.loopN (fun i => [(2, .p 2 0), (3, .p 3 0), (30, .k (.int .i64 ((ks.length : Nat) : Int))), (31, .k (.int .i64 ((i : Nat) : Int)))]) (fun i => [(2, .b [.k (.bool true), bV t, .s none (ks.map itV)]), (3, .b [.k (.bool true), bV t', .s none (ks'.map itV)])]) (fun i => i ≤ ks.length ∧ ∀ j, j < i → same (ks.getD j default) (ks'.getD j default) = true) ((ks.length - ·)) (0) ⟨by omega, fun j hj => by omega⟩ ⟨rfl, rfl, rfl, rfl, trivial⟩ ⟨rfl, rfl, trivial⟩ rfl (by first | exact rfl | (simp only [V.cells, refsE, refsM, V.refs, V.refs.go, V.pure, V.pure.go, pure_mapq, pure_mapb, pure_mapu, refs_mapq, refs_mapb, refs_mapu, refs_append, Bool.and_true, Bool.true_and, Bool.and_self] <;> exact rfl) | (simp only [V.cells, refsE, refsM, V.refs, V.refs.go, V.pure, V.pure.go, pure_mapq, pure_mapb, pure_mapu, refs_mapq, refs_mapb, refs_mapu, refs_append, Bool.and_true, Bool.true_and, Bool.and_self, hrf] <;> exact rfl) | (simp only [V.cells, refsE, refsM, V.refs, V.refs.go, V.pure, V.pure.go, pure_mapq, pure_mapb, pure_mapu, refs_mapq, refs_mapb, refs_mapu, refs_append, Bool.and_true, Bool.true_and, Bool.and_self, hrf, hrg] <;> exact rfl) | exact lz) (by first | exact rfl | (simp only [V.cells, refsE, refsM, V.refs, V.refs.go, V.pure, V.pure.go, pure_mapq, pure_mapb, pure_mapu, refs_mapq, refs_mapb, refs_mapu, refs_append, Bool.and_true, Bool.true_and, Bool.and_self] <;> exact rfl) | (simp only [V.cells, refsE, refsM, V.refs, V.refs.go, V.pure, V.pure.go, pure_mapq, pure_mapb, pure_mapu, refs_mapq, refs_mapb, refs_mapu, refs_append, Bool.and_true, Bool.true_and, Bool.and_self, hrf] <;> exact rfl) | (simp only [V.cells, refsE, refsM, V.refs, V.refs.go, V.pure, V.pure.go, pure_mapq, pure_mapb, pure_mapu, refs_mapq, refs_mapb, refs_mapu, refs_append, Bool.and_true, Bool.true_and, Bool.and_self, hrf, hrg] <;> exact rfl) | exact lz) ?_
        rintro i ⟨hi, hall⟩
        rcases Nat.lt_or_ge i ks.length with h | h
        · have h' : i < ks'.length := by omega
          have hm := sizeL_mem (getD_mem h)
          have hm' := sizeL_mem (getD_mem h')
          have c1 := ih (ks.getD i default) (ks'.getD i default) (by omega) (by omega) (by omega)
          have hk3 := itC_len (ks.getD i default)
          have hk4 := itC_len (ks'.getD i default)
          have hrf := itC_refs
          by_cases hsm : same (ks.getD i default) (ks'.getD i default) = true
          · have hok : i + 1 ≤ ks.length ∧ ∀ j, j < i + 1 → same (ks.getD j default) (ks'.getD j default) = true := ⟨h, fun j hj => by
              by_cases e : j = i
              · subst e; exact hsm
              · exact hall j (by omega)⟩
            rw [hsm] at c1
            clear ih hg hall hsm
            exact wk trueW trueW trueW
          · have hF : sameL ks ks' = false := by rw [← Bool.not_eq_true]; exact fun hh => hsm (hg.1 hh i h)
            rw [show same (ks.getD i default) (ks'.getD i default) = false by simpa using hsm] at c1
            have hv : V.k (.bool false) = V.k (.bool (sameL ks ks')) := by rw [hF]
            clear ih hg hall hsm hF
            exact wk trueW trueW trueW
        · obtain rfl : i = ks.length := by omega
          have hT : sameL ks ks' = true := hg.2 hall
          have hv : V.k (.bool true) = V.k (.bool (sameL ks ks')) := by rw [hT]
          clear ih hg hall hT
          exact wk trueW trueW trueW
      · rw [show decide (ks.length = ks'.length) = false from decide_eq_false hl, Bool.false_and]
        clear ih
        refine LFx.mk' tt Try.func31 rfl rfl rfl (by kernel_rfl) rfl rfl fun F => ?_
        exact wk trueW trueW trueW
end Pw
end Lf
end Go.Proofs.Ytgeccggkdgpkiaa

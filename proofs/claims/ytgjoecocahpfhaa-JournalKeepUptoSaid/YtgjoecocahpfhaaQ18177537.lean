/- A part of the proof: texts joined. -/
import Derived.Test.YtgjoecocahpfhaaQ17dbdbad
namespace Go.Proofs.Ytgjoecocahpfhaa
open Go.RowKit Rg Rp
set_option linter.unusedVariables false
set_option maxRecDepth 100000
namespace Lf
namespace Jw
open Jn
theorem getD_last (l : List Nat) : l.getD (l.length - 1) default = l.getLastD 0 := by
  rw [List.getD_eq_getElem?_getD, List.getLastD_eq_getLast?, List.getLast?_eq_getElem?]
  cases l[l.length - 1]? <;> rfl
theorem take_drop_snoc {l : List En} {k at_ : Nat} (h1 : at_ < k) (h2 : k ≤ l.length) : (l.take k).drop at_ = (l.take (k - 1)).drop at_ ++ [l.getD (k - 1) default] := by
  obtain ⟨j, rfl⟩ : ∃ j, k = j + 1 := ⟨k - 1, by omega⟩
  rw [Nat.add_sub_cancel, List.take_succ_eq_append_getElem (by omega), List.drop_append, List.length_take, show at_ - min j l.length = 0 by omega, List.drop_zero, List.getD_eq_getElem?_getD, List.getElem?_eq_getElem (by omega)]
  rfl
structure Lp (s : S) (k : Nat) (l : KV) : Prop where
  lo : s.marks.getLastD 0 ≤ k
  hi : k ≤ s.undo.length
  nd : ND l
  b : ∀ p ∈ l, p.1 < B64 ∧ p.2 < B64
  r : unwL l ((s.undo.take k).drop (s.marks.getLastD 0)) = unwL s.now (s.undo.drop (s.marks.getLastD 0))
theorem Lp.step {s : S} {k : Nat} {l : KV} (h : Lp s k l) (hu : ∀ e ∈ s.undo, e.1 < B64 ∧ e.2.1 < B64 ∧ (e.2.2 = true → e.2.1 ≠ 0)) (hk : s.marks.getLastD 0 < k) : Lp s (k - 1) (unw1 l (s.undo.getD (k - 1) default)) := by
  have hm : s.undo.getD (k - 1) default ∈ s.undo := by
    have := h.hi
    rw [List.getD_eq_getElem?_getD, List.getElem?_eq_getElem (by omega)]
    exact List.getElem_mem _
  obtain ⟨a1, a2, _⟩ := hu _ hm
  refine ⟨by omega, by have := h.hi; omega, ((Jn.Eqv.refl h.nd).unw1 _).nl, fun p hp => ?_, ?_⟩
  · unfold unw1 at hp
    split at hp
    · rcases put_mem hp with rfl | hp
      · exact ⟨a1, a2⟩
      · exact h.b p hp
    · exact h.b p ((del_sub _ _).subset hp)
  · rw [← h.r, take_drop_snoc hk h.hi, unwL_snoc]
theorem Lp.fin {s : S} {k : Nat} {l : KV} (h : Lp s k l) (hk : ¬ s.marks.getLastD 0 < k) : k = s.marks.getLastD 0 ∧ l = (back s).now := by
  have e : k = s.marks.getLastD 0 := by have := h.lo; omega
  refine ⟨e, ?_⟩
  have := h.r
  rw [e, List.drop_eq_nil_of_le (by rw [List.length_take]; omega)] at this
  exact this
set_option maxHeartbeats 8000000 in
theorem Back_ (s : S) (gu gm : Nat) (h : Ok B64 s) (hl : s.undo.length < 1000000000) (hm : s.marks.length < 1000000000) (h0 : s.marks ≠ []) : LM Try.prog 69 [.p 1000 0] (jM s.now s.undo s.marks gu gm) fun o m => o = .ret (.k (.bool true)) ∧ m = jM (back s).now (back s).undo (back s).marks gu gm := by
  have hM := mapTyJ
  have hp0 := List.length_pos_iff.2 h0
  have hgl := getD_last s.marks
  have hat := h.m _ (lastD_mem h0)
  have hml : (s.marks.map iK).length = s.marks.length := List.length_map _
  have hul : (s.undo.map enV).length = s.undo.length := List.length_map _
  have hzu := en_sz s.undo
  have hbr := en_bare
  have hbl : (back s).undo.length = s.marks.getLastD 0 := by show (s.undo.take _).length = _; rw [List.length_take]; omega
  have hbm : (back s).marks.length = s.marks.length - 1 := List.length_dropLast
  have ht1 : (s.undo.map enV).take (s.marks.getLastD 0) = (back s).undo.map enV := by show _ = (s.undo.take _).map enV; rw [List.map_take]
  have ht2 : (s.marks.map iK).take (s.marks.length - 1) = (back s).marks.map iK := by show _ = (s.marks.dropLast).map iK; rw [dropLast_take, List.map_take]
  have hi0 : Lp s s.undo.length s.now := ⟨hat, Nat.le_refl _, h.nd, h.b, by rw [List.take_length]⟩
  have hstep := fun k l (hL : Lp s k l) => hL.step h.u
  have hfin := fun k l (hL : Lp s k l) => hL.fin
  have hu := h.u
  clear h h0
  unfold jM
  rw [hbl, hbm]
  generalize hat_ : s.marks.getLastD 0 = at_ at *
  refine LM.enter tt Try.func69 rfl rfl rfl (by kernel_rfl) rfl rfl rfl (fun o mo h => by rw [h.2]; rfl) fun F _ => ?_
  refine wk ?_ trueW trueW
  rw [hgl]
  refine LC.loop5 (fun k l (_u2 : Unit) (_u3 : Unit) (_u4 : Unit) => [(0, .p 1000 0), (3, .k (.int .i64 ((s.marks.length : Nat) : Int))), (4, .k (.int .i64 ((at_ : Nat) : Int)))]) (fun k l (_u2 : Unit) (_u3 : Unit) (_u4 : Unit) => [(1000, .b (jB k s.marks.length gu gm)), (1001, .d (nowE l) none), (1002, .w 142 3 gu (s.undo.map enV)), (1003, .w 3 1 gm (s.marks.map iK))]) (fun k l (_u2 : Unit) (_u3 : Unit) (_u4 : Unit) => Lp s k l) ((fun k => k)) (s.undo.length) (s.now) () () () (hi0) ⟨rfl, rfl, rfl, trivial⟩ ⟨rfl, rfl, rfl, rfl, trivial⟩ rfl rfW rfW ?_
  clear hgl hi0
  rintro k l _ _ _ hL
  have hkl := hL.hi
  by_cases hk : at_ < k
  · have hL2 := hstep k l hL hk
    have hks := keysN hL.b
    have hnd := hL.nd
    have hmem : s.undo.getD (k - 1) default ∈ s.undo := by
      rw [List.getD_eq_getElem?_getD, List.getElem?_eq_getElem (by omega)]
      exact List.getElem_mem _
    have hkey := keyU _ (hu _ hmem).1
    have hmu : k - 1 < k := by omega
    have ld1 := @en_part s.undo
    clear hstep hfin hu hmem hL
    unfold unw1 at hL2
    by_cases hh : (s.undo.getD (k - 1) default).2.2 = true
    · rw [if_pos hh] at hL2
      cases e : lku l (s.undo.getD (k - 1) default).1 with
      | none =>
        obtain ⟨hno, h2⟩ := no_of e
        have hes := h2 (s.undo.getD (k - 1) default).2.1
        have hok := hL2
        exact wk trueW trueW trueW
      | some w =>
        obtain ⟨st, hat2, h2⟩ := at_of hnd e
        have hes := h2 (s.undo.getD (k - 1) default).2.1
        have hok := hL2
        exact wk trueW trueW trueW
    · rw [if_neg hh] at hL2
      have hhf := Bool.eq_false_iff.2 hh
      have hdel := del_of (k := (s.undo.getD (k - 1) default).1) hnd
      have hok := hL2
      exact wk trueW trueW trueW
  · obtain ⟨e1, e2⟩ := hfin k l hL hk
    have hsr : ShrAt 1000 1 1002 := ⟨trivial⟩
    have hsq : ShrAt 1000 2 1003 := ⟨trivial⟩
    rw [← e2]
    subst e1
    clear hstep hfin hu hL
    rcases Nat.eq_or_lt_of_le hkl with e3 | e3
    · have e4 : (back s).undo.map enV = s.undo.map enV := by rw [← ht1, e3, ← hul, List.take_length]
      rw [e4]
      clear hsr e4
      exact wk trueW trueW trueW
    · exact wk trueW trueW trueW
end Jw
end Lf
open Go.RowKit Rg Rp
set_option linter.unusedVariables false
set_option maxRecDepth 100000
namespace Lf
namespace Jw
open Jn
set_option maxHeartbeats 4000000 in
theorem Back_no (s : S) (gu gm : Nat) (hm : s.marks = []) : LM Try.prog 69 [.p 1000 0] (jM s.now s.undo s.marks gu gm) fun o m => o = .ret (.k (.bool false)) ∧ m = jM s.now s.undo s.marks gu gm := by
  have h0 : s.marks.length = 0 := by rw [hm]; rfl
  refine LM.enter tt Try.func69 rfl rfl rfl (by kernel_rfl) rfl rfl rfl (fun o mo h => by rw [h.2]; rfl) fun F _ => ?_
  exact wk trueW trueW trueW
abbrev ansV (a : Ans) : V := .a [iK a.err, uK a.val]
abbrev opV (o : Jop) : V := .a [.k (.int .i64 o.kind), uK o.key, uK o.val]
set_option maxHeartbeats 4000000 in
theorem end1 (s t : S) (gu gm : Nat) (fx : Nat) (hm : t.marks.length < 1000000000) (c1 : LM Try.prog fx [.p 1000 0] (jM s.now s.undo s.marks gu gm) fun o m => o = .ret (.k (.bool true)) ∧ m = jM t.now t.undo t.marks gu gm) : LM Try.prog 65 [.f (.func fx) [.p 1000 0] [], .p 1004 0] ((1004, .b [.p 1000 0]) :: jM s.now s.undo s.marks gu gm) fun o m => o = .ret (ansV ⟨0, t.marks.length⟩) ∧ m = (1004, .b [.p 1000 0]) :: jM t.now t.undo t.marks gu gm := by
  refine LM.enter tt Try.func65 rfl rfl rfl (by kernel_rfl) rfl rfl rfl (fun o mo h => by rw [h.2]; rfl) fun F _ => ?_
  exact wk trueW trueW trueW
set_option maxHeartbeats 4000000 in
theorem end0 (s : S) (gu gm : Nat) (fx : Nat) (c1 : LM Try.prog fx [.p 1000 0] (jM s.now s.undo s.marks gu gm) fun o m => o = .ret (.k (.bool false)) ∧ m = jM s.now s.undo s.marks gu gm) : LM Try.prog 65 [.f (.func fx) [.p 1000 0] [], .p 1004 0] ((1004, .b [.p 1000 0]) :: jM s.now s.undo s.marks gu gm) fun o m => o = .ret (ansV ⟨31, 0⟩) ∧ m = (1004, .b [.p 1000 0]) :: jM s.now s.undo s.marks gu gm := by
  refine LM.enter tt Try.func65 rfl rfl rfl (by kernel_rfl) rfl rfl rfl (fun o mo h => by rw [h.2]; rfl) fun F _ => ?_
  exact wk trueW trueW trueW
theorem end_gen {s t : S} {gu gm fx : Nat} {v : V} (hv : ∀ ρ : Nat → Nat, V.ren ρ v = v) (k : Nat) (hk : k < 1000) (h : LM Try.prog 65 [.f (.func fx) [.p 1000 0] [], .p 1004 0] ((1004, .b [.p 1000 0]) :: jM s.now s.undo s.marks gu gm) fun o m => o = .ret v ∧ m = (1004, .b [.p 1000 0]) :: jM t.now t.undo t.marks gu gm) : LM Try.prog 65 [.f (.func fx) [.p 1000 0] [], .p k 0] ((k, .b [.p 1000 0]) :: jM s.now s.undo s.marks gu gm) fun o m => o = .ret v ∧ m = (k, .b [.p 1000 0]) :: jM t.now t.undo t.marks gu gm :=
  LM.gen [1004, 1000, 1001, 1002, 1003] [k, 1000, 1001, 1002, 1003] (by simp) (by simp; omega) rfl h fun ρ hρ => by
    simp at hρ
    obtain ⟨h1, h2, h3, h4, h5⟩ := hρ
    exact ⟨by simp [V.ren, V.ren.go, h1, h2, h3, h4, h5], by simp [Mem.ren, M.ren, V.ren, h1, h2, h3, h4, h5], by simp [Out.ren, hv], by simp [Mem.ren, M.ren, V.ren, h1, h2, h3, h4, h5]⟩
end Jw
end Lf
end Go.Proofs.Ytgjoecocahpfhaa

/- A part of the proof: texts joined. -/
import Derived.Test.YtpaafpmofhajfaaGreatDoorQ14e748d1
import Derived.Test.YtpaafpmofhajfaaGreatDoorQ15c88f7c
set_option linter.unusedVariables false
set_option linter.unusedSimpArgs false
namespace Go.Proofs.YtpaafpmofhajfaaGreatDoor
open Go.RowKit Rg Wm Ar
set_option linter.unusedVariables false
set_option maxRecDepth 100000
namespace Lf
open Pk
abbrev i64K (z : Int) : V := .k (.int .i64 z)
namespace Pw
theorem ren3 (l : List UInt8) (X : List V) (hX : ∀ ρ : Nat → Nat, X.map (V.ren ρ) = X) (Y Z : V) (hY : ∀ ρ : Nat → Nat, Y.ren ρ = Y) (hZ : ∀ ρ : Nat → Nat, Z.ren ρ = Z) (ρ : Pm) (hρ : [1002, 1003, 1004].map ρ.f = [2, 3, 4]) :
  Mem.ren ρ.f [(1002, .b X), (1003, .b [Y]), (1004, .b [Z])] = [(2, .b X), (3, .b [Y]), (4, .b [Z])] ∧
  ∀ t v, aget [(0, bV l), (2, V.p 1002 0), (3, V.p 1003 0), (4, V.p 1004 0)] t = some v → aget [(0, bV l), (2, V.p 2 0), (3, V.p 3 0), (4, V.p 4 0)] t = some (v.ren ρ.f) := by
 simp only [List.map_cons, List.map_nil, List.cons.injEq, and_true] at hρ
 obtain ⟨h1, h2, h3⟩ := hρ
 refine ⟨by simp [Mem.ren, M.ren, h1, h2, h3, hX, hY, hZ], fun t v h => ?_⟩
 simp only [aget_cons] at h ⊢
 by_cases e0 : 0 = t
 ·rw [if_pos e0] at h ⊢; cases h; rfl
 ·rw [if_neg e0] at h ⊢
  by_cases e2 : 2 = t
  ·rw [if_pos e2] at h ⊢; cases h; simp [V.ren, h1]
  ·rw [if_neg e2] at h ⊢
   by_cases e3 : 3 = t
   ·rw [if_pos e3] at h ⊢; cases h; simp [V.ren, h2]
   ·rw [if_neg e3] at h ⊢
    by_cases e4 : 4 = t
    ·rw [if_pos e4] at h ⊢; cases h; simp [V.ren, h3]
    ·rw [if_neg e4] at h; cases h
set_option maxHeartbeats 1000000 in
theorem Split_idle (k : Itm) (y z : Int) : DefC Tryz.prog 73 ([1002, 1003, 1004].map fun i => .p i 0) none [(1002, .b (itC k)), (1003, .b [i64K y]), (1004, .b [i64K z])] [(1002, .b (itC k)), (1003, .b [i64K y]), (1004, .b [i64K z])] := by
 have hrf := itC_refs
 refine DefC.enter tt Tryz.func73 rfl rfl rfl rfl rfl rfl rfl rfl rfl rfl rfl rfl rfl rfl rfl rfl fun F _ => ?_
 exact wk trueW trueW trueW
set_option maxHeartbeats 1000000 in
theorem Split_mis : DefC Tryz.prog 73 ([1002, 1003, 1004].map fun i => .p i 0) (some misV) [(1002, .b [.k (.bool false), .nil, .nil]), (1003, .b [i64K 0]), (1004, .b [i64K 0])] [(1002, .b [.k (.bool false), .nil, .nil]), (1003, .b [i64K 0]), (1004, .b [i64K 1])] := by
 refine DefC.enter tt Tryz.func73 rfl rfl rfl rfl rfl rfl rfl rfl rfl rfl rfl rfl rfl rfl rfl rfl fun F _ => ?_
 exact wk trueW trueW trueW
set_option maxHeartbeats 2000000 in
theorem Split_ok (l r : List UInt8) (k : Itm) (hl : l.length < 1073741000) (h : rd l = some (k, r)) : LF Tryz.prog 46 [bV l] (fun _ => .t [itV k, i64K ((l.length - r.length : Nat) : Int), i64K 0]) none := by
 have c1 := (item_all l.length l (Nat.le_refl _) hl).1 k r h
 have hlt := rd_len h
 have hd := Split_idle k ((l.length - r.length : Nat) : Int) 0
 have hk3 := itC_len k
 have hrf := itC_refs
 refine LM.enterD tt [1002, 1003, 1004] [2, 3, 4] [(0, bV l), (2, .p 2 0), (3, .p 3 0), (4, .p 4 0)] [(0, bV l), (2, .p 1002 0), (3, .p 1003 0), (4, .p 1004 0)] [(2, .b [.k (.bool false), .nil, .nil]), (3, .b [i64K 0]), (4, .b [i64K 0])] [(1002, .b [.k (.bool false), .nil, .nil]), (1003, .b [i64K 0]), (1004, .b [i64K 0])]
  Tryz.func46 rfl rfl rfl (by kernel_rfl) (by kernel_rfl) rfl rfl (caps := [.tmp 2, .tmp 3, .tmp 4]) rfl rfl rfl rfl rfl rfl rfl rfl rfl rfl (by decide) (by decide) rfl (fun ρ hρ => ren3 l _ (fun _ => rfl) _ _ (fun _ => rfl) (fun _ => rfl) ρ hρ) rfl (fun t v ht e => by subst e; have ht' : (none : Option V) = some v := ht; cases ht') (fun F _ => ?_) fun F => ?_
 ·refine wk ?_ trueW trueW
  exact ⟨⟨rfl, rfl, rfl, rfl, trivial⟩, ⟨rfl, rfl, rfl, trivial⟩, rfl⟩
 ·refine wk ?_ trueW trueW
  refine ⟨[(2, .p 1002 0), (3, .p 1003 0), (4, .p 1004 0)], [(1002, .b (itC k)), (1003, .b [i64K ((l.length - r.length : Nat) : Int)]), (1004, .b [i64K 0])], [(1002, .b (itC k)), (1003, .b [i64K ((l.length - r.length : Nat) : Int)]), (1004, .b [i64K 0])], _, _, ⟨rfl, rfl, rfl, trivial⟩, ⟨rfl, rfl, rfl, trivial⟩, ?_, rfl, hd, resV_3 (res1_cell rfl rfl rfl (part_whole rfl hk3)) (res1_cell rfl rfl rfl rfl) (res1_cell rfl rfl rfl rfl), ⟨fun _ => true, false, cv_same _⟩, ?_, rfl, rfl⟩
  ·simp only [refsE, refsM, V.refs, V.refs.go, hrf, Bool.and_true, Bool.true_and, Bool.and_self]; rfl
  ·simp only [V.refs, V.refs.go, hrf, Bool.and_true, Bool.true_and, Bool.and_self]
set_option maxHeartbeats 2000000 in
theorem Split_no (l : List UInt8) (hl : l.length < 1073741000) (h : rd l = none) : LF Tryz.prog 46 [bV l] (fun _ => .t [.a [.k (.bool false), .s none [], .s none []], i64K 0, i64K 1]) none := by
 obtain ⟨r, p1⟩ := (item_all l.length l (Nat.le_refl _) hl).2 h
 have hd := Split_mis
 have hp1 : PanIn 3 0 := ⟨trivial⟩
 refine LM.enterD tt [1002, 1003, 1004] [2, 3, 4] [(0, bV l), (2, .p 2 0), (3, .p 3 0), (4, .p 4 0)] [(0, bV l), (2, .p 1002 0), (3, .p 1003 0), (4, .p 1004 0)] [(2, .b [.k (.bool false), .nil, .nil]), (3, .b [i64K 0]), (4, .b [i64K 0])] [(1002, .b [.k (.bool false), .nil, .nil]), (1003, .b [i64K 0]), (1004, .b [i64K 0])]
  Tryz.func46 rfl rfl rfl (by kernel_rfl) (by kernel_rfl) rfl rfl (caps := [.tmp 2, .tmp 3, .tmp 4]) rfl rfl rfl rfl rfl rfl rfl rfl rfl rfl (by decide) (by decide) rfl (fun ρ hρ => ren3 l _ (fun _ => rfl) _ _ (fun _ => rfl) (fun _ => rfl) ρ hρ) rfl (fun t v ht e => by subst e; have ht' : (none : Option V) = some v := ht; cases ht') (fun F _ => ?_) fun F => ?_
 ·refine wk ?_ trueW trueW
  exact ⟨⟨rfl, rfl, rfl, rfl, trivial⟩, ⟨rfl, rfl, rfl, trivial⟩, rfl⟩
 ·refine wk ?_ trueW trueW
  refine ⟨[(2, .p 1002 0), (3, .p 1003 0), (4, .p 1004 0)], [(1002, .b [.k (.bool false), .nil, .nil]), (1003, .b [i64K 0]), (1004, .b [i64K 0])], [(1002, .b [.k (.bool false), .nil, .nil]), (1003, .b [i64K 0]), (1004, .b [i64K 1])], _, _, ⟨rfl, rfl, rfl, trivial⟩, ⟨rfl, rfl, rfl, trivial⟩, rfl, rfl, hd, resV_3 (res1_cell rfl rfl rfl rfl) (res1_cell rfl rfl rfl rfl) (res1_cell rfl rfl rfl rfl), ⟨fun _ => false, true, rfl⟩, rfl, rfl, rfl⟩
set_option maxHeartbeats 1000000 in
theorem Decode_ok (l : List UInt8) (k : Itm) (hl : l.length < 1073741000) (h : dec l = some k) : LF Tryz.prog 19 [bV l] (fun _ => .t [itV k, i64K 0]) none := by
 have hr : rd l = some (k, []) := by
  unfold dec at h
  cases hr : rd l with
  | none => rw [hr] at h; cases h
  | some x =>
   obtain ⟨k', r⟩ := x
   rw [hr] at h
   cases r with
   | nil => cases h; rfl
   | cons => cases h
 have c1 := Split_ok l [] k hl hr
 have hk3 := itC_len k
 have hrf := itC_refs
 clear h hr
 refine LFx.mk' tt Tryz.func19 rfl rfl rfl (by kernel_rfl) rfl rfl fun F => ?_
 exact wk trueW trueW trueW
set_option maxHeartbeats 1000000 in
theorem Decode_no (l : List UInt8) (hl : l.length < 1073741000) (h : dec l = none) : LF Tryz.prog 19 [bV l] (fun _ => .t [.a [.k (.bool false), .s none [], .s none []], i64K 1]) none := by
 cases hr : rd l with
 | none =>
  have c1 := Split_no l hl hr
  clear h hr
  refine LFx.mk' tt Tryz.func19 rfl rfl rfl (by kernel_rfl) rfl rfl fun F => ?_
  exact wk trueW trueW trueW
 | some x =>
  obtain ⟨k, r⟩ := x
  have hlt := rd_len hr
  have hne : 0 < r.length := by
   rcases Nat.eq_zero_or_pos r.length with h0 | h0
   ·rw [List.eq_nil_of_length_eq_zero h0] at hr
    unfold dec at h
    rw [hr] at h
    cases h
   ·exact h0
  have c1 := Split_ok l r k hl hr
  have hk3 := itC_len k
  have hrf := itC_refs
  clear h hr
  refine LFx.mk' tt Tryz.func19 rfl rfl rfl (by kernel_rfl) rfl rfl fun F => ?_
  exact wk trueW trueW trueW
end Pw
end Lf
end Go.Proofs.YtpaafpmofhajfaaGreatDoor

/- A part of the proof: texts joined. -/
import Derived.Test.YtffaobngpbaklaaGreatDoorQ232411de
import Derived.Test.YtffaobngpbaklaaGreatDoorQ29142720
import Derived.Test.YtffaobngpbaklaaGreatDoorQ310e4b1c
set_option linter.unusedVariables false
set_option linter.unusedSimpArgs false
namespace Go.Proofs.YtffaobngpbaklaaGreatDoor
open Go.RowKit Rg Wm Ar
set_option linter.unusedVariables false
set_option maxRecDepth 100000
namespace Lf
theorem mapTyL : MapTy Tryz.prog 59 3 (.agg #[]) := ⟨⟨63, by kernel_rfl, fun w => by kernel_rfl⟩, Maps.int_keyed (q := .i64) (by kernel_rfl)⟩
theorem key_L (z : Int) (h : -9223372036854775808 ≤ z ∧ z ≤ 9223372036854775807) : ∃ l, keyOf Tryz.prog 3 (.int .i64 z) = some l := ⟨_, Maps.keyOf_int_mk (q := .i64) (by kernel_rfl) (by
 have h1 : IntKind.i64.min = -9223372036854775808 := rfl
 have h2 : IntKind.i64.max = 9223372036854775807 := rfl
 simp only [Lit.wf, h1, h2, Bool.and_eq_true, decide_eq_true_eq]
 omega)⟩
theorem keyL (z : Int) (h : -9223372036854775808 ≤ z ∧ z ≤ 9223372036854775807) : KeyV Tryz.prog 3 (.k (.int .i64 z)) (.int .i64 z) := ⟨key_L z h, fun w g v hr => by cases hr; rfl⟩
theorem keysL {L : List Nat} (h : ∀ x ∈ L, x < 1073741824) : KeysV Tryz.prog 3 (mL L) := ⟨fun p hp => by
 obtain ⟨x, hx, rfl⟩ := List.mem_map.1 hp
 have := h x hx
 exact key_L x (by omega)⟩
theorem getL_yes {L : List Nat} {n : Nat} (h : n ∈ L) : MGetO (mL L) (.int .i64 ((n : Nat) : Int)) (.a []) (.a []) true := ⟨fun h1 => absurd rfl (h1 (_, .a []) (List.mem_map.2 ⟨n, h, rfl⟩)), fun p hp _ => by
 obtain ⟨x, hx, rfl⟩ := List.mem_map.1 hp
 exact ⟨rfl, rfl⟩⟩
theorem getL_no {L : List Nat} {z : Int} (h : ∀ x ∈ L, ((x : Nat) : Int) ≠ z) : MGetO (mL L) (.int .i64 z) (.a []) (.a []) false := ⟨fun _ => ⟨rfl, rfl⟩, fun p hp e => by
 obtain ⟨x, hx, rfl⟩ := List.mem_map.1 hp
 exact absurd (Value.int.inj e).2 (h x hx)⟩
theorem rep_none {w : World} {g : Gh} : Rep w g (.a []) (.agg #[]) := .a rfl (fun u hu => by cases hu) fun j u x hj _ => by simp at hj
theorem lands_lt {c : List UInt8} {x : Nat} (h : x ∈ Co.lands c) : x < c.length := by
 unfold Co.lands at h
 exact (Co.plc_mem 0 x (List.mem_filter.1 h).1).2
theorem eqS (a b : List UInt8) : arithS .eql ⟨a.toArray⟩ ⟨b.toArray⟩ = some (.bool (decide (a = b))) := by
 simp only [arithS, ByteArray.toList_mk]
 by_cases h : a = b
 ·subst h; simp
 ·simp [h]
namespace Fw
set_option maxHeartbeats 1000000 in
theorem jump_ok (c inp : List UInt8) (g mg : Nat) (l : List UInt8) (sg : Nat) (st : List Nat) (pc : Nat) (o : List UInt8) (t : Nat) (hcl : c.length < 1073741824) (h : t % M256 ∈ Co.lands c) : LM Tryz.prog 64 [.p 1000 0, wV t] (frM c inp g mg l sg st pc o) fun q m => q = .ret (.t []) ∧ m = frM c inp g mg l sg st (t % M256) o := by
 have hq := limbs_len t
 have hlt := lands_lt h
 have e0 := limb0s' t (by omega)
 have hget := getL_yes h
 rw [← e0] at hget hlt
 have rep_e0 := @rep_none
 have hM := mapTyL
 have hks := keysL (L := Co.lands c) fun x hx => by have := lands_lt hx; omega
 have hkey := keyL ((limbs t).getD 0 default : Nat) (by omega)
 have c1 := Wo.IntW ((limbs t).getD 0 default) (by unfold m64; omega)
 have hle := limbs_len ((limbs t).getD 0 default)
 have heq : limbs t = limbs ((limbs t).getD 0 default) := limbs_eq (by rw [e0, Nat.mod_mod])
 have hnn : ¬ ¬ limbs t = limbs ((limbs t).getD 0 default) := fun k => k heq
 have hcv : IntKind.i64.wrap (((limbs t).getD 0 default : Nat) : Int) = (((limbs t).getD 0 default : Nat) : Int) := wrap_i64 (by omega)
 rw [← e0]
 clear h e0
 refine LM.enter tt Tryz.func64 rfl rfl rfl (by kernel_rfl) rfl rfl rfl (fun o mo h => by rw [h.2]; rfl) fun F _ => ?_
 exact wk trueW trueW trueW
set_option maxHeartbeats 1000000 in
theorem jump_no (c inp : List UInt8) (g mg : Nat) (l : List UInt8) (sg : Nat) (st : List Nat) (pc : Nat) (o : List UInt8) (t : Nat) (hcl : c.length < 1073741824) (h : ¬ t % M256 ∈ Co.lands c) : LM Tryz.prog 64 [.p 1000 0, wV t] (frM c inp g mg l sg st pc o) fun q m => q = .pan (fltV 8) ∧ m = frM c inp g mg l sg st pc o := by
 have hq := limbs_len t
 have hl0 := limbs_lt t 0
 have rep_e0 := @rep_none
 have hM := mapTyL
 have hks := keysL (L := Co.lands c) fun x hx => by have := lands_lt hx; omega
 have p1 := Fail 8
 have hp1 : PanIn 3 0 := ⟨trivial⟩
 have hwr : -9223372036854775808 ≤ IntKind.i64.wrap (((limbs t).getD 0 default : Nat) : Int) ∧ IntKind.i64.wrap (((limbs t).getD 0 default : Nat) : Int) ≤ 9223372036854775807 := by
  rw [IntKind.wrap_i64]; omega
 by_cases h2 : (limbs t).getD 0 default ∈ Co.lands c
 ·have hlt := lands_lt h2
  have hcv : IntKind.i64.wrap (((limbs t).getD 0 default : Nat) : Int) = (((limbs t).getD 0 default : Nat) : Int) := wrap_i64 (by omega)
  have hget := getL_yes h2
  have hkey := keyL ((limbs t).getD 0 default : Nat) (by omega)
  have c1 := Wo.IntW ((limbs t).getD 0 default) (by unfold m64; omega)
  have hle := limbs_len ((limbs t).getD 0 default)
  have hne : ¬ limbs t = limbs ((limbs t).getD 0 default) := fun e => h (by
   have := limbs_inj e
   rw [this, Nat.mod_eq_of_lt (show (limbs t).getD 0 default < M256 by unfold M256 m64; omega)]
   exact h2)
  clear h h2 hwr
  refine LM.enter tt Tryz.func64 rfl rfl rfl (by kernel_rfl) rfl rfl rfl (fun o mo h => by rw [h.2]; rfl) fun F _ => ?_
  exact wk trueW trueW trueW
 ·have hkey := keyL _ hwr
  have hget := getL_no (L := Co.lands c) (z := IntKind.i64.wrap (((limbs t).getD 0 default : Nat) : Int)) fun x hx e => h2 (by
   have hlt := lands_lt hx
   rw [IntKind.wrap_i64] at e
   have : x = (limbs t).getD 0 default := by omega
   exact this ▸ hx)
  clear h h2 hwr
  refine LM.enter tt Tryz.func64 rfl rfl rfl (by kernel_rfl) rfl rfl rfl (fun o mo h => by rw [h.2]; rfl) fun F _ => ?_
  exact wk trueW trueW trueW
theorem cnt_le (n : Nat) (hn : n < 256) : (Fm.cnt n).1 ≤ 50 ∧ (Fm.cnt n).2 ≤ 50 := by
 have h : ((List.range 256).all fun n => Nat.ble (Fm.cnt n).1 50 && Nat.ble (Fm.cnt n).2 50) = true := by decide +kernel
 have := List.all_eq_true.1 h n (List.mem_range.2 hn)
 rw [Bool.and_eq_true] at this
 exact ⟨Nat.le_of_ble_eq_true this.1, Nat.le_of_ble_eq_true this.2⟩
set_option maxHeartbeats 1000000 in
theorem check_name (c inp : List UInt8) (g mg : Nat) (l : List UInt8) (sg : Nat) (st : List Nat) (pc : Nat) (o : List UInt8) (n : Nat) (hn : n < 256) (h1 : Cn.name n = []) : LM Tryz.prog 60 [.p 1000 0, .k (.int .u8 ((n : Nat) : Int)), boV true] (frM c inp g mg l sg st pc o) fun q m => q = .pan (fltV 9) ∧ m = frM c inp g mg l sg st pc o := by
 have c1 := Cw.Name n hn
 have c2 := OfWorld n
 have hs := eqS (Cn.name n) []
 have p1 := Fail 9
 have hp1 : PanIn 1 0 := ⟨trivial⟩
 rw [decide_eq_true h1] at hs
 rw [h1] at c1 hs
 clear h1
 refine LM.enter tt Tryz.func60 rfl rfl rfl (by kernel_rfl) rfl rfl rfl (fun o mo h => by rw [h.2]; rfl) fun F _ => ?_
 exact wk trueW trueW trueW
set_option maxHeartbeats 1000000 in
theorem check_world (c inp : List UInt8) (g mg : Nat) (l : List UInt8) (sg : Nat) (st : List Nat) (pc : Nat) (o : List UInt8) (n : Nat) (hn : n < 256) (h1 : ¬ Cn.name n = []) (h2 : Fm.ofW n = true) : LM Tryz.prog 60 [.p 1000 0, .k (.int .u8 ((n : Nat) : Int)), boV true] (frM c inp g mg l sg st pc o) fun q m => q = .pan (fltV 9) ∧ m = frM c inp g mg l sg st pc o := by
 have c1 := Cw.Name n hn
 have c2 := OfWorld n
 have hs := eqS (Cn.name n) []
 have p1 := Fail 9
 have hp1 : PanIn 1 0 := ⟨trivial⟩
 rw [decide_eq_false h1] at hs
 rw [h2] at c2
 clear h1 h2
 generalize Cn.name n = s at *
 refine LM.enter tt Tryz.func60 rfl rfl rfl (by kernel_rfl) rfl rfl rfl (fun o mo h => by rw [h.2]; rfl) fun F _ => ?_
 exact wk trueW trueW trueW
set_option maxHeartbeats 1000000 in
theorem check_few (c inp : List UInt8) (g mg : Nat) (l : List UInt8) (sg : Nat) (st : List Nat) (pc : Nat) (o : List UInt8) (n : Nat) (hn : n < 256) (h1 : ¬ Cn.name n = []) (h2 : Fm.ofW n = false) (hs0 : st.length ≤ 1000) (h3 : st.length < (Fm.cnt n).1) : LM Tryz.prog 60 [.p 1000 0, .k (.int .u8 ((n : Nat) : Int)), boV true] (frM c inp g mg l sg st pc o) fun q m => q = .pan (fltV 7) ∧ m = frM c inp g mg l sg st pc o := by
 have c1 := Cw.Name n hn
 have c2 := OfWorld n
 have hs := eqS (Cn.name n) []
 rw [decide_eq_false h1] at hs
 rw [h2] at c2
 have c3 := Counts n hn
 have p1 := Fail 7
 have hp1 : PanIn 5 0 := ⟨trivial⟩
 clear h1 h2
 have hcb := cnt_le n hn
 generalize Cn.name n = s at *
 generalize (Fm.cnt n).1 = x at *
 generalize (Fm.cnt n).2 = y at *
 refine LM.enter tt Tryz.func60 rfl rfl rfl (by kernel_rfl) rfl rfl rfl (fun o mo h => by rw [h.2]; rfl) fun F _ => ?_
 exact wk trueW trueW trueW
set_option maxHeartbeats 1000000 in
theorem check_many (c inp : List UInt8) (g mg : Nat) (l : List UInt8) (sg : Nat) (st : List Nat) (pc : Nat) (o : List UInt8) (n : Nat) (hn : n < 256) (h1 : ¬ Cn.name n = []) (h2 : Fm.ofW n = false) (hs0 : st.length ≤ 1000) (h3 : ¬ st.length < (Fm.cnt n).1) (h4 : 64 < st.length - (Fm.cnt n).1 + (Fm.cnt n).2) : LM Tryz.prog 60 [.p 1000 0, .k (.int .u8 ((n : Nat) : Int)), boV true] (frM c inp g mg l sg st pc o) fun q m => q = .pan (fltV 7) ∧ m = frM c inp g mg l sg st pc o := by
 have c1 := Cw.Name n hn
 have c2 := OfWorld n
 have hs := eqS (Cn.name n) []
 rw [decide_eq_false h1] at hs
 rw [h2] at c2
 have c3 := Counts n hn
 have p1 := Fail 7
 have hp1 : PanIn 5 0 := ⟨trivial⟩
 clear h1 h2
 have hcb := cnt_le n hn
 generalize Cn.name n = s at *
 generalize (Fm.cnt n).1 = x at *
 generalize (Fm.cnt n).2 = y at *
 have hw : IntKind.i64.wrap ((st.length : Int) - (x : Int)) = ((st.length - x : Nat) : Int) := by rw [wrap_i64 (by omega)]; omega
 refine LM.enter tt Tryz.func60 rfl rfl rfl (by kernel_rfl) rfl rfl rfl (fun o mo h => by rw [h.2]; rfl) fun F _ => ?_
 exact wk trueW trueW trueW
set_option maxHeartbeats 1000000 in
theorem check_gas (c inp : List UInt8) (g mg : Nat) (l : List UInt8) (sg : Nat) (st : List Nat) (pc : Nat) (o : List UInt8) (n : Nat) (hn : n < 256) (h1 : ¬ Cn.name n = []) (h2 : Fm.ofW n = false) (hs0 : st.length ≤ 1000) (h3 : ¬ st.length < (Fm.cnt n).1) (h4 : ¬ 64 < st.length - (Fm.cnt n).1 + (Fm.cnt n).2) (h5 : g < Pr.opN n) : LM Tryz.prog 60 [.p 1000 0, .k (.int .u8 ((n : Nat) : Int)), boV true] (frM c inp g mg l sg st pc o) fun q m => q = .pan (fltV 10) ∧ m = frM c inp g mg l sg st pc o := by
 have c1 := Cw.Name n hn
 have c2 := OfWorld n
 have hs := eqS (Cn.name n) []
 rw [decide_eq_false h1] at hs
 rw [h2] at c2
 have c3 := Counts n hn
 have c4 := Prw.Op n hn
 have p1 := Pay_no c inp g mg l sg st pc o _ h5
 have hp1 : PanIn 6 3 := ⟨trivial⟩
 clear h1 h2
 generalize Pr.opN n = pr at *
 have hcb := cnt_le n hn
 generalize Cn.name n = s at *
 generalize (Fm.cnt n).1 = x at *
 generalize (Fm.cnt n).2 = y at *
 have hw : IntKind.i64.wrap ((st.length : Int) - (x : Int)) = ((st.length - x : Nat) : Int) := by rw [wrap_i64 (by omega)]; omega
 refine LM.enter tt Tryz.func60 rfl rfl rfl (by kernel_rfl) rfl rfl rfl (fun o mo h => by rw [h.2]; rfl) fun F _ => ?_
 exact wk trueW trueW trueW
set_option maxHeartbeats 1000000 in
theorem check_ok (c inp : List UInt8) (g mg : Nat) (l : List UInt8) (sg : Nat) (st : List Nat) (pc : Nat) (o : List UInt8) (n : Nat) (hn : n < 256) (h1 : ¬ Cn.name n = []) (h2 : Fm.ofW n = false) (hs0 : st.length ≤ 1000) (h3 : ¬ st.length < (Fm.cnt n).1) (h4 : ¬ 64 < st.length - (Fm.cnt n).1 + (Fm.cnt n).2) (hg : g < 18446744073709551616) (h5 : Pr.opN n ≤ g) : LM Tryz.prog 60 [.p 1000 0, .k (.int .u8 ((n : Nat) : Int)), boV true] (frM c inp g mg l sg st pc o) fun q m => q = .ret (.t []) ∧ m = frM c inp (g - Pr.opN n) mg l sg st pc o := by
 have c1 := Cw.Name n hn
 have c2 := OfWorld n
 have hs := eqS (Cn.name n) []
 rw [decide_eq_false h1] at hs
 rw [h2] at c2
 have c3 := Counts n hn
 have c4 := Prw.Op n hn
 have c5 := Pay_ok c inp g mg l sg st pc o _ h5 hg
 clear h1 h2
 generalize Pr.opN n = pr at *
 have hcb := cnt_le n hn
 generalize Cn.name n = s at *
 generalize (Fm.cnt n).1 = x at *
 generalize (Fm.cnt n).2 = y at *
 have hw : IntKind.i64.wrap ((st.length : Int) - (x : Int)) = ((st.length - x : Nat) : Int) := by rw [wrap_i64 (by omega)]; omega
 refine LM.enter tt Tryz.func60 rfl rfl rfl (by kernel_rfl) rfl rfl rfl (fun o mo h => by rw [h.2]; rfl) fun F _ => ?_
 exact wk trueW trueW trueW
end Fw
end Lf
end Go.Proofs.YtffaobngpbaklaaGreatDoor

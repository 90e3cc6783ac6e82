/- A part of the proof: texts joined. -/
import Derived.Test.YtffaobngpbaklaaGreatDoorQ204d87af
set_option linter.unusedVariables false
set_option linter.unusedSimpArgs false
namespace Go.Proofs.YtffaobngpbaklaaGreatDoor
open Go.RowKit Rg Wm Ar
set_option linter.unusedVariables false
set_option maxRecDepth 100000
namespace Lf
theorem sk_take2 (a b : Nat) (r : List Nat) : (sk (a :: b :: r)).take r.length = sk r := by
 rw [sk, sk, List.append_assoc]
 exact List.take_left' (sk_len r)
theorem sk_set : ∀ (st : List Nat) (k v : Nat), k < st.length → (sk st).set (st.length - 1 - k) (wV v) = sk (st.set k v)
 | [], k, v, h => by simp at h
 | a :: r, 0, v, h => by
  rw [List.set_cons_zero, sk, sk, show (a :: r).length - 1 - 0 = (sk r).length by rw [sk_len, List.length_cons]; omega, List.set_append_right _ _ (Nat.le_refl _), Nat.sub_self]
  rfl
 | a :: r, k + 1, v, h => by
  have hk : k < r.length := by simpa using h
  rw [List.set_cons_succ, sk, sk, show (a :: r).length - 1 - (k + 1) = r.length - 1 - k by rw [List.length_cons]; omega, List.set_append_left _ _ (by rw [sk_len]; omega), sk_set r k v hk]
abbrev frS (c inp : List UInt8) (g mg : Nat) (l : List UInt8) (sg n : Nat) (S : List V) (pc : Nat) (o : List UInt8) : Mem :=
 [(1000, .b [.s none (c.map bK), .s none (inp.map bK), uK g, .w 1001 mg 1 0 l.length, .w 1002 sg 4 0 n, .mp 1003, .k (.int .i64 ((pc : Nat) : Int)), .s none (o.map bK)]), (1001, .w 5 1 mg (l.map bK)), (1002, .w 36 4 sg S), (1003, .m (mL (Co.lands c)))]
namespace Fw
set_option maxHeartbeats 1000000 in
theorem dup (c inp : List UInt8) (g mg : Nat) (l : List UInt8) (sg : Nat) (st : List Nat) (pc : Nat) (o : List UInt8) (n : Nat) (h1 : 128 ≤ n) (h2 : n < 144) (h3 : n - 128 < st.length) (hs : st.length ≤ 1000) : LM Tryz.prog 85 [.p 1000 0, .k (.int .u8 ((n : Nat) : Int))] (frM c inp g mg l sg st pc o) fun q m => q = .ret (boV true) ∧ m = frM c inp g mg l (sg + 1) (st.getD (n - 128) 0 :: st) pc o := by
 have hw1 : IntKind.i64.wrap ((st.length : Int) - 1) = ((st.length - 1 : Nat) : Int) := by rw [wrap_i64 (by omega)]; omega
 have hw2 : IntKind.u8.wrap ((n : Int) - 128) = ((n - 128 : Nat) : Int) := by rw [wrap_u8 (by omega)]; omega
 have hw3 : IntKind.i64.wrap (((st.length - 1 : Nat) : Int) - ((n - 128 : Nat) : Int)) = ((st.length - 1 - (n - 128) : Nat) : Int) := by rw [wrap_i64 (by omega)]; omega
 have ld1 := sk_part (st := st) (t := st.length - 1 - (n - 128)) (by omega)
 rw [show st.length - 1 - (st.length - 1 - (n - 128)) = n - 128 by omega] at ld1
 have hq := limbs_len (st.getD (n - 128) 0)
 have hsl := sk_len st
 have hsc := sk_cells (st := st)
 have c1 := Push c inp g mg l sg st pc o (st.getD (n - 128) 0) (by omega)
 generalize st.getD (n - 128) 0 = x at *
 refine LM.enter tt Tryz.func85 rfl rfl rfl (by kernel_rfl) rfl rfl rfl (fun o mo h => by rw [h.2]; rfl) fun F _ => ?_
 exact wk trueW trueW trueW
set_option maxHeartbeats 1000000 in
theorem swapS (c inp : List UInt8) (g mg : Nat) (l : List UInt8) (sg : Nat) (st : List Nat) (pc : Nat) (o : List UInt8) (n : Nat) (h1 : 144 ≤ n) (h2 : n < 160) (h3 : n - 143 < st.length) (hs : st.length ≤ 1000) : LM Tryz.prog 85 [.p 1000 0, .k (.int .u8 ((n : Nat) : Int))] (frM c inp g mg l sg st pc o) fun q m => q = .ret (boV true) ∧ m = frS c inp g mg l sg st.length (((sk st).set (st.length - 2 - (n - 144)) (wV (st.getD 0 0))).set (st.length - 1) (wV (st.getD (n - 143) 0))) pc o := by
 have hw1 : IntKind.i64.wrap ((st.length : Int) - 1) = ((st.length - 1 : Nat) : Int) := by rw [wrap_i64 (by omega)]; omega
 have hw0 : IntKind.i64.wrap ((st.length : Int) - 2) = ((st.length - 2 : Nat) : Int) := by rw [wrap_i64 (by omega)]; omega
 have hw2 : IntKind.u8.wrap ((n : Int) - 144) = ((n - 144 : Nat) : Int) := by rw [wrap_u8 (by omega)]; omega
 have hw3 : IntKind.i64.wrap (((st.length - 2 : Nat) : Int) - ((n - 144 : Nat) : Int)) = ((st.length - 2 - (n - 144) : Nat) : Int) := by rw [wrap_i64 (by omega)]; omega
 have ld1 := sk_part (st := st) (t := st.length - 1) (by omega)
 rw [show st.length - 1 - (st.length - 1) = 0 by omega] at ld1
 have ld2 := sk_part (st := st) (t := st.length - 2 - (n - 144)) (by omega)
 rw [show st.length - 1 - (st.length - 2 - (n - 144)) = n - 143 by omega] at ld2
 have hq := limbs_len (st.getD (n - 143) 0)
 have hq2 := limbs_len (st.getD 0 0)
 have hsl := sk_len st
 have hbr : ∀ x : Nat, (wV x).bare = some (wV x) := fun x => bare_am fun _ => rfl
 have hsl2 : ((sk st).set (st.length - 2 - (n - 144)) (wV (st.getD 0 0))).length = st.length := by rw [List.length_set, sk_len]
 have hsc := sk_cells (st := st)
 generalize st.getD (n - 143) 0 = x at *
 generalize st.getD 0 0 = y at *
 refine LM.enter tt Tryz.func85 rfl rfl rfl (by kernel_rfl) rfl rfl rfl (fun o mo h => by rw [h.2]; rfl) fun F _ => ?_
 exact wk trueW trueW trueW
theorem swap (c inp : List UInt8) (g mg : Nat) (l : List UInt8) (sg : Nat) (st : List Nat) (pc : Nat) (o : List UInt8) (n : Nat) (h1 : 144 ≤ n) (h2 : n < 160) (h3 : n - 143 < st.length) (hs : st.length ≤ 1000) : LM Tryz.prog 85 [.p 1000 0, .k (.int .u8 ((n : Nat) : Int))] (frM c inp g mg l sg st pc o) fun q m => q = .ret (boV true) ∧ m = frM c inp g mg l sg ((st.set 0 (st.getD (n - 143) 0)).set (n - 143) (st.getD 0 0)) pc o := by
 have h := swapS c inp g mg l sg st pc o n h1 h2 h3 hs
 have e : ((sk st).set (st.length - 2 - (n - 144)) (wV (st.getD 0 0))).set (st.length - 1) (wV (st.getD (n - 143) 0)) = sk ((st.set 0 (st.getD (n - 143) 0)).set (n - 143) (st.getD 0 0)) := by
  rw [show st.length - 2 - (n - 144) = st.length - 1 - (n - 143) by omega, sk_set st (n - 143) _ h3]
  have h4 := sk_set (st.set (n - 143) (st.getD 0 0)) 0 (st.getD (n - 143) 0) (by rw [List.length_set]; omega)
  rw [List.length_set, Nat.sub_zero] at h4
  rw [h4, List.set_comm _ _ (by omega)]
 rw [e] at h
 have e2 : ((st.set 0 (st.getD (n - 143) 0)).set (n - 143) (st.getD 0 0)).length = st.length := by rw [List.length_set, List.length_set]
 show LM _ _ _ _ fun q m => q = _ ∧ m = frS _ _ _ _ _ _ _ _ _ _
 rw [e2]
 exact h
set_option maxHeartbeats 1000000 in
theorem shuffle_few (c inp : List UInt8) (g mg : Nat) (l : List UInt8) (sg : Nat) (st : List Nat) (pc : Nat) (o : List UInt8) (n : Nat) (hn : n < 256) (hr : ¬ (128 ≤ n ∧ n < 160)) (hs : st.length < 2) : LM Tryz.prog 85 [.p 1000 0, .k (.int .u8 ((n : Nat) : Int))] (frM c inp g mg l sg st pc o) fun q m => q = .ret (boV false) ∧ m = frM c inp g mg l sg st pc o := by
 rcases Nat.lt_or_ge n 128 with h1 | h1
 ·clear hr
  refine LM.enter tt Tryz.func85 rfl rfl rfl (by kernel_rfl) rfl rfl rfl (fun o mo h => by rw [h.2]; rfl) fun F _ => ?_
  exact wk trueW trueW trueW
 ·have h2 : 160 ≤ n := by omega
  clear hr
  refine LM.enter tt Tryz.func85 rfl rfl rfl (by kernel_rfl) rfl rfl rfl (fun o mo h => by rw [h.2]; rfl) fun F _ => ?_
  exact wk trueW trueW trueW
set_option maxHeartbeats 1000000 in
theorem shuffle_two (c inp : List UInt8) (g mg : Nat) (l : List UInt8) (sg : Nat) (r : List Nat) (pc : Nat) (o : List UInt8) (a b x n : Nat) (hn : n < 256) (hr : ¬ (128 ≤ n ∧ n < 160)) (hs : r.length ≤ 900) (h : Fm.two n a b = some x) : LM Tryz.prog 85 [.p 1000 0, .k (.int .u8 ((n : Nat) : Int))] (frM c inp g mg l sg (a :: b :: r) pc o) fun q m => q = .ret (boV true) ∧ m = frM c inp g mg l (sg + 1) (x :: r) pc o := by
 have hw1 : IntKind.i64.wrap (((a :: b :: r).length : Int) - 1) = ((r.length + 1 : Nat) : Int) := by rw [wrap_i64 (by simp only [List.length_cons]; omega)]; simp only [List.length_cons]; omega
 have hw2 : IntKind.i64.wrap (((a :: b :: r).length : Int) - 2) = ((r.length : Nat) : Int) := by rw [wrap_i64 (by simp only [List.length_cons]; omega)]; simp only [List.length_cons]; omega
 have hlt1 : r.length + 1 < (a :: b :: r).length := Nat.lt_succ_self _
 have hlt2 : r.length < (a :: b :: r).length := by simp only [List.length_cons]; omega
 have hlt3 : ¬ (((a :: b :: r).length : Nat) : Int) < 2 := by simp only [List.length_cons]; omega
 have ld1 := sk_part (st := a :: b :: r) (t := r.length + 1) hlt1
 rw [show (a :: b :: r).length - 1 - (r.length + 1) = 0 by simp only [List.length_cons]; omega] at ld1
 have ld2 := sk_part (st := a :: b :: r) (t := r.length) hlt2
 rw [show (a :: b :: r).length - 1 - r.length = 1 by simp only [List.length_cons]; omega] at ld2
 have ld1 : ∀ ti : TI, ti.d.agg = true → ti.size = 4 → ti.part ((sk (a :: b :: r)).flatMap V.cells) ((r.length + 1) * 4) = some (wV a) := ld1
 have ld2 : ∀ ti : TI, ti.d.agg = true → ti.size = 4 → ti.part ((sk (a :: b :: r)).flatMap V.cells) (r.length * 4) = some (wV b) := ld2
 have hsl := sk_len (a :: b :: r)
 have hsc := sk_cells (st := a :: b :: r)
 have hqa := limbs_len a
 have hqb := limbs_len b
 have hqx := limbs_len x
 have c1 := Two_yes n a b x h
 clear h
 have hstp : StopAt 13 := ⟨trivial⟩
 have hsl0 := sk_len r
 have hsc0 := sk_cells (st := r)
 rcases Nat.lt_or_ge n 128 with h1 | h1
 ·clear hr
  refine LM.enter tt Tryz.func85 rfl rfl rfl (by kernel_rfl) rfl rfl rfl (fun o mo h => by rw [h.2]; rfl) fun F _ => ?_
  refine wk ?_ trueW trueW
  refine Stp.mk (LC.shrink 1002 r.length (es' := sk r) rfl (by rw [hsl]; omega) (sk_take2 a b r) ?_)
  clear hstp
  refine wk ?_ trueW trueW
  refine DR.rr rfl rfl (Does.cutWz tt rfl rfl rfl rfl rfl rfl .none (.some rfl rfl) (Nat.zero_le _) (Nat.le_of_lt hlt2) (Nat.sub_zero _)) rfl rfl ?_
  exact wk trueW trueW trueW
 ·have h2 : 160 ≤ n := by omega
  clear hr
  refine LM.enter tt Tryz.func85 rfl rfl rfl (by kernel_rfl) rfl rfl rfl (fun o mo h => by rw [h.2]; rfl) fun F _ => ?_
  refine wk ?_ trueW trueW
  refine Stp.mk (LC.shrink 1002 r.length (es' := sk r) rfl (by rw [hsl]; omega) (sk_take2 a b r) ?_)
  clear hstp
  refine wk ?_ trueW trueW
  refine DR.rr rfl rfl (Does.cutWz tt rfl rfl rfl rfl rfl rfl .none (.some rfl rfl) (Nat.zero_le _) (Nat.le_of_lt hlt2) (Nat.sub_zero _)) rfl rfl ?_
  exact wk trueW trueW trueW
set_option maxHeartbeats 1000000 in
theorem shuffle_not (c inp : List UInt8) (g mg : Nat) (l : List UInt8) (sg : Nat) (r : List Nat) (pc : Nat) (o : List UInt8) (a b n : Nat) (hn : n < 256) (hr : ¬ (128 ≤ n ∧ n < 160)) (hs : r.length ≤ 900) (h : Fm.two n a b = none) : LM Tryz.prog 85 [.p 1000 0, .k (.int .u8 ((n : Nat) : Int))] (frM c inp g mg l sg (a :: b :: r) pc o) fun q m => q = .ret (boV false) ∧ m = frM c inp g mg l sg (a :: b :: r) pc o := by
 have hw1 : IntKind.i64.wrap (((a :: b :: r).length : Int) - 1) = ((r.length + 1 : Nat) : Int) := by rw [wrap_i64 (by simp only [List.length_cons]; omega)]; simp only [List.length_cons]; omega
 have hw2 : IntKind.i64.wrap (((a :: b :: r).length : Int) - 2) = ((r.length : Nat) : Int) := by rw [wrap_i64 (by simp only [List.length_cons]; omega)]; simp only [List.length_cons]; omega
 have hlt1 : r.length + 1 < (a :: b :: r).length := Nat.lt_succ_self _
 have hlt2 : r.length < (a :: b :: r).length := by simp only [List.length_cons]; omega
 have hlt3 : ¬ (((a :: b :: r).length : Nat) : Int) < 2 := by simp only [List.length_cons]; omega
 have ld1 := sk_part (st := a :: b :: r) (t := r.length + 1) hlt1
 rw [show (a :: b :: r).length - 1 - (r.length + 1) = 0 by simp only [List.length_cons]; omega] at ld1
 have ld2 := sk_part (st := a :: b :: r) (t := r.length) hlt2
 rw [show (a :: b :: r).length - 1 - r.length = 1 by simp only [List.length_cons]; omega] at ld2
 have ld1 : ∀ ti : TI, ti.d.agg = true → ti.size = 4 → ti.part ((sk (a :: b :: r)).flatMap V.cells) ((r.length + 1) * 4) = some (wV a) := ld1
 have ld2 : ∀ ti : TI, ti.d.agg = true → ti.size = 4 → ti.part ((sk (a :: b :: r)).flatMap V.cells) (r.length * 4) = some (wV b) := ld2
 have hsl := sk_len (a :: b :: r)
 have hsc := sk_cells (st := a :: b :: r)
 have hqa := limbs_len a
 have hqb := limbs_len b
 have hqx := limbs_len 0
 have c1 := Two_no n a b h
 clear h
 rcases Nat.lt_or_ge n 128 with h1 | h1
 ·clear hr
  refine LM.enter tt Tryz.func85 rfl rfl rfl (by kernel_rfl) rfl rfl rfl (fun o mo h => by rw [h.2]; rfl) fun F _ => ?_
  exact wk trueW trueW trueW
 ·have h2 : 160 ≤ n := by omega
  clear hr
  refine LM.enter tt Tryz.func85 rfl rfl rfl (by kernel_rfl) rfl rfl rfl (fun o mo h => by rw [h.2]; rfl) fun F _ => ?_
  exact wk trueW trueW trueW
set_option maxHeartbeats 1000000 in
theorem tell_53 (c inp : List UInt8) (g mg : Nat) (l : List UInt8) (sg : Nat) (st : List Nat) (pc : Nat) (o : List UInt8) (hs : st.length ≤ 1000) (hL : l.length ≤ 4096) (hi : inp.length < 1073741824) (hcl : c.length < 1073741824) (hpc : pc < 1073741824) (hg : g < 18446744073709551616) : LM Tryz.prog 69 [.p 1000 0, .k (.int .u8 ((53 : Nat) : Int))] (frM c inp g mg l sg st pc o) fun q m => q = .ret (boV true) ∧ m = frM c inp g mg l (sg + 1) (inp.length :: st) pc o := by
 have c1 := Wo.IntW (inp.length) (by unfold m64; omega)
 have c2 := Push c inp g mg l sg st pc o (inp.length) (by omega)
 have hq := limbs_len (inp.length)
 refine LM.enter tt Tryz.func69 rfl rfl rfl (by kernel_rfl) rfl rfl rfl (fun o mo h => by rw [h.2]; rfl) fun F _ => ?_
 exact wk trueW trueW trueW
set_option maxHeartbeats 1000000 in
theorem tell_55 (c inp : List UInt8) (g mg : Nat) (l : List UInt8) (sg : Nat) (st : List Nat) (pc : Nat) (o : List UInt8) (hs : st.length ≤ 1000) (hL : l.length ≤ 4096) (hi : inp.length < 1073741824) (hcl : c.length < 1073741824) (hpc : pc < 1073741824) (hg : g < 18446744073709551616) : LM Tryz.prog 69 [.p 1000 0, .k (.int .u8 ((55 : Nat) : Int))] (frM c inp g mg l sg st pc o) fun q m => q = .ret (boV true) ∧ m = frM c inp g mg l (sg + 1) (c.length :: st) pc o := by
 have c1 := Wo.IntW (c.length) (by unfold m64; omega)
 have c2 := Push c inp g mg l sg st pc o (c.length) (by omega)
 have hq := limbs_len (c.length)
 refine LM.enter tt Tryz.func69 rfl rfl rfl (by kernel_rfl) rfl rfl rfl (fun o mo h => by rw [h.2]; rfl) fun F _ => ?_
 exact wk trueW trueW trueW
set_option maxHeartbeats 1000000 in
theorem tell_88 (c inp : List UInt8) (g mg : Nat) (l : List UInt8) (sg : Nat) (st : List Nat) (pc : Nat) (o : List UInt8) (hs : st.length ≤ 1000) (hL : l.length ≤ 4096) (hi : inp.length < 1073741824) (hcl : c.length < 1073741824) (hpc : pc < 1073741824) (hg : g < 18446744073709551616) : LM Tryz.prog 69 [.p 1000 0, .k (.int .u8 ((88 : Nat) : Int))] (frM c inp g mg l sg st pc o) fun q m => q = .ret (boV true) ∧ m = frM c inp g mg l (sg + 1) (pc :: st) pc o := by
 have c1 := Wo.IntW (pc) (by unfold m64; omega)
 have c2 := Push c inp g mg l sg st pc o (pc) (by omega)
 have hq := limbs_len (pc)
 refine LM.enter tt Tryz.func69 rfl rfl rfl (by kernel_rfl) rfl rfl rfl (fun o mo h => by rw [h.2]; rfl) fun F _ => ?_
 exact wk trueW trueW trueW
set_option maxHeartbeats 1000000 in
theorem tell_89 (c inp : List UInt8) (g mg : Nat) (l : List UInt8) (sg : Nat) (st : List Nat) (pc : Nat) (o : List UInt8) (hs : st.length ≤ 1000) (hL : l.length ≤ 4096) (hi : inp.length < 1073741824) (hcl : c.length < 1073741824) (hpc : pc < 1073741824) (hg : g < 18446744073709551616) : LM Tryz.prog 69 [.p 1000 0, .k (.int .u8 ((89 : Nat) : Int))] (frM c inp g mg l sg st pc o) fun q m => q = .ret (boV true) ∧ m = frM c inp g mg l (sg + 1) (l.length :: st) pc o := by
 have c1 := Wo.IntW (l.length) (by unfold m64; omega)
 have c2 := Push c inp g mg l sg st pc o (l.length) (by omega)
 have c3 := Size c inp g mg l sg st pc o hL
 have hq := limbs_len (l.length)
 refine LM.enter tt Tryz.func69 rfl rfl rfl (by kernel_rfl) rfl rfl rfl (fun o mo h => by rw [h.2]; rfl) fun F _ => ?_
 exact wk trueW trueW trueW
set_option maxHeartbeats 1000000 in
theorem tell_90 (c inp : List UInt8) (g mg : Nat) (l : List UInt8) (sg : Nat) (st : List Nat) (pc : Nat) (o : List UInt8) (hs : st.length ≤ 1000) (hL : l.length ≤ 4096) (hi : inp.length < 1073741824) (hcl : c.length < 1073741824) (hpc : pc < 1073741824) (hg : g < 18446744073709551616) : LM Tryz.prog 69 [.p 1000 0, .k (.int .u8 ((90 : Nat) : Int))] (frM c inp g mg l sg st pc o) fun q m => q = .ret (boV true) ∧ m = frM c inp g mg l (sg + 1) (g :: st) pc o := by
 have c1 := Wo.IntW (g) (by unfold m64; omega)
 have c2 := Push c inp g mg l sg st pc o (g) (by omega)
 have hq := limbs_len (g)
 refine LM.enter tt Tryz.func69 rfl rfl rfl (by kernel_rfl) rfl rfl rfl (fun o mo h => by rw [h.2]; rfl) fun F _ => ?_
 exact wk trueW trueW trueW
end Fw
end Lf
open Go.RowKit Rg Wm Ar
set_option linter.unusedVariables false
set_option maxRecDepth 100000
namespace Lf
namespace Fw
theorem need_n {L a n z : Nat} (hL : L ≤ 4096) (h0 : 0 < n) (h : My.need L a n = some z) : n ≤ 4096 ∧ a ≤ 4096 ∧ z ≤ 4096 ∧ a + n ≤ z := by
 unfold My.need at h
 rw [if_neg (by omega)] at h
 split at h
 ·cases h
 ·cases h
  have := My.up_ge (a + n)
  have := My.up_le (n := a + n) (by omega)
  omega
theorem need_z {L a n : Nat} (h0 : n = 0) : My.need L a n = some L := by
 unfold My.need; rw [if_pos h0]
theorem price_z (L : Nat) : My.price L L = 0 := by unfold My.price; rw [if_pos (Nat.le_refl _)]
theorem grow_z (s : My.St) : My.grow s s.l.length = s := by unfold My.grow; rw [if_pos (Nat.le_refl _)]
theorem price_le {L z : Nat} (h : z ≤ 4096) : My.price L z ≤ 640 := by
 unfold My.price
 have := My.cost_lt (z / 32)
 split <;> omega
theorem words_le {n : Nat} (h : n ≤ 4096) : Fm.words n ≤ 200 := by unfold Fm.words; omega
set_option maxHeartbeats 1000000 in
theorem TouchN_much (c inp : List UInt8) (g mg : Nat) (l : List UInt8) (sg : Nat) (st : List Nat) (pc : Nat) (o : List UInt8) (a n : Nat) (hL : l.length ≤ 4096) (h : My.need l.length (a % M256) (n % M256) = none) : LM Tryz.prog 62 [.p 1000 0, wV a, wV n, .k .nilFunc] (frM c inp g mg l sg st pc o) fun q m => q = .pan (fltV 6) ∧ m = frM c inp g mg l sg st pc o := by
 have hla := limbs_len a
 have hln := limbs_len n
 have c1 := Need_no c inp g mg l sg st pc o a n hL h
 have p1 := Fail 6
 have hp1 : PanIn 3 1 := ⟨trivial⟩
 clear h
 refine LM.enter tt Tryz.func62 rfl rfl rfl (by kernel_rfl) rfl rfl rfl (fun o mo h => by rw [h.2]; rfl) fun F _ => ?_
 exact wk trueW trueW trueW
set_option maxHeartbeats 1000000 in
theorem TouchN_z (c inp : List UInt8) (g mg : Nat) (l : List UInt8) (sg : Nat) (st : List Nat) (pc : Nat) (o : List UInt8) (a n : Nat) (hL : l.length ≤ 4096) (hg : g < 18446744073709551616) (h0 : n % M256 = 0) : LM Tryz.prog 62 [.p 1000 0, wV a, wV n, .k .nilFunc] (frM c inp g mg l sg st pc o) fun q m => q = .ret .nil ∧ m = frM c inp g mg l sg st pc o := by
 have hla := limbs_len a
 have hln := limbs_len n
 have c1 := Need_ok c inp g mg l sg st pc o a n l.length hL (need_z h0)
 have c2 := Price c inp g mg l sg st pc o l.length hL hL
 rw [price_z] at c2
 have c3 := Pay_ok c inp g mg l sg st pc o 0 (Nat.zero_le _) hg
 rw [Nat.sub_zero] at c3
 have c4 := Grow c inp g mg l sg st pc o l.length mg l hL hL (grow_z ⟨mg, l⟩)
 rw [price_z] at c4
 have c5 := View_no c inp g mg l sg st pc o a n h0
 have hstp : StopAt 5 := ⟨trivial⟩
 clear h0
 refine LM.enter tt Tryz.func62 rfl rfl rfl (by kernel_rfl) rfl rfl rfl (fun o mo h => by rw [h.2]; rfl) fun F _ => ?_
 refine wk ?_ trueW trueW
 refine Stp.mk (LC.region (LS.pp rfl rfl (Does.move rfl rfl) rfl (LS.pp rfl rfl (Does.neFn0 rfl rfl rfl) rfl (LS.nil ?_))))
 clear hstp
 exact wk trueW trueW trueW
set_option maxHeartbeats 1000000 in
theorem TouchN_gas (c inp : List UInt8) (g mg : Nat) (l : List UInt8) (sg : Nat) (st : List Nat) (pc : Nat) (o : List UInt8) (a n z : Nat) (hL : l.length ≤ 4096) (h0 : 0 < n % M256) (h : My.need l.length (a % M256) (n % M256) = some z) (hc : g < (My.price l.length z)) : LM Tryz.prog 62 [.p 1000 0, wV a, wV n, .k .nilFunc] (frM c inp g mg l sg st pc o) fun q m => q = .pan (fltV 10) ∧ m = frM c inp g mg l sg st pc o := by
 have hla := limbs_len a
 have hln := limbs_len n
 obtain ⟨b1, b2, b3, b4⟩ := need_n hL h0 h
 have c1 := Need_ok c inp g mg l sg st pc o a n z hL h
 have c2 := Price c inp g mg l sg st pc o z hL b3
 have hpl := price_le (L := l.length) b3
 have p1 := Pay_no c inp g mg l sg st pc o (My.price l.length z) hc
 have hp1 : PanIn 7 2 := ⟨trivial⟩
 generalize My.price l.length z = x at *
 have hstp : StopAt 5 := ⟨trivial⟩
 clear h
 refine LM.enter tt Tryz.func62 rfl rfl rfl (by kernel_rfl) rfl rfl rfl (fun o mo h => by rw [h.2]; rfl) fun F _ => ?_
 refine wk ?_ trueW trueW
 refine Stp.mk (LC.region (LS.pp rfl rfl (Does.move rfl rfl) rfl (LS.pp rfl rfl (Does.neFn0 rfl rfl rfl) rfl (LS.nil ?_))))
 clear hstp
 exact wk trueW trueW trueW
set_option maxHeartbeats 1000000 in
theorem TouchN_ok (c inp : List UInt8) (g mg : Nat) (l : List UInt8) (sg : Nat) (st : List Nat) (pc : Nat) (o : List UInt8) (a n z mg2 : Nat) (l2 : List UInt8) (hL : l.length ≤ 4096) (hg : g < 18446744073709551616) (h0 : 0 < n % M256) (h : My.need l.length (a % M256) (n % M256) = some z) (hgr : My.grow ⟨mg, l⟩ z = ⟨mg2, l2⟩) (hl2 : a % M256 + n % M256 ≤ l2.length ∧ l2.length ≤ 4096) (hc : (My.price l.length z) ≤ g) : LM Tryz.prog 62 [.p 1000 0, wV a, wV n, .k .nilFunc] (frM c inp g mg l sg st pc o) fun q m => q = .ret (.w 1001 mg2 1 (a % M256) (n % M256)) ∧ m = frM c inp (g - (My.price l.length z)) mg2 l2 sg st pc o := by
 obtain ⟨hl2, hl3⟩ := hl2
 have hla := limbs_len a
 have hln := limbs_len n
 obtain ⟨b1, b2, b3, b4⟩ := need_n hL h0 h
 have c1 := Need_ok c inp g mg l sg st pc o a n z hL h
 have c2 := Price c inp g mg l sg st pc o z hL b3
 have hpl := price_le (L := l.length) b3
 have c3 := Pay_ok c inp g mg l sg st pc o (My.price l.length z) hc hg
 have c4 := Grow c inp (g - (My.price l.length z)) mg l sg st pc o z mg2 l2 hL b3 hgr
 have c5 := View_ok c inp (g - (My.price l.length z)) mg2 l2 sg st pc o a n h0 hl2 hl3
 generalize My.price l.length z = x at *
 have hstp : StopAt 5 := ⟨trivial⟩
 clear h hgr
 refine LM.enter tt Tryz.func62 rfl rfl rfl (by kernel_rfl) rfl rfl rfl (fun o mo h => by rw [h.2]; rfl) fun F _ => ?_
 refine wk ?_ trueW trueW
 refine Stp.mk (LC.region (LS.pp rfl rfl (Does.move rfl rfl) rfl (LS.pp rfl rfl (Does.neFn0 rfl rfl rfl) rfl (LS.nil ?_))))
 clear hstp
 exact wk trueW trueW trueW
set_option maxHeartbeats 1000000 in
theorem TouchM_much (c inp : List UInt8) (g mg : Nat) (l : List UInt8) (sg : Nat) (st : List Nat) (pc : Nat) (o : List UInt8) (a n : Nat) (k : Nat) (hk : k ≤ 100) (hL : l.length ≤ 4096) (h : My.need l.length (a % M256) (n % M256) = none) : LM Tryz.prog 62 [.p 1000 0, wV a, wV n, moreV k] (frM c inp g mg l sg st pc o) fun q m => q = .pan (fltV 6) ∧ m = frM c inp g mg l sg st pc o := by
 have hla := limbs_len a
 have hln := limbs_len n
 have c1 := Need_no c inp g mg l sg st pc o a n hL h
 have p1 := Fail 6
 have hp1 : PanIn 3 1 := ⟨trivial⟩
 clear h
 refine LM.enter tt Tryz.func62 rfl rfl rfl (by kernel_rfl) rfl rfl rfl (fun o mo h => by rw [h.2]; rfl) fun F _ => ?_
 exact wk trueW trueW trueW
set_option maxHeartbeats 1000000 in
theorem TouchM_z (c inp : List UInt8) (g mg : Nat) (l : List UInt8) (sg : Nat) (st : List Nat) (pc : Nat) (o : List UInt8) (a n : Nat) (k : Nat) (hk : k ≤ 100) (hL : l.length ≤ 4096) (hg : g < 18446744073709551616) (h0 : n % M256 = 0) : LM Tryz.prog 62 [.p 1000 0, wV a, wV n, moreV k] (frM c inp g mg l sg st pc o) fun q m => q = .ret .nil ∧ m = frM c inp g mg l sg st pc o := by
 have hla := limbs_len a
 have hln := limbs_len n
 have c1 := Need_ok c inp g mg l sg st pc o a n l.length hL (need_z h0)
 have c2 := Price c inp g mg l sg st pc o l.length hL hL
 rw [price_z] at c2
 have c3 := Pay_ok c inp g mg l sg st pc o 0 (Nat.zero_le _) hg
 rw [Nat.sub_zero] at c3
 have c4 := Grow c inp g mg l sg st pc o l.length mg l hL hL (grow_z ⟨mg, l⟩)
 rw [price_z] at c4
 have c5 := View_no c inp g mg l sg st pc o a n h0
 have e0 := limb0m (x := n) (by omega)
 have c6 := more_ k ((limbs n).getD 0 default) hk (by omega)
 have e1 : k * Fm.words ((limbs n).getD 0 default) = 0 := by rw [e0, h0]; rfl
 rw [e1] at c6
 have hstp : StopAt 5 := ⟨trivial⟩
 clear h0
 refine LM.enter tt Tryz.func62 rfl rfl rfl (by kernel_rfl) rfl rfl rfl (fun o mo h => by rw [h.2]; rfl) fun F _ => ?_
 refine wk ?_ trueW trueW
 refine Stp.mk (LC.region (LS.pp rfl rfl (Does.move rfl rfl) rfl (LS.pp rfl rfl (Does.neFnF rfl rfl rfl) rfl (LS.nil ?_))))
 clear hstp
 exact wk trueW trueW trueW
set_option maxHeartbeats 1000000 in
theorem TouchM_gas (c inp : List UInt8) (g mg : Nat) (l : List UInt8) (sg : Nat) (st : List Nat) (pc : Nat) (o : List UInt8) (a n z : Nat) (k : Nat) (hk : k ≤ 100) (hL : l.length ≤ 4096) (h0 : 0 < n % M256) (h : My.need l.length (a % M256) (n % M256) = some z) (hc : g < (My.price l.length z + k * Fm.words (n % M256))) : LM Tryz.prog 62 [.p 1000 0, wV a, wV n, moreV k] (frM c inp g mg l sg st pc o) fun q m => q = .pan (fltV 10) ∧ m = frM c inp g mg l sg st pc o := by
 have hla := limbs_len a
 have hln := limbs_len n
 obtain ⟨b1, b2, b3, b4⟩ := need_n hL h0 h
 have c1 := Need_ok c inp g mg l sg st pc o a n z hL h
 have c2 := Price c inp g mg l sg st pc o z hL b3
 have hpl := price_le (L := l.length) b3
 have e0 := limb0m (x := n) (by omega)
 have hwl := words_le b1
 have hkw : k * Fm.words (n % M256) ≤ 100 * 200 := Nat.mul_le_mul hk hwl
 have c6 := more_ k ((limbs n).getD 0 default) hk (by omega)
 have e1 : k * Fm.words ((limbs n).getD 0 default) = k * Fm.words (n % M256) := by rw [e0]
 rw [e1] at c6
 have p1 := Pay_no c inp g mg l sg st pc o (My.price l.length z + k * Fm.words (n % M256)) hc
 have hp1 : PanIn 7 2 := ⟨trivial⟩
 generalize My.price l.length z = x at *
 generalize k * Fm.words (n % M256) = y at *
 rw [← e0] at h0 b1 b4
 have hstp : StopAt 5 := ⟨trivial⟩
 clear h
 refine LM.enter tt Tryz.func62 rfl rfl rfl (by kernel_rfl) rfl rfl rfl (fun o mo h => by rw [h.2]; rfl) fun F _ => ?_
 refine wk ?_ trueW trueW
 refine Stp.mk (LC.region (LS.pp rfl rfl (Does.move rfl rfl) rfl (LS.pp rfl rfl (Does.neFnF rfl rfl rfl) rfl (LS.nil ?_))))
 clear hstp
 exact wk trueW trueW trueW
set_option maxHeartbeats 1000000 in
theorem TouchM_ok (c inp : List UInt8) (g mg : Nat) (l : List UInt8) (sg : Nat) (st : List Nat) (pc : Nat) (o : List UInt8) (a n z mg2 : Nat) (l2 : List UInt8) (k : Nat) (hk : k ≤ 100) (hL : l.length ≤ 4096) (hg : g < 18446744073709551616) (h0 : 0 < n % M256) (h : My.need l.length (a % M256) (n % M256) = some z) (hgr : My.grow ⟨mg, l⟩ z = ⟨mg2, l2⟩) (hl2 : a % M256 + n % M256 ≤ l2.length ∧ l2.length ≤ 4096) (hc : (My.price l.length z + k * Fm.words (n % M256)) ≤ g) : LM Tryz.prog 62 [.p 1000 0, wV a, wV n, moreV k] (frM c inp g mg l sg st pc o) fun q m => q = .ret (.w 1001 mg2 1 (a % M256) (n % M256)) ∧ m = frM c inp (g - (My.price l.length z + k * Fm.words (n % M256))) mg2 l2 sg st pc o := by
 obtain ⟨hl2, hl3⟩ := hl2
 have hla := limbs_len a
 have hln := limbs_len n
 obtain ⟨b1, b2, b3, b4⟩ := need_n hL h0 h
 have c1 := Need_ok c inp g mg l sg st pc o a n z hL h
 have c2 := Price c inp g mg l sg st pc o z hL b3
 have hpl := price_le (L := l.length) b3
 have e0 := limb0m (x := n) (by omega)
 have hwl := words_le b1
 have hkw : k * Fm.words (n % M256) ≤ 100 * 200 := Nat.mul_le_mul hk hwl
 have c6 := more_ k ((limbs n).getD 0 default) hk (by omega)
 have e1 : k * Fm.words ((limbs n).getD 0 default) = k * Fm.words (n % M256) := by rw [e0]
 rw [e1] at c6
 have c3 := Pay_ok c inp g mg l sg st pc o (My.price l.length z + k * Fm.words (n % M256)) hc hg
 have c4 := Grow c inp (g - (My.price l.length z + k * Fm.words (n % M256))) mg l sg st pc o z mg2 l2 hL b3 hgr
 have c5 := View_ok c inp (g - (My.price l.length z + k * Fm.words (n % M256))) mg2 l2 sg st pc o a n h0 hl2 hl3
 generalize My.price l.length z = x at *
 generalize k * Fm.words (n % M256) = y at *
 rw [← e0] at b1
 have hstp : StopAt 5 := ⟨trivial⟩
 clear h hgr
 refine LM.enter tt Tryz.func62 rfl rfl rfl (by kernel_rfl) rfl rfl rfl (fun o mo h => by rw [h.2]; rfl) fun F _ => ?_
 refine wk ?_ trueW trueW
 refine Stp.mk (LC.region (LS.pp rfl rfl (Does.move rfl rfl) rfl (LS.pp rfl rfl (Does.neFnF rfl rfl rfl) rfl (LS.nil ?_))))
 clear hstp
 exact wk trueW trueW trueW
end Fw
end Lf
open Go.RowKit Rg
namespace Lf
section
variable {P : Program} {F : Fr0} {N : Nat} {ops : Array Oper}
structure Plan0 (ops : Array Oper) (listed : Array Bool) (its : List It) : Prop where
 mem : ∀ i, i < ops.size → (listed.getD i true = false ↔ ∃ x ∈ its, x.i = i)
 lt : ∀ x ∈ its, x.i < ops.size
 nodup : its.Pairwise fun x y => x.i ≠ y.i
 ext : ∀ pre x post, its = pre ++ x :: post → ∀ o, ops[x.i]? = some o → ∀ e ∈ o.after, Region.binds .any e = true → e.on < ops.size ∧ ∀ y ∈ x :: post, y.i ≠ e.on
 size : listed.size = ops.size
def MeetW (ops : Array Oper) (W : Array Nat) (its : List It) : Prop := its.Pairwise fun x y => waits W y.i x.i = true ∨ Indep ops x y
theorem Plan0.plan {W : Array Nat} {listed : Array Bool} {its : List It} (h : Plan0 ops listed its) (hi : MeetW ops W its) : Plan ops W listed its := ⟨h.mem, h.lt, h.nodup, h.ext, hi, h.size⟩
theorem Plan0.rm {listed : Array Bool} {pre post : List It} {y : It} (hp : Plan0 ops listed (pre ++ y :: post)) : Plan0 ops (listed.setIfInBounds y.i true) (pre ++ post) := by
  have hnd := List.pairwise_append.1 hp.nodup
  have hnd2 := List.pairwise_cons.1 hnd.2.1
  have hne : ∀ z ∈ pre ++ post, z.i ≠ y.i := fun z hz => by
    rcases List.mem_append.1 hz with hz | hz
    · exact hnd.2.2 z hz y (by simp)
    · exact (hnd2.1 z hz).symm
  refine ⟨fun i hi => ?_, fun x hx => hp.lt x (by rcases List.mem_append.1 hx with h | h <;> simp [h]), ?_, fun pre' x post' hits o' ho' e he hb => ?_, by simp [hp.size]⟩
  · by_cases hiy : y.i = i
    · subst hiy
      have hsz : y.i < listed.size := by rw [hp.size]; exact hi
      simp only [Array.getD, Array.size_setIfInBounds, hsz, dif_pos]
      constructor
      · intro h; simp at h
      · rintro ⟨x, hx, hxi⟩; exact absurd hxi (hne x hx)
    · rw [getD_set_ne true hiy, hp.mem i hi]
      constructor
      · rintro ⟨x, hx, hxi⟩
        rcases List.mem_append.1 hx with h | h
        · exact ⟨x, by simp [h], hxi⟩
        · rcases List.mem_cons.1 h with rfl | h
          · exact absurd hxi hiy
          · exact ⟨x, by simp [h], hxi⟩
      · rintro ⟨x, hx, hxi⟩
        exact ⟨x, by rcases List.mem_append.1 hx with h | h <;> simp [h], hxi⟩
  · exact List.pairwise_append.2 ⟨hnd.1, hnd2.2, fun a ha b hb => hnd.2.2 a ha b (by simp [hb])⟩
  · have hsub : ∃ pre'' post'', pre ++ y :: post = pre'' ++ x :: post'' ∧ ∀ z ∈ x :: post', z ∈ x :: post'' := by
      rcases List.append_eq_append_iff.1 hits with ⟨us, h1, h2⟩ | ⟨bs, h1, h2⟩
      · refine ⟨pre ++ y :: us, post', by rw [h2]; simp, fun z hz => hz⟩
      · cases bs with
        | nil =>
          simp at h1 h2
          subst h1
          refine ⟨pre ++ [y], post', by rw [← h2]; simp, fun z hz => hz⟩
        | cons b bs =>
          simp at h2
          obtain ⟨rfl, h2⟩ := h2
          refine ⟨pre', bs ++ y :: post, by rw [h1]; simp, fun z hz => ?_⟩
          rcases List.mem_cons.1 hz with rfl | hz
          · simp
          · rw [h2] at hz
            rcases List.mem_append.1 hz with h | h <;> simp [h]
    obtain ⟨pre'', post'', h1, h2⟩ := hsub
    obtain ⟨h3, h4⟩ := hp.ext pre'' x post'' h1 o' ho' e he hb
    exact ⟨h3, fun z hz => h4 z (h2 z hz)⟩
theorem Plan0.some_ready {listed : Array Bool} {x : It} {r : List It} (hp : Plan0 ops listed (x :: r)) : x.i ∈ Region.ready .any ops listed := by
 have hlt := hp.lt x (by simp)
 refine mem_ready.2 ⟨by simpa using (hp.mem x.i hlt).2 ⟨x, by simp, rfl⟩, ops[x.i], Array.getElem?_eq_getElem hlt, fun e he hb => ?_⟩
 obtain ⟨h1, h2⟩ := hp.ext [] x r rfl _ (Array.getElem?_eq_getElem hlt) e he hb
 have hlist : ¬ listed.getD e.on true = false := fun hf => by
  obtain ⟨y, hy, hye⟩ := (hp.mem e.on h1).1 hf
  exact h2 y hy hye
 have hsz : e.on < listed.size := by rw [hp.size]; exact h1
 simp only [Array.getD, hsz, dif_pos] at hlist ⊢
 simpa using hlist
theorem Plan0.ready_mem {listed : Array Bool} {its : List It} (hp : Plan0 ops listed its) {j : Nat} (hj : j ∈ Region.ready .any ops listed) : ∃ y ∈ its, y.i = j := by
 obtain ⟨hun, o, ho, hall⟩ := mem_ready.1 hj
 exact (hp.mem j (Array.getElem?_eq_some_iff.1 ho).1).1 (by simpa using hun)
theorem Plan0.not_wait {W : Array Nat} (hW : waitsB .any ops W = true) {listed : Array Bool} (hc : Closed .any ops listed) {its : List It} (hp : Plan0 ops listed its) {j : Nat} (hj : j ∈ Region.ready .any ops listed) {x : It} (hx : x ∈ its) : ¬ waits W j x.i = true := fun h1 => by
 obtain ⟨hun, o, ho, hall⟩ := mem_ready.1 hj
 have hxlt := hp.lt x hx
 have hxl := waits_listed hW hc hxlt j j o (Nat.le_refl _) ho hall h1
 have hxu := (hp.mem x.i hxlt).2 ⟨x, hx, rfl⟩
 have hsz : x.i < listed.size := by rw [hp.size]; exact hxlt
 simp only [Array.getD, hsz, dif_pos] at hxl hxu
 rw [hxl] at hxu; cases hxu
theorem wp_item {F F0 : Fr0} (hx0 : F.Ext F0) {Q : Exit → Act → World → Prop} {env : Env} {mem : Mem} {g : Gh} {a : Act} {w : World} {y : It} {K : Act → World → Prop} (hv : Valid P F N ops y env mem) (hr : Rel F0 N g env mem a w) (next : ∀ g' a' w', Rel F0 N g' (appE y env) (appM y mem) a' w' → K a' w') : wpOpIn F0.fz 0 P ops Q y.i K a w := by
 unfold wpOpIn
 rw [hv.at_]
 simp only
 have hwant := gd_wanted hr hv.gdd
 rw [hwant]
 cases hsk : y.skip
 ·simp only [Bool.not_false, if_true]
  refine ((hv.does hsk).1.run hx0 hr (hv.does hsk).2 hv.dst fun g' a' w' hr' => next g' a' w' ?_)
  simpa [appE, appM, It.vv, It.tt, hsk] using hr'
 ·simp only [Bool.not_true, Bool.false_eq_true, if_false]
  refine ⟨fun _ _ => trivial, next g _ w ?_⟩
  have := hr.put (d := y.o.dst) (v := .k undef) (x := undef) (Ev.refl g w) hr.mem hr.kept (.k undef) hv.dst
  simpa [appE, appM, It.vv, It.tt, hsk, tset] using this
theorem meetW_rm {W : Array Nat} {p q : List It} {y : It} (h : MeetW ops W (p ++ y :: q)) : MeetW ops W (p ++ q) := by
 have hpi := List.pairwise_append.1 h
 exact List.pairwise_append.2 ⟨hpi.1, (List.pairwise_cons.1 hpi.2.1).2, fun a ha b hb => hpi.2.2 a ha b (by simp [hb])⟩
theorem one_way {F F0 : Fr0} (hx0 : F.Ext F0) {Q : Exit → Act → World → Prop} {W W1 : Array Nat} (hW : waitsB .any ops W = true) {a0 b0 : Nat} (h1 : ∀ j i, waits W1 j i = true → waits W j i = true ∨ (j = b0 ∧ i = a0)) (hab : a0 ≠ b0)
  {n : Nat} {com r1 : List It} {x1 : It} {env : Env} {mem : Mem} {listed : Array Bool} {g : Gh} {a : Act} {w : World} (hl : (com ++ x1 :: r1).length = n + 1) (hs : SR P F N ops (com ++ x1 :: r1) env mem) (hx : x1.i = a0) (hp : Plan0 ops listed (com ++ x1 :: r1)) (hm : MeetW ops W1 (com ++ x1 :: r1)) (hc : Closed .any ops listed) (hj : x1.i ∈ Region.ready .any ops listed) (hr : Rel F0 N g env mem a w)
  (hQ : ∀ g a w, Rel F0 N g (finE (com ++ x1 :: r1) env) (finM (com ++ x1 :: r1) mem) a w → Q .normal a w) : wpOpIn F0.fz 0 P ops Q x1.i (wpAnyIn F0.fz 0 P .any ops Q n (listed.setIfInBounds x1.i true)) a w := by
 have hind : ∀ x ∈ com, Indep ops x x1 := fun x hx' => by
  rcases (List.pairwise_append.1 hm).2.2 x hx' x1 (by simp) with h | h
  ·rcases h1 _ _ h with h | ⟨h, _⟩
   ·exact absurd h (hp.not_wait hW hc hj (by simp [hx']))
   ·rw [hx] at h; exact absurd h hab
  ·exact h
 obtain ⟨k1, k2⟩ := hs.first hind
 obtain ⟨hv, hrest⟩ := k1
 refine wp_item hx0 hv hr fun g' a' w' hr' => ?_
 have hne : ∀ z ∈ com ++ r1, z.i ≠ a0 := fun z hz e => by
  have hnd := List.pairwise_append.1 hp.nodup
  rcases List.mem_append.1 hz with hz | hz
  ·exact hnd.2.2 z hz x1 (by simp) (e.trans hx.symm)
  ·exact (List.pairwise_cons.1 hnd.2.1).1 z hz (hx.trans e.symm)
 have hm' : MeetW ops W (com ++ r1) := (meetW_rm hm).imp_of_mem fun {p q} hp' hq h => by
  rcases h with h | h
  ·rcases h1 _ _ h with h | ⟨_, h⟩
   ·exact .inl h
   ·exact absurd h (hne p hp')
  ·exact .inr h
 exact any_run hx0 hW n (com ++ r1) _ _ _ g' a' w' (by simp at hl ⊢; omega) hrest (hp.rm.plan hm') (hc.step hj) hr' fun g2 a2 w2 hr2 => hQ g2 a2 w2 (hr2.congr k2.symm)
theorem any_run2 {F F0 : Fr0} (hx0 : F.Ext F0) {Q : Exit → Act → World → Prop} {W W1 W2 : Array Nat} (hW : waitsB .any ops W = true) {a0 b0 : Nat} (hab : a0 ≠ b0) (h1 : ∀ j i, waits W1 j i = true → waits W j i = true ∨ (j = b0 ∧ i = a0)) (h2 : ∀ j i, waits W2 j i = true → waits W j i = true ∨ (j = a0 ∧ i = b0)) :
  ∀ (n : Nat) (com : List It) (x1 : It) (r1 : List It) (x2 : It) (r2 : List It) (env : Env) (mem : Mem) (listed : Array Bool) (g : Gh) (a : Act) (w : World), (com ++ x1 :: r1).length = n → (com ++ x2 :: r2).length = n → SR P F N ops (com ++ x1 :: r1) env mem → SR P F N ops (com ++ x2 :: r2) env mem → x1.i = a0 → x2.i = b0 →
  Plan0 ops listed (com ++ x1 :: r1) → Plan0 ops listed (com ++ x2 :: r2) → MeetW ops W1 (com ++ x1 :: r1) → MeetW ops W2 (com ++ x2 :: r2) → (∀ z ∈ r1, z.i ≠ b0 → waits W z.i a0 = true ∨ waits W z.i b0 = true) → Closed .any ops listed → Rel F0 N g env mem a w →
  (∀ g a w, Rel F0 N g (finE (com ++ x1 :: r1) env) (finM (com ++ x1 :: r1) mem) a w → Q .normal a w) → (∀ g a w, Rel F0 N g (finE (com ++ x2 :: r2) env) (finM (com ++ x2 :: r2) mem) a w → Q .normal a w) → wpAnyIn F0.fz 0 P .any ops Q n listed a w
 | 0, com, x1, r1, _, _, _, _, _, _, _, _, hl, _, _, _, _, _, _, _, _, _, _, _, _, _, _ => by simp at hl
 | n + 1, com, x1, r1, x2, r2, env, mem, listed, g, a, w, hl1, hl2, hs1, hs2, hx1, hx2, hp1, hp2, hm1, hm2, hz, hc, hr, hQ1, hQ2 => by
  refine ⟨fun h0 => ?_, fun j hj => ?_⟩
  ·cases com with
   | nil => have := hp1.some_ready; rw [h0] at this; cases this
   | cons c r => have := Plan0.some_ready hp1; rw [h0] at this; cases this
  ·by_cases hja : j = a0
   ·subst hja
    subst hx1
    exact one_way hx0 hW h1 hab hl1 hs1 rfl hp1 hm1 hc hj hr hQ1
   ·by_cases hjb : j = b0
    ·subst hjb
     subst hx2
     exact one_way hx0 hW h2 (Ne.symm hab) hl2 hs2 rfl hp2 hm2 hc hj hr hQ2
    ·obtain ⟨y, hy, hyj⟩ := hp1.ready_mem hj
     have hyc : y ∈ com := by
      rcases List.mem_append.1 hy with h | h
      ·exact h
      ·rcases List.mem_cons.1 h with rfl | h
       ·exact absurd (hyj.symm.trans hx1) hja
       ·exfalso
        rcases hz y h (by rw [hyj]; exact hjb) with h' | h'
        ·rw [hyj, ← hx1] at h'
         exact hp1.not_wait hW hc hj (by simp) h'
        ·rw [hyj, ← hx2] at h'
         exact hp2.not_wait hW hc hj (by simp) h'
     subst hyj
     obtain ⟨pre, post, rfl⟩ := List.append_of_mem hyc
     have e1 : pre ++ y :: post ++ x1 :: r1 = pre ++ y :: (post ++ x1 :: r1) := by simp
     have e2 : pre ++ y :: post ++ x2 :: r2 = pre ++ y :: (post ++ x2 :: r2) := by simp
     rw [e1] at hs1 hp1 hm1 hQ1
     rw [e2] at hs2 hp2 hm2 hQ2
     have hind : ∀ x ∈ pre, Indep ops x y := fun x hx' => by
      rcases (List.pairwise_append.1 hm1).2.2 x hx' y (by simp) with h | h
      ·rcases h1 _ _ h with h | ⟨h, _⟩
       ·exact absurd h (hp1.not_wait hW hc hj (by simp [hx']))
       ·exact absurd h hjb
      ·exact h
     obtain ⟨⟨hv, k1⟩, k2⟩ := hs1.first hind
     obtain ⟨⟨_, k3⟩, k4⟩ := hs2.first hind
     have t1 := hp1.rm
     have t2 := hp2.rm
     have t3 := meetW_rm hm1
     have t4 := meetW_rm hm2
     simp only [← List.append_assoc] at k1 k3 t1 t2 t3 t4
     refine wp_item hx0 hv hr fun g' a' w' hr' => ?_
     exact any_run2 hx0 hW hab h1 h2 n (pre ++ post) x1 r1 x2 r2 _ _ _ g' a' w' (by simp at hl1 ⊢; omega) (by simp at hl2 ⊢; omega) k1 k3 hx1 hx2 t1 t2 t3 t4 hz (hc.step hj) hr'
      (fun g2 a2 w2 hr2 => hQ1 g2 a2 w2 (hr2.congr (by have := k2.symm; simpa only [finE, finM, List.append_assoc] using this))) (fun g2 a2 w2 hr2 => hQ2 g2 a2 w2 (hr2.congr (by have := k4.symm; simpa only [finE, finM, List.append_assoc] using this)))
end
def addW (W : Array Nat) (j i : Nat) : Array Nat := W.setIfInBounds j (W.getD j 0 ||| 2 ^ i)
theorem addW_get (W : Array Nat) (b a j : Nat) : (addW W b a).getD j 0 = if b = j ∧ j < W.size then W.getD j 0 ||| 2 ^ a else W.getD j 0 := by
 unfold addW
 simp only [Array.getD_eq_getD_getElem?, Array.getElem?_setIfInBounds]
 by_cases e : b = j
 ·subst e
  by_cases hb : b < W.size
  ·simp [hb]
  ·simp [hb]
 ·simp [e]
theorem waits_addW {W : Array Nat} {b a j i : Nat} (h : waits (addW W b a) j i = true) : waits W j i = true ∨ (j = b ∧ i = a) := by
 unfold waits at *
 rw [addW_get] at h
 split at h
 ·rename_i e
  rw [Nat.testBit_or, Bool.or_eq_true] at h
  rcases h with h | h
  ·exact .inl h
  ·rw [Nat.testBit_two_pow] at h
   exact .inr ⟨e.1.symm, (of_decide_eq_true h).symm⟩
 ·exact .inl h
theorem waits_addW' {W : Array Nat} {b a j i : Nat} (h : waits W j i = true) : waits (addW W b a) j i = true := by
 unfold waits at *
 rw [addW_get]
 split
 ·rw [Nat.testBit_or, h]; rfl
 ·exact h
section
variable {P : Program} {F : Fr0} {N : Nat}
theorem plan_of {l : List Oper} {W : Array Nat} {plan : List Nat} {its : List It} (hB : planOk l.toArray W plan = true) (k2 : its.map (·.i) = plan) : Plan0 l.toArray (Array.replicate l.length false) its := by
  simp only [planOk, Bool.and_eq_true] at hB
  obtain ⟨hlt, hall, hext, hap, hlen⟩ := hB
  have hlt' : ∀ i ∈ plan, i < l.length := fun i hi => by
    have h1 := Nat.le_of_ble_eq_true (List.all_eq_true.1 hlt i hi)
    simp at h1
    omega
  have hnd0 := (apOk_spec hap).imp fun h => h.1
  refine ⟨fun i hi => ?_, fun x hx => ?_, ?_, fun pre x post hits o ho e he hb => ?_, by simp⟩
  · have hi' : i < l.length := by simpa using hi
    have : (Array.replicate l.length false).getD i true = false := by simp [Array.getD, hi']
    refine ⟨fun _ => ?_, fun _ => this⟩
    have h1 := List.all_eq_true.1 hall i (by simpa using hi')
    have h2 : i ∈ plan := by simpa using h1
    rw [← k2] at h2
    obtain ⟨x, hx, hxi⟩ := List.mem_map.1 h2
    exact ⟨x, hx, hxi⟩
  · have := hlt' x.i (by rw [← k2]; exact List.mem_map_of_mem hx)
    simpa using this
  · have := hnd0
    rw [← k2, List.pairwise_map] at this
    exact this
  · have hp2 : plan = pre.map (·.i) ++ x.i :: post.map (·.i) := by rw [← k2, hits]; simp
    have h1 := extOk_spec hext (pre.map (·.i)) x.i (post.map (·.i)) hp2 o ho e he hb
    have h2 : e.on ∈ pre.map (·.i) := by
      rcases h1 with h1 | h1
      · cases h1
      · exact h1
    have hnd := hnd0
    rw [hp2] at hnd
    have h3 := (List.pairwise_append.1 hnd).2.2 e.on h2
    refine ⟨?_, fun y hy hye => ?_⟩
    · have := hlt' e.on (by rw [hp2]; exact List.mem_append_left _ h2)
      simpa using this
    · exact h3 y.i (by
        rcases List.mem_cons.1 hy with rfl | hy
        · simp
        · exact List.mem_cons_of_mem _ (List.mem_map_of_mem hy)) hye.symm
theorem sr_at {ops : Array Oper} : ∀ (l' : List It) (env : Env) (mem : Mem), SR P F N ops l' env mem → ∀ x ∈ l', ops[x.i]? = some x.o
 | [], _, _, _, x, hx => by cases hx
 | y :: r, env, mem, hs, x, hx => by
  rcases List.mem_cons.1 hx with rfl | hx
  ·exact hs.1.at_
  ·exact sr_at _ _ _ hs.2 x hx
theorem meet_of {l : List Oper} {W : Array Nat} {plan : List Nat} {its : List It} (hap : apOk l.toArray W plan = true) (k2 : its.map (·.i) = plan) (hato : ∀ x ∈ its, l.toArray[x.i]? = some x.o) (h2 : its.Pairwise fun x y => compat x.tt y.tt = true ∨ waits W y.i x.i = true) : MeetW l.toArray W its := by
 have h1 := apOk_spec hap
 rw [← k2, List.pairwise_map] at h1
 refine (h1.and h2).imp_of_mem fun {x y} hx hy h => ?_
 obtain ⟨⟨_, h3⟩, h4⟩ := h
 rcases h3 with h3 | ⟨p, q, hp, hq, h3⟩
 ·exact .inl h3
 ·rcases h4 with h4 | h4
  ·have e1 := hato x hx
   have e2 := hato y hy
   rw [hp] at e1; cases e1
   rw [hq] at e2; cases e2
   exact .inr ⟨h3, h4⟩
  ·exact .inl h4
theorem SR.append {ops : Array Oper} : ∀ {p q : List It} {env : Env} {mem : Mem}, SR P F N ops p env mem → SR P F N ops q (finE p env) (finM p mem) → SR P F N ops (p ++ q) env mem
 | [], _, _, _, _, h => h
 | _ :: _, _, _, _, h, k => ⟨h.1, SR.append h.2 k⟩
theorem fin_append : ∀ (p q : List It) (env : Env) (mem : Mem), finE (p ++ q) env = finE q (finE p env) ∧ finM (p ++ q) mem = finM q (finM p mem)
 | [], _, _, _ => ⟨rfl, rfl⟩
 | x :: p, q, env, mem => fin_append p q (appE x env) (appM x mem)
structure Both (A B : Prop) : Prop where
 l : A
 r : B
def allWait (W : Array Nat) (pre rest : List Nat) : Bool := rest.all fun j => pre.all fun i => waits W j i
def orWait (W : Array Nat) (a b : Nat) (rest : List Nat) : Bool := rest.all fun z => Nat.beq z b || (waits W z a || waits W z b)
structure TwoIn (id : Nat) (pre : List Nat) (a b : Nat) (r1 r2 : List Nat) : Prop where
theorem LC.draw2 {F : Fr0} {Q : LQ} {env : Env} {mem : Mem} {id : Nat} {l : List Oper} {pre : List Nat} {a b : Nat} {r1 r2 : List Nat} (_h : TwoIn id pre a b r1 r2) (hm : P.follows .mixedOrders = true)
  (hB : (waitsB .any l.toArray (Region.before l.toArray) && (planOk l.toArray (addW (Region.before l.toArray) b a) (pre ++ a :: r1) && (planOk l.toArray (addW (Region.before l.toArray) a b) (pre ++ b :: r2) && (orWait (Region.before l.toArray) a b r1 && !(Nat.beq a b))))) = true)
  (h : DR P F N l.toArray (fun acc => chkT (Region.before l.toArray) acc && (allWait (Region.before l.toArray) pre (a :: r1) || acc.all fun x => x.2.isEmpty)) (fun env mem =>
   Both (DR P F N l.toArray (chkT (addW (Region.before l.toArray) b a)) (fun env mem => Q .normal env mem) (pickI l (a :: r1)) [] env mem)
    (DR P F N l.toArray (chkT (addW (Region.before l.toArray) a b)) (fun env mem => Q .normal env mem) (pickI l (b :: r2)) [] env mem)) (pickI l pre) [] env mem) : LC P F N (.region id l.toArray true) Q env mem := by
 refine ⟨fun F0 hx g ac w hr => ?_⟩
 simp only [Bool.and_eq_true] at hB
 obtain ⟨hW, hB1, hB2, hor, hab⟩ := hB
 have hab' : a ≠ b := fun e => by subst e; simp at hab
 have pm : ∀ plan W, planOk l.toArray W plan = true → ∀ i ∈ plan, i < l.length := fun plan W hp i hi => by
  simp only [planOk, Bool.and_eq_true] at hp
  have h1 := Nat.le_of_ble_eq_true (List.all_eq_true.1 hp.1 i hi)
  simp at h1
  omega
 obtain ⟨ip, k1, k2, k3, k4, k5⟩ := DR.script h (pickI_mem fun i hi => pm _ _ hB1 i (by simp [hi]))
 obtain ⟨i1, p1, p2, p3, p4⟩ := DR.script k4 (pickI_mem fun i hi => pm _ _ hB1 i (List.mem_append_right _ hi))
 obtain ⟨i2, q1, q2, q3, q4⟩ := DR.script k5 (pickI_mem fun i hi => pm _ _ hB2 i (List.mem_append_right _ hi))
 rw [pickI_fst] at k2 p2 q2
 simp only [List.reverse_nil, List.nil_append] at k3 p3 q3
 rw [Bool.and_eq_true, Bool.or_eq_true] at k3
 obtain ⟨k3, kall⟩ := k3
 match i1, p2 with
 | x1 :: s1, p2 =>
 match i2, q2 with
 | x2 :: s2, q2 =>
 simp only [List.map_cons, List.cons.injEq] at p2 q2
 have e1 : (ip ++ x1 :: s1).map (·.i) = pre ++ a :: r1 := by simp [k2, p2]
 have e2 : (ip ++ x2 :: s2).map (·.i) = pre ++ b :: r2 := by simp [k2, q2]
 have S1 := SR.append k1 p1
 have S2 := SR.append k1 q1
 have P1 := plan_of hB1 e1
 have P2 := plan_of hB2 e2
 have hpre : ∀ x ∈ ip, x.i ∈ pre := fun x hx => by rw [← k2]; exact List.mem_map_of_mem hx
 have hw1 : ∀ (W' : Array Nat), (∀ j i, waits (Region.before l.toArray) j i = true → waits W' j i = true) → ∀ x ∈ ip, ∀ (j : Nat) (t : Tch), j ∈ a :: r1 → compat x.tt t = true ∨ waits W' j x.i = true := fun W' hm x hx j t hj => by
  rcases kall with hall | hq
  ·exact .inr (hm _ _ (List.all_eq_true.1 (List.all_eq_true.1 hall j hj) x.i (hpre x hx)))
  ·have := List.all_eq_true.1 hq (x.i, x.tt) (List.mem_map_of_mem hx)
   left
   have h0 : x.tt = [] := List.isEmpty_iff.1 this
   rw [h0]
   rfl
 have hmono : ∀ (W' : Array Nat) c d j i, waits W' j i = true → waits (addW W' c d) j i = true := fun W' c d j i h => waits_addW' h
 have hsame : ∀ j, j ∈ b :: r2 → j ∈ a :: r1 := fun j hj => by
  have hjl := pm _ _ hB2 j (List.mem_append_right _ hj)
  have hB1' := hB1
  simp only [planOk, Bool.and_eq_true] at hB1'
  have h1 := List.all_eq_true.1 hB1'.2.1 j (by simpa using hjl)
  have h2 : j ∈ pre ++ a :: r1 := by simpa using h1
  rcases List.mem_append.1 h2 with h2 | h2
  ·exfalso
   have hnd := (apOk_spec (by have := hB2; simp only [planOk, Bool.and_eq_true] at this; exact this.2.2.2.1)).imp fun h => h.1
   exact (List.pairwise_append.1 hnd).2.2 j h2 j hj rfl
  ·exact h2
 have pair : ∀ (W' : Array Nat) (it : List It), (∀ j i, waits (Region.before l.toArray) j i = true → waits W' j i = true) → (∀ z ∈ it, z.i ∈ a :: r1) → chkT W' (it.map fun x => (x.i, x.tt)) = true → (ip ++ it).Pairwise fun x y => compat x.tt y.tt = true ∨ waits W' y.i x.i = true := fun W' it hmm hin hch => by
  have c1 := chkT_spec k3
  have c2 := chkT_spec hch
  rw [List.pairwise_map] at c1 c2
  exact List.pairwise_append.2 ⟨c1.imp fun h => h.imp (fun h => h) fun h => hmm _ _ h, c2, fun x hx y hy => hw1 W' hmm x hx y.i y.tt (hin y hy)⟩
 have M1 : MeetW l.toArray (addW (Region.before l.toArray) b a) (ip ++ x1 :: s1) := meet_of (by have := hB1; simp only [planOk, Bool.and_eq_true] at this; exact this.2.2.2.1) e1 (sr_at _ _ _ S1) (pair _ _ (hmono _ _ _) (fun z hz => by
  have : z.i ∈ (x1 :: s1).map (·.i) := List.mem_map_of_mem hz
  rw [List.map_cons, p2.1, p2.2] at this; exact this) p3)
 have M2 : MeetW l.toArray (addW (Region.before l.toArray) a b) (ip ++ x2 :: s2) := meet_of (by have := hB2; simp only [planOk, Bool.and_eq_true] at this; exact this.2.2.2.1) e2 (sr_at _ _ _ S2) (pair _ _ (hmono _ _ _) (fun z hz => hsame _ (by
  have : z.i ∈ (x2 :: s2).map (·.i) := List.mem_map_of_mem hz
  rw [List.map_cons, q2.1, q2.2] at this; exact this)) q3)
 have hlen : ∀ {W : Array Nat} {plan : List Nat} {its : List It}, planOk l.toArray W plan = true → its.map (·.i) = plan → its.length = l.toArray.size := fun hp e => by
  simp only [planOk, Bool.and_eq_true] at hp
  rw [← Nat.eq_of_beq_eq_true hp.2.2.2.2, ← e, List.length_map]
 have hclosed : Closed .any l.toArray (Array.replicate l.length false) := by
  intro j o _ hl
  exfalso
  simp [Array.getElem?_replicate] at hl
  split at hl <;> simp_all
 have hr' : Rel F0 N g env mem ac { w with drawn := w.drawn + 1 } := by
  have hx : Ext w { w with drawn := w.drawn + 1 } := Below.drew (Below.refl _ w)
  obtain ⟨e1, e2, e3⟩ := hr.mem.ext (g' := g) hr.kept hx (fun _ _ _ => Iff.rfl) rfl rfl hr.mem.fut
  exact ⟨fun t v ht => by obtain ⟨x, h1, h2⟩ := hr.env t v ht; exact ⟨x, h1, h2.mono e1⟩, e2, e3, hr.defers, hr.size, hr.big⟩
 refine wpIn_region_any hm ?_
 have := any_run2 (P := P) (N := N) (F := F) (F0 := F0) (Q := liftQ F0 N Q) hx hW hab' (fun j i h => waits_addW h) (fun j i h => waits_addW h) (ip ++ x1 :: s1).length ip x1 s1 x2 s2 env mem (Array.replicate l.length false) g ac _ rfl (by rw [hlen hB1 e1, hlen hB2 e2]) S1 S2 p2.1 q2.1 P1 P2 M1 M2
  (fun z hz hzb => by
   have hz' : z.i ∈ r1 := by rw [← p2.2]; exact List.mem_map_of_mem hz
   have := List.all_eq_true.1 hor z.i hz'
   simp only [Bool.or_eq_true] at this
   rcases this with h | h
   ·exact absurd (Nat.eq_of_beq_eq_true h) hzb
   ·exact h) hclosed hr'
  (fun g2 a2 w2 hr2 => ⟨F0, .refl _, _, _, g2, .normal, by rw [(fin_append ip (x1 :: s1) env mem).1, (fin_append ip (x1 :: s1) env mem).2] at hr2; exact hr2, rfl, p4⟩)
  (fun g2 a2 w2 hr2 => ⟨F0, .refl _, _, _, g2, .normal, by rw [(fin_append ip (x2 :: s2) env mem).1, (fin_append ip (x2 :: s2) env mem).2] at hr2; exact hr2, rfl, q4⟩)
 rw [hlen hB1 e1] at this
 simpa using this
end
end Lf
open Go.RowKit Rg
namespace Lf
theorem Does.allocQ {P : Program} {o : Oper} {env : Env} (X : TOk P) {T : Nat} {ti : TI} (ho : o.op = .alloc T) (hT : aget X.tab T = some ti) : Does P o env (.q []) [] := by
 refine ⟨fun F g a w mem _ h2 h3 h4 _ K Q hK => ?_⟩
 obtain ⟨inf, hi, hs, hb, z, hz, hl, hl', hzz, _⟩ := (X.get hT).info
 unfold Oper.wp
 have hrun : (execOp a.eval o).run P w = .ok (.value (.pointer (some ⟨w.heap.size, 0, none⟩))) (w.alloc (.cells z.cells T)) := by
  simp [execOp, ho, Instr.alloc, zeroValue, typeInfo, hi, hz, newVar, newRow]
 rw [hrun]
 have hx : Ext w (w.alloc (.cells z.cells T)) := (Below.refl w.heap.size w).alloc (Nat.le_refl _) _
 obtain ⟨k2, k3, k4⟩ := h2.ext (g' := g) h3 hx (fun _ _ _ => Iff.rfl) rfl rfl fun b o hb => h2.fut b o (Nat.le_trans hx.size hb)
 exact hK _ g _ k2 k3 k4 (.q (fun _ => default) (fun u hu => by cases hu) (fun j u hj => by simp at hj) (fun j u hj => by simp at hj))
section
variable {P : Program} {F : Fr0} {N : Nat} {ops : Array Oper} {chk : List (Nat × Tch) → Bool} {K : Env → Mem → Prop} {acc : List (Nat × Tch)} {env : Env} {mem : Mem} {i d j : Nat} {o : Oper} {rs : List (Nat × Oper)}
theorem DR.abW {T Tx E E2 e gen off m sz jb : Nat} {x y : Operand} {es ys zs fs : List V} (X : TOk P) {ti xi ei : TI} (ho : o.op = .call { callee := .builtin .append, args := #[x, y], argTypes := #[T, Tx] }) (hg : gd ops env o = some true) (hds : o.dst = some d) (hx : evo env x = some (.s (some j) es)) (hy : evo env y = some (.w jb gen sz off m))
  {n0 : Nat} (hm : aget mem j = some (.r E sz n0)) (hb2 : aget mem jb = some (.w E2 sz gen fs)) (hn0 : es.length = n0) (hT : aget X.tab T = some ti) (hdt : ti.d = .sl E) (hE : aget X.tab E = some ei) (hsz : ei.size = sz) (hX : aget X.tab Tx = some xi) (hdx : xi.d = .sl e) (hcs : (fs.drop off).take m = ys) (hys : ∀ e ∈ ys, e.cells.length = sz) (hbl : off + m ≤ fs.length)
  (hes : ∀ e ∈ es, e.cells.length = sz) (hz : es ++ ys = zs) {n : Nat} (hn : zs.length = n) (hmax : n ≤ 140737488355328) (hb : n * ei.bytes ≤ 140737488355328) (hd : Nat.blt d N = true)
  (hK : DR P F N ops chk K rs ((i, [(j, some (.r E sz es.length), some (.r E sz n)), (jb, some (.w E2 sz gen fs), none)]) :: acc) ((d, .s (some j) zs) :: env) ((j, .r E sz n) :: mem)) : DR P F N ops chk K ((i, o) :: rs) acc env mem := by
 subst hz
 exact DR.step hg (Does.appG X ho hx (SrcOk.buf X hy hX hdx hcs hbl) rfl hT hdt hE hsz hes hys (by rw [← List.length_append]; exact hn) hmax hb) (tpre_two (by rw [hn0]; exact hm) hb2) (by rw [hds]; exact hd) (by rw [hds]; exact hK)
theorem DR.abN {T Tx E e sz : Nat} {x y : Operand} {es : List V} (X : TOk P) {ti xi ei : TI} (ho : o.op = .call { callee := .builtin .append, args := #[x, y], argTypes := #[T, Tx] }) (hg : gd ops env o = some true) (hds : o.dst = some d) (hx : evo env x = some (.s (some j) es)) (hy : evo env y = some .nil)
  {n : Nat} (hm : aget mem j = some (.r E sz n)) (hn : es.length = n) (hT : aget X.tab T = some ti) (hdt : ti.d = .sl E) (hE : aget X.tab E = some ei) (hsz : ei.size = sz) (hX : aget X.tab Tx = some xi) (hdx : xi.d = .sl e)
  (hes : ∀ e ∈ es, e.cells.length = sz) (hmax : n ≤ 140737488355328) (hb : n * ei.bytes ≤ 140737488355328) (hd : Nat.blt d N = true)
  (hK : DR P F N ops chk K rs ((i, [(j, some (.r E sz es.length), some (.r E sz n))]) :: acc) ((d, .s (some j) es) :: env) ((j, .r E sz n) :: mem)) : DR P F N ops chk K ((i, o) :: rs) acc env mem := by
 have h := Does.appG X ho hx (SrcOk.nil X hy hX hdx) rfl hT hdt hE hsz hes (by simp) (n := n) (by simpa using hn) hmax hb
 rw [List.append_nil] at h
 exact DR.step hg h (tpre_one (by rw [hn]; exact hm)) (by rw [hds]; exact hd) (by rw [hds]; exact hK)
end
end Lf
end Go.Proofs.YtffaobngpbaklaaGreatDoor

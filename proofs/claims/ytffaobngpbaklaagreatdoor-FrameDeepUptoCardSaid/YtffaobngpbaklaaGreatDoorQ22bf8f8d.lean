/- A part of the proof: texts joined. -/
import Derived.Test.YtffaobngpbaklaaGreatDoorQ216e61b7
set_option linter.unusedVariables false
set_option linter.unusedSimpArgs false
namespace Go.Proofs.YtffaobngpbaklaaGreatDoor
open Go.RowKit Rg Wm Ar
set_option linter.unusedVariables false
set_option maxRecDepth 100000
namespace Lf
theorem of64 (w : Nat) : UInt8.ofNat ((limbs w).getD 0 default) = UInt8.ofNat w := by
 rw [limbs_get w (by decide)]
 apply UInt8.toNat_inj.1
 rw [UInt8.toNat_ofNat', UInt8.toNat_ofNat']
 unfold limb
 have : (2 : Nat) ^ 8 ∣ m64 := by unfold m64; decide
 simp only [Nat.pow_zero, Nat.div_one]
 exact Nat.mod_mod_of_dvd _ this
theorem m32 : 32 % M256 = 32 := by decide +kernel
theorem m1 : 1 % M256 = 1 := by decide +kernel
theorem m0 : 0 % M256 = 0 := by decide +kernel
theorem view_len {l : List UInt8} {a n : Nat} (h : a + n ≤ l.length) : (My.view l a n).length = n := by
 unfold My.view
 rw [List.length_take, List.length_drop]; omega
abbrev frL (c inp : List UInt8) (g mg n : Nat) (l : List UInt8) (sg : Nat) (st : List Nat) (pc : Nat) (o : List UInt8) : Mem :=
 [(1000, .b [.s none (c.map bK), .s none (inp.map bK), uK g, .w 1001 mg 1 0 n, .w 1002 sg 4 0 st.length, .mp 1003, .k (.int .i64 ((pc : Nat) : Int)), .s none (o.map bK)]), (1001, .w 5 1 mg (l.map bK)), (1002, .w 36 4 sg (sk st)), (1003, .m (mL (Co.lands c)))]
namespace Fw
set_option maxHeartbeats 1000000 in
theorem keep_32 (c inp : List UInt8) (g mg : Nat) (l : List UInt8) (sg : Nat) (r : List Nat) (pc : Nat) (o : List UInt8) (a n : Nat) (z mg2 : Nat) (l2 : List UInt8) (hs : r.length ≤ 900) (hL : l.length ≤ 4096) (hg : g < 18446744073709551616) (h0 : 0 < n % M256) (h : My.need l.length (a % M256) (n % M256) = some z) (hgr : My.grow ⟨mg, l⟩ z = ⟨mg2, l2⟩) (hl2 : a % M256 + n % M256 ≤ l2.length ∧ l2.length ≤ 4096) (hc : (My.price l.length z + 6 * Fm.words (n % M256)) ≤ g) : LM Tryz.prog 68 [.p 1000 0, .k (.int .u8 ((32 : Nat) : Int))] (frM c inp g mg l sg (a :: n :: r) pc o) fun q m => q = .ret (boV true) ∧ m = frM c inp (g - (My.price l.length z + 6 * Fm.words (n % M256))) mg2 l2 (sg + 1) (Ps.beN (sumB (My.view l2 (a % M256) (n % M256))) :: r) pc o := by
 have hq0 := limbs_len (a)
 have hq1 := limbs_len (n)
 have c1 := Pop c inp g mg l sg (n :: r) pc o a (by simp only [List.length_cons]; omega)
 have c2 := Pop c inp g mg l sg r pc o n (by omega)
 have c3 := PerWord 6 (by decide)
 have c4 := TouchM_ok c inp g mg l sg r pc o a n z mg2 l2 6 (by decide) hL hg h0 h hgr hl2 hc
 have hvl := view_len (l := l2) hl2.1
 have c5 := Sp.Sum (My.view l2 (a % M256) (n % M256)) (by omega)
 have hsl := sumB_len (My.view l2 (a % M256) (n % M256))
 generalize sumB (My.view l2 (a % M256) (n % M256)) = S at *
 have hS : (S.drop 0).take (32 - 0) = S := by rw [List.drop_zero]; exact List.take_of_length_le (by omega)
 have c6 := Wo.Read ((S.drop 0).take (32 - 0)) (by rw [hS]; omega)
 have c7 := Push c inp (g - (My.price l.length z + 6 * Fm.words (n % M256))) mg2 l2 sg r pc o (Ps.beN ((S.drop 0).take (32 - 0))) (by omega)
 have hq3 := limbs_len (Ps.beN ((S.drop 0).take (32 - 0)))
 rw [← hS]
 have hS2 : ((S.drop 0).take (32 - 0)).length = 32 := by rw [hS]; exact hsl
 unfold My.view at *
 obtain ⟨hl2, hl3⟩ := hl2
 generalize (My.price l.length z + 6 * Fm.words (n % M256)) = cost at *
 clear h hgr
 refine LM.enter tt Tryz.func68 rfl rfl rfl (by kernel_rfl) rfl rfl rfl (fun o mo h => by rw [h.2]; rfl) fun F _ => ?_
 exact wk trueW trueW trueW
set_option maxHeartbeats 1000000 in
theorem keep_32z (c inp : List UInt8) (g mg : Nat) (l : List UInt8) (sg : Nat) (r : List Nat) (pc : Nat) (o : List UInt8) (a n : Nat) (hs : r.length ≤ 900) (hL : l.length ≤ 4096) (hg : g < 18446744073709551616) (h0 : n % M256 = 0) : LM Tryz.prog 68 [.p 1000 0, .k (.int .u8 ((32 : Nat) : Int))] (frM c inp g mg l sg (a :: n :: r) pc o) fun q m => q = .ret (boV true) ∧ m = frM c inp g mg l (sg + 1) (Ps.beN (sumB []) :: r) pc o := by
 have hq0 := limbs_len (a)
 have hq1 := limbs_len (n)
 have c1 := Pop c inp g mg l sg (n :: r) pc o a (by simp only [List.length_cons]; omega)
 have c2 := Pop c inp g mg l sg r pc o n (by omega)
 have c3 := PerWord 6 (by decide)
 have c4 := TouchM_z c inp g mg l sg r pc o a n 6 (by decide) hL hg h0
 have c5 := Sp.Sum [] (by decide)
 have hsl := sumB_len []
 generalize sumB [] = S at *
 have hS : (S.drop 0).take (32 - 0) = S := by rw [List.drop_zero]; exact List.take_of_length_le (by omega)
 have c6 := Wo.Read ((S.drop 0).take (32 - 0)) (by rw [hS]; omega)
 have c7 := Push c inp g mg l sg r pc o (Ps.beN ((S.drop 0).take (32 - 0))) (by omega)
 have hq3 := limbs_len (Ps.beN ((S.drop 0).take (32 - 0)))
 rw [← hS]
 have hS2 : ((S.drop 0).take (32 - 0)).length = 32 := by rw [hS]; exact hsl
 clear h0
 refine LM.enter tt Tryz.func68 rfl rfl rfl (by kernel_rfl) rfl rfl rfl (fun o mo h => by rw [h.2]; rfl) fun F _ => ?_
 exact wk trueW trueW trueW
set_option maxHeartbeats 1000000 in
theorem keep_32much (c inp : List UInt8) (g mg : Nat) (l : List UInt8) (sg : Nat) (r : List Nat) (pc : Nat) (o : List UInt8) (a n : Nat) (hs : r.length ≤ 900) (hL : l.length ≤ 4096) (hg : g < 18446744073709551616) (h : My.need l.length (a % M256) (n % M256) = none) : LM Tryz.prog 68 [.p 1000 0, .k (.int .u8 ((32 : Nat) : Int))] (frM c inp g mg l sg (a :: n :: r) pc o) fun q m => q = .pan (fltV 6) ∧ m = frM c inp g mg l sg r pc o := by
 have hq0 := limbs_len (a)
 have hq1 := limbs_len (n)
 have c1 := Pop c inp g mg l sg (n :: r) pc o a (by simp only [List.length_cons]; omega)
 have c2 := Pop c inp g mg l sg r pc o n (by omega)
 have c3 := PerWord 6 (by decide)
 have p1 := TouchM_much c inp g mg l sg r pc o a n 6 (by decide) hL h
 have hstp : StopAt 5 := ⟨trivial⟩
 clear h
 refine LM.enter tt Tryz.func68 rfl rfl rfl (by kernel_rfl) rfl rfl rfl (fun o mo h => by rw [h.2]; rfl) fun F _ => ?_
 refine wk ?_ trueW trueW
 refine Stp.mk (LC.drawPanM (k := 4) (plan := [6, 0, 1, 2, 3]) ⟨trivial⟩ mixed (by kernel_rfl) ?_)
 dsimp only [pickI, nth]
 clear hstp
 refine DR.pp rfl rfl (Does.allocQ tt rfl rfl) rfl ?_
 exact wk trueW trueW trueW
set_option maxHeartbeats 1000000 in
theorem keep_32gas (c inp : List UInt8) (g mg : Nat) (l : List UInt8) (sg : Nat) (r : List Nat) (pc : Nat) (o : List UInt8) (a n : Nat) (z : Nat) (hs : r.length ≤ 900) (hL : l.length ≤ 4096) (hg : g < 18446744073709551616) (h0 : 0 < n % M256) (h : My.need l.length (a % M256) (n % M256) = some z) (hc : g < (My.price l.length z + 6 * Fm.words (n % M256))) : LM Tryz.prog 68 [.p 1000 0, .k (.int .u8 ((32 : Nat) : Int))] (frM c inp g mg l sg (a :: n :: r) pc o) fun q m => q = .pan (fltV 10) ∧ m = frM c inp g mg l sg r pc o := by
 have hq0 := limbs_len (a)
 have hq1 := limbs_len (n)
 have c1 := Pop c inp g mg l sg (n :: r) pc o a (by simp only [List.length_cons]; omega)
 have c2 := Pop c inp g mg l sg r pc o n (by omega)
 have c3 := PerWord 6 (by decide)
 have p1 := TouchM_gas c inp g mg l sg r pc o a n z 6 (by decide) hL h0 h hc
 have hstp : StopAt 5 := ⟨trivial⟩
 clear h
 refine LM.enter tt Tryz.func68 rfl rfl rfl (by kernel_rfl) rfl rfl rfl (fun o mo h => by rw [h.2]; rfl) fun F _ => ?_
 refine wk ?_ trueW trueW
 refine Stp.mk (LC.drawPanM (k := 4) (plan := [6, 0, 1, 2, 3]) ⟨trivial⟩ mixed (by kernel_rfl) ?_)
 dsimp only [pickI, nth]
 clear hstp
 refine DR.pp rfl rfl (Does.allocQ tt rfl rfl) rfl ?_
 exact wk trueW trueW trueW
set_option maxHeartbeats 1000000 in
theorem keep_52 (c inp : List UInt8) (g mg : Nat) (l : List UInt8) (sg : Nat) (r : List Nat) (pc : Nat) (o : List UInt8) (a : Nat) (hs : r.length ≤ 900) (hi : inp.length < 1073741824) : LM Tryz.prog 68 [.p 1000 0, .k (.int .u8 ((52 : Nat) : Int))] (frM c inp g mg l sg (a :: r) pc o) fun q m => q = .ret (boV true) ∧ m = frM c inp g mg l (sg + 1) (Ps.beN (Fm.cut inp (a % M256) 32) :: r) pc o := by
 have hq0 := limbs_len (a)
 have c1 := Pop c inp g mg l sg r pc o a (by omega)
 have c2 := Cut inp a 32 hi (by decide)
 have hcl := Fm.cut_len inp (a % M256) 32
 have c3 := Wo.Read (Fm.cut inp (a % M256) 32) (by omega)
 have c4 := Push c inp g mg l sg r pc o (Ps.beN (Fm.cut inp (a % M256) 32)) (by omega)
 have hq2 := limbs_len (Ps.beN (Fm.cut inp (a % M256) 32))
 have hstp : StopAt 8 := ⟨trivial⟩
 generalize Fm.cut inp (a % M256) 32 = S at *
 refine LM.enter tt Tryz.func68 rfl rfl rfl (by kernel_rfl) rfl rfl rfl (fun o mo h => by rw [h.2]; rfl) fun F _ => ?_
 refine wk ?_ trueW trueW
 refine Stp.mk (LC.draw2 (id := 8) (pre := [0, 1, 2, 3, 5]) (a := 4) (b := 6) (r1 := [6, 7, 8, 9]) (r2 := [4, 7, 8, 9]) ⟨⟩ mixed (by kernel_rfl) ?_)
 dsimp only [pickI, nth]
 clear hstp
 refine wk ?_ trueW trueW
 refine Both.mk ?_ ?_
 ·exact wk trueW trueW trueW
 ·exact wk trueW trueW trueW
set_option maxHeartbeats 1000000 in
theorem keep_54 (c inp : List UInt8) (g mg : Nat) (l : List UInt8) (sg : Nat) (r : List Nat) (pc : Nat) (o : List UInt8) (a f n : Nat) (hi : inp.length < 1073741824) (z mg2 : Nat) (l2 : List UInt8) (hs : r.length ≤ 900) (hL : l.length ≤ 4096) (hg : g < 18446744073709551616) (h0 : 0 < n % M256) (h : My.need l.length (a % M256) (n % M256) = some z) (hgr : My.grow ⟨mg, l⟩ z = ⟨mg2, l2⟩) (hl2 : a % M256 + n % M256 ≤ l2.length ∧ l2.length ≤ 4096) (hc : (My.price l.length z + 3 * Fm.words (n % M256)) ≤ g) : LM Tryz.prog 68 [.p 1000 0, .k (.int .u8 ((54 : Nat) : Int))] (frM c inp g mg l sg (a :: f :: n :: r) pc o) fun q m => q = .ret (boV true) ∧ m = frL c inp (g - (My.price l.length z + 3 * Fm.words (n % M256))) mg2 l2.length (Lf.put l2 (a % M256) (Fm.cut inp (f % M256) (n % M256))) sg r pc o := by
 have hq0 := limbs_len (a)
 have hq1 := limbs_len (f)
 have hq2 := limbs_len (n)
 have c1 := Pop c inp g mg l sg (f :: n :: r) pc o a (by simp only [List.length_cons]; omega)
 have c2 := Pop c inp g mg l sg (n :: r) pc o f (by simp only [List.length_cons]; omega)
 have c3 := Pop c inp g mg l sg r pc o n (by omega)
 have c4 := PerWord 3 (by decide)
 have c5 := TouchM_ok c inp g mg l sg r pc o a n z mg2 l2 3 (by decide) hL hg h0 h hgr hl2 hc
 have c6 := Cut inp f (n % M256) hi (by omega)
 have hcl := Fm.cut_len inp (f % M256) (n % M256)
 generalize Fm.cut inp (f % M256) (n % M256) = S at *
 obtain ⟨hl2, hl3⟩ := hl2
 generalize (My.price l.length z + 3 * Fm.words (n % M256)) = cost at *
 clear h hgr
 refine LM.enter tt Tryz.func68 rfl rfl rfl (by kernel_rfl) rfl rfl rfl (fun o mo h => by rw [h.2]; rfl) fun F _ => ?_
 exact wk trueW trueW trueW
set_option maxHeartbeats 1000000 in
theorem keep_54z (c inp : List UInt8) (g mg : Nat) (l : List UInt8) (sg : Nat) (r : List Nat) (pc : Nat) (o : List UInt8) (a f n : Nat) (hi : inp.length < 1073741824) (hs : r.length ≤ 900) (hL : l.length ≤ 4096) (hg : g < 18446744073709551616) (h0 : n % M256 = 0) : LM Tryz.prog 68 [.p 1000 0, .k (.int .u8 ((54 : Nat) : Int))] (frM c inp g mg l sg (a :: f :: n :: r) pc o) fun q m => q = .ret (boV true) ∧ m = frM c inp g mg l sg r pc o := by
 have hq0 := limbs_len (a)
 have hq1 := limbs_len (f)
 have hq2 := limbs_len (n)
 have c1 := Pop c inp g mg l sg (f :: n :: r) pc o a (by simp only [List.length_cons]; omega)
 have c2 := Pop c inp g mg l sg (n :: r) pc o f (by simp only [List.length_cons]; omega)
 have c3 := Pop c inp g mg l sg r pc o n (by omega)
 have c4 := PerWord 3 (by decide)
 have c5 := TouchM_z c inp g mg l sg r pc o a n 3 (by decide) hL hg h0
 have c6 := Cut inp f 0 hi (by decide)
 have hcl := Fm.cut_len inp (f % M256) 0
 generalize Fm.cut inp (f % M256) 0 = S at *
 obtain rfl := List.eq_nil_of_length_eq_zero hcl
 clear h0
 refine LM.enter tt Tryz.func68 rfl rfl rfl (by kernel_rfl) rfl rfl rfl (fun o mo h => by rw [h.2]; rfl) fun F _ => ?_
 exact wk trueW trueW trueW
set_option maxHeartbeats 1000000 in
theorem keep_54much (c inp : List UInt8) (g mg : Nat) (l : List UInt8) (sg : Nat) (r : List Nat) (pc : Nat) (o : List UInt8) (a f n : Nat) (hs : r.length ≤ 900) (hL : l.length ≤ 4096) (hg : g < 18446744073709551616) (h : My.need l.length (a % M256) (n % M256) = none) : LM Tryz.prog 68 [.p 1000 0, .k (.int .u8 ((54 : Nat) : Int))] (frM c inp g mg l sg (a :: f :: n :: r) pc o) fun q m => q = .pan (fltV 6) ∧ m = frM c inp g mg l sg r pc o := by
 have hq0 := limbs_len (a)
 have hq1 := limbs_len (f)
 have hq2 := limbs_len (n)
 have c1 := Pop c inp g mg l sg (f :: n :: r) pc o a (by simp only [List.length_cons]; omega)
 have c2 := Pop c inp g mg l sg (n :: r) pc o f (by simp only [List.length_cons]; omega)
 have c3 := Pop c inp g mg l sg r pc o n (by omega)
 have c4 := PerWord 3 (by decide)
 have p1 := TouchM_much c inp g mg l sg r pc o a n 3 (by decide) hL h
 have hq1 : PanInD 11 4 [0, 1, 2, 3] := ⟨trivial⟩
 clear h
 refine LM.enter tt Tryz.func68 rfl rfl rfl (by kernel_rfl) rfl rfl rfl (fun o mo h => by rw [h.2]; rfl) fun F _ => ?_
 exact wk trueW trueW trueW
set_option maxHeartbeats 1000000 in
theorem keep_54gas (c inp : List UInt8) (g mg : Nat) (l : List UInt8) (sg : Nat) (r : List Nat) (pc : Nat) (o : List UInt8) (a f n : Nat) (z : Nat) (hs : r.length ≤ 900) (hL : l.length ≤ 4096) (hg : g < 18446744073709551616) (h0 : 0 < n % M256) (h : My.need l.length (a % M256) (n % M256) = some z) (hc : g < (My.price l.length z + 3 * Fm.words (n % M256))) : LM Tryz.prog 68 [.p 1000 0, .k (.int .u8 ((54 : Nat) : Int))] (frM c inp g mg l sg (a :: f :: n :: r) pc o) fun q m => q = .pan (fltV 10) ∧ m = frM c inp g mg l sg r pc o := by
 have hq0 := limbs_len (a)
 have hq1 := limbs_len (f)
 have hq2 := limbs_len (n)
 have c1 := Pop c inp g mg l sg (f :: n :: r) pc o a (by simp only [List.length_cons]; omega)
 have c2 := Pop c inp g mg l sg (n :: r) pc o f (by simp only [List.length_cons]; omega)
 have c3 := Pop c inp g mg l sg r pc o n (by omega)
 have c4 := PerWord 3 (by decide)
 have p1 := TouchM_gas c inp g mg l sg r pc o a n z 3 (by decide) hL h0 h hc
 have hq1 : PanInD 11 4 [0, 1, 2, 3] := ⟨trivial⟩
 clear h
 refine LM.enter tt Tryz.func68 rfl rfl rfl (by kernel_rfl) rfl rfl rfl (fun o mo h => by rw [h.2]; rfl) fun F _ => ?_
 exact wk trueW trueW trueW
set_option maxHeartbeats 1000000 in
theorem keep_81 (c inp : List UInt8) (g mg : Nat) (l : List UInt8) (sg : Nat) (r : List Nat) (pc : Nat) (o : List UInt8) (a : Nat) (z mg2 : Nat) (l2 : List UInt8) (hs : r.length ≤ 900) (hL : l.length ≤ 4096) (hg : g < 18446744073709551616) (h0 : 0 < 32) (h : My.need l.length (a % M256) (32) = some z) (hgr : My.grow ⟨mg, l⟩ z = ⟨mg2, l2⟩) (hl2 : a % M256 + 32 ≤ l2.length ∧ l2.length ≤ 4096) (hc : (My.price l.length z) ≤ g) : LM Tryz.prog 68 [.p 1000 0, .k (.int .u8 ((81 : Nat) : Int))] (frM c inp g mg l sg (a :: r) pc o) fun q m => q = .ret (boV true) ∧ m = frM c inp (g - (My.price l.length z)) mg2 l2 (sg + 1) (Ps.beN (My.view l2 (a % M256) 32) :: r) pc o := by
 have hq0 := limbs_len (a)
 have hq1 := limbs_len (32)
 have c1 := Pop c inp g mg l sg r pc o a (by omega)
 have c2 := Wo.IntW 32 (by unfold m64; decide)
 have c3 := TouchN_ok c inp g mg l sg r pc o a 32 z mg2 l2 hL hg (by rw [m32]; decide) (by rw [m32]; exact h) hgr (by rw [m32]; exact hl2) hc
 rw [m32] at c3
 have hvl := view_len (l := l2) hl2.1
 have c4 := Wo.Read (My.view l2 (a % M256) 32) (by omega)
 have c5 := Push c inp (g - (My.price l.length z)) mg2 l2 sg r pc o (Ps.beN (My.view l2 (a % M256) 32)) (by omega)
 have hq3 := limbs_len (Ps.beN (My.view l2 (a % M256) 32))
 generalize hX : Ps.beN (My.view l2 (a % M256) 32) = X at *
 unfold My.view at *
 obtain ⟨hl2, hl3⟩ := hl2
 generalize (My.price l.length z) = cost at *
 clear h hgr
 refine LM.enter tt Tryz.func68 rfl rfl rfl (by kernel_rfl) rfl rfl rfl (fun o mo h => by rw [h.2]; rfl) fun F _ => ?_
 exact wk trueW trueW trueW
set_option maxHeartbeats 1000000 in
theorem keep_81much (c inp : List UInt8) (g mg : Nat) (l : List UInt8) (sg : Nat) (r : List Nat) (pc : Nat) (o : List UInt8) (a : Nat) (hs : r.length ≤ 900) (hL : l.length ≤ 4096) (hg : g < 18446744073709551616) (h : My.need l.length (a % M256) (32) = none) : LM Tryz.prog 68 [.p 1000 0, .k (.int .u8 ((81 : Nat) : Int))] (frM c inp g mg l sg (a :: r) pc o) fun q m => q = .pan (fltV 6) ∧ m = frM c inp g mg l sg r pc o := by
 have hq0 := limbs_len (a)
 have hq1 := limbs_len (32)
 have c1 := Pop c inp g mg l sg r pc o a (by omega)
 have c2 := Wo.IntW 32 (by unfold m64; decide)
 have p1 := TouchN_much c inp g mg l sg r pc o a 32 hL (by rw [m32]; exact h)
 have hp1 : PanIn 14 5 := ⟨trivial⟩
 clear h
 refine LM.enter tt Tryz.func68 rfl rfl rfl (by kernel_rfl) rfl rfl rfl (fun o mo h => by rw [h.2]; rfl) fun F _ => ?_
 exact wk trueW trueW trueW
set_option maxHeartbeats 1000000 in
theorem keep_81gas (c inp : List UInt8) (g mg : Nat) (l : List UInt8) (sg : Nat) (r : List Nat) (pc : Nat) (o : List UInt8) (a : Nat) (z : Nat) (hs : r.length ≤ 900) (hL : l.length ≤ 4096) (hg : g < 18446744073709551616) (h0 : 0 < 32) (h : My.need l.length (a % M256) (32) = some z) (hc : g < (My.price l.length z)) : LM Tryz.prog 68 [.p 1000 0, .k (.int .u8 ((81 : Nat) : Int))] (frM c inp g mg l sg (a :: r) pc o) fun q m => q = .pan (fltV 10) ∧ m = frM c inp g mg l sg r pc o := by
 have hq0 := limbs_len (a)
 have hq1 := limbs_len (32)
 have c1 := Pop c inp g mg l sg r pc o a (by omega)
 have c2 := Wo.IntW 32 (by unfold m64; decide)
 have p1 := TouchN_gas c inp g mg l sg r pc o a 32 z hL (by rw [m32]; decide) (by rw [m32]; exact h) hc
 have hp1 : PanIn 14 5 := ⟨trivial⟩
 clear h
 refine LM.enter tt Tryz.func68 rfl rfl rfl (by kernel_rfl) rfl rfl rfl (fun o mo h => by rw [h.2]; rfl) fun F _ => ?_
 exact wk trueW trueW trueW
set_option maxHeartbeats 1000000 in
theorem keep_82 (c inp : List UInt8) (g mg : Nat) (l : List UInt8) (sg : Nat) (r : List Nat) (pc : Nat) (o : List UInt8) (a x : Nat) (z mg2 : Nat) (l2 : List UInt8) (hs : r.length ≤ 900) (hL : l.length ≤ 4096) (hg : g < 18446744073709551616) (h0 : 0 < 32) (h : My.need l.length (a % M256) (32) = some z) (hgr : My.grow ⟨mg, l⟩ z = ⟨mg2, l2⟩) (hl2 : a % M256 + 32 ≤ l2.length ∧ l2.length ≤ 4096) (hc : (My.price l.length z) ≤ g) : LM Tryz.prog 68 [.p 1000 0, .k (.int .u8 ((82 : Nat) : Int))] (frM c inp g mg l sg (a :: x :: r) pc o) fun q m => q = .ret (boV true) ∧ m = frL c inp (g - (My.price l.length z)) mg2 l2.length (Lf.put l2 (a % M256) (wordB x)) sg r pc o := by
 have hq0 := limbs_len (a)
 have hq1 := limbs_len (x)
 have hq2 := limbs_len (32)
 have c1 := Pop c inp g mg l sg (x :: r) pc o a (by simp only [List.length_cons]; omega)
 have c2 := Pop c inp g mg l sg r pc o x (by omega)
 have c3 := Wo.IntW 32 (by unfold m64; decide)
 have c4 := Wo.Bytes x
 have hwl := wordB_len x
 have c5 := TouchN_ok c inp g mg l sg r pc o a 32 z mg2 l2 hL hg (by rw [m32]; decide) (by rw [m32]; exact h) hgr (by rw [m32]; exact hl2) hc
 rw [m32] at c5
 have hwt : ((wordB x).drop 0).take 32 = wordB x := by rw [List.drop_zero]; exact List.take_of_length_le (by omega)
 rw [← hwt]
 have hwl2 : (((wordB x).drop 0).take 32).length = 32 := by rw [hwt]; exact hwl
 clear hwt
 generalize wordB x = W at *
 obtain ⟨hl2, hl3⟩ := hl2
 generalize (My.price l.length z) = cost at *
 clear h hgr
 refine LM.enter tt Tryz.func68 rfl rfl rfl (by kernel_rfl) rfl rfl rfl (fun o mo h => by rw [h.2]; rfl) fun F _ => ?_
 exact wk trueW trueW trueW
set_option maxHeartbeats 1000000 in
theorem keep_82much (c inp : List UInt8) (g mg : Nat) (l : List UInt8) (sg : Nat) (r : List Nat) (pc : Nat) (o : List UInt8) (a x : Nat) (hs : r.length ≤ 900) (hL : l.length ≤ 4096) (hg : g < 18446744073709551616) (h : My.need l.length (a % M256) (32) = none) : LM Tryz.prog 68 [.p 1000 0, .k (.int .u8 ((82 : Nat) : Int))] (frM c inp g mg l sg (a :: x :: r) pc o) fun q m => q = .pan (fltV 6) ∧ m = frM c inp g mg l sg r pc o := by
 have hq0 := limbs_len (a)
 have hq1 := limbs_len (x)
 have hq2 := limbs_len (32)
 have c1 := Pop c inp g mg l sg (x :: r) pc o a (by simp only [List.length_cons]; omega)
 have c2 := Pop c inp g mg l sg r pc o x (by omega)
 have c3 := Wo.IntW 32 (by unfold m64; decide)
 have c4 := Wo.Bytes x
 have hwl := wordB_len x
 have p1 := TouchN_much c inp g mg l sg r pc o a 32 hL (by rw [m32]; exact h)
 have hq1 : PanInD 17 3 [0, 1, 2, 4] := ⟨trivial⟩
 clear h
 generalize wordB x = W at *
 refine LM.enter tt Tryz.func68 rfl rfl rfl (by kernel_rfl) rfl rfl rfl (fun o mo h => by rw [h.2]; rfl) fun F _ => ?_
 exact wk trueW trueW trueW
set_option maxHeartbeats 1000000 in
theorem keep_82gas (c inp : List UInt8) (g mg : Nat) (l : List UInt8) (sg : Nat) (r : List Nat) (pc : Nat) (o : List UInt8) (a x : Nat) (z : Nat) (hs : r.length ≤ 900) (hL : l.length ≤ 4096) (hg : g < 18446744073709551616) (h0 : 0 < 32) (h : My.need l.length (a % M256) (32) = some z) (hc : g < (My.price l.length z)) : LM Tryz.prog 68 [.p 1000 0, .k (.int .u8 ((82 : Nat) : Int))] (frM c inp g mg l sg (a :: x :: r) pc o) fun q m => q = .pan (fltV 10) ∧ m = frM c inp g mg l sg r pc o := by
 have hq0 := limbs_len (a)
 have hq1 := limbs_len (x)
 have hq2 := limbs_len (32)
 have c1 := Pop c inp g mg l sg (x :: r) pc o a (by simp only [List.length_cons]; omega)
 have c2 := Pop c inp g mg l sg r pc o x (by omega)
 have c3 := Wo.IntW 32 (by unfold m64; decide)
 have c4 := Wo.Bytes x
 have hwl := wordB_len x
 have p1 := TouchN_gas c inp g mg l sg r pc o a 32 z hL (by rw [m32]; decide) (by rw [m32]; exact h) hc
 have hq1 : PanInD 17 3 [0, 1, 2, 4] := ⟨trivial⟩
 clear h
 generalize wordB x = W at *
 refine LM.enter tt Tryz.func68 rfl rfl rfl (by kernel_rfl) rfl rfl rfl (fun o mo h => by rw [h.2]; rfl) fun F _ => ?_
 exact wk trueW trueW trueW
set_option maxHeartbeats 1000000 in
theorem keep_83 (c inp : List UInt8) (g mg : Nat) (l : List UInt8) (sg : Nat) (r : List Nat) (pc : Nat) (o : List UInt8) (a x : Nat) (z mg2 : Nat) (l2 : List UInt8) (hs : r.length ≤ 900) (hL : l.length ≤ 4096) (hg : g < 18446744073709551616) (h0 : 0 < 1) (h : My.need l.length (a % M256) (1) = some z) (hgr : My.grow ⟨mg, l⟩ z = ⟨mg2, l2⟩) (hl2 : a % M256 + 1 ≤ l2.length ∧ l2.length ≤ 4096) (hc : (My.price l.length z) ≤ g) : LM Tryz.prog 68 [.p 1000 0, .k (.int .u8 ((83 : Nat) : Int))] (frM c inp g mg l sg (a :: x :: r) pc o) fun q m => q = .ret (boV true) ∧ m = frL c inp (g - (My.price l.length z)) mg2 l2.length (l2.set (a % M256) (UInt8.ofNat x)) sg r pc o := by
 have hq0 := limbs_len (a)
 have hq1 := limbs_len (x)
 have hq2 := limbs_len (1)
 have c1 := Pop c inp g mg l sg (x :: r) pc o a (by simp only [List.length_cons]; omega)
 have c2 := Pop c inp g mg l sg r pc o x (by omega)
 have c3 := Wo.IntW 1 (by unfold m64; decide)
 have c4 := TouchN_ok c inp g mg l sg r pc o a 1 z mg2 l2 hL hg (by rw [m1]; decide) (by rw [m1]; exact h) hgr (by rw [m1]; exact hl2) hc
 rw [m1] at c4
 rw [← of64 x]
 obtain ⟨hl2, hl3⟩ := hl2
 generalize (My.price l.length z) = cost at *
 clear h hgr
 refine LM.enter tt Tryz.func68 rfl rfl rfl (by kernel_rfl) rfl rfl rfl (fun o mo h => by rw [h.2]; rfl) fun F _ => ?_
 exact wk trueW trueW trueW
set_option maxHeartbeats 1000000 in
theorem keep_83much (c inp : List UInt8) (g mg : Nat) (l : List UInt8) (sg : Nat) (r : List Nat) (pc : Nat) (o : List UInt8) (a x : Nat) (hs : r.length ≤ 900) (hL : l.length ≤ 4096) (hg : g < 18446744073709551616) (h : My.need l.length (a % M256) (1) = none) : LM Tryz.prog 68 [.p 1000 0, .k (.int .u8 ((83 : Nat) : Int))] (frM c inp g mg l sg (a :: x :: r) pc o) fun q m => q = .pan (fltV 6) ∧ m = frM c inp g mg l sg r pc o := by
 have hq0 := limbs_len (a)
 have hq1 := limbs_len (x)
 have hq2 := limbs_len (1)
 have c1 := Pop c inp g mg l sg (x :: r) pc o a (by simp only [List.length_cons]; omega)
 have c2 := Pop c inp g mg l sg r pc o x (by omega)
 have c3 := Wo.IntW 1 (by unfold m64; decide)
 have p1 := TouchN_much c inp g mg l sg r pc o a 1 hL (by rw [m1]; exact h)
 have hq1 : PanInD 20 3 [0, 1, 2, 4, 5, 6] := ⟨trivial⟩
 clear h
 refine LM.enter tt Tryz.func68 rfl rfl rfl (by kernel_rfl) rfl rfl rfl (fun o mo h => by rw [h.2]; rfl) fun F _ => ?_
 exact wk trueW trueW trueW
set_option maxHeartbeats 1000000 in
theorem keep_83gas (c inp : List UInt8) (g mg : Nat) (l : List UInt8) (sg : Nat) (r : List Nat) (pc : Nat) (o : List UInt8) (a x : Nat) (z : Nat) (hs : r.length ≤ 900) (hL : l.length ≤ 4096) (hg : g < 18446744073709551616) (h0 : 0 < 1) (h : My.need l.length (a % M256) (1) = some z) (hc : g < (My.price l.length z)) : LM Tryz.prog 68 [.p 1000 0, .k (.int .u8 ((83 : Nat) : Int))] (frM c inp g mg l sg (a :: x :: r) pc o) fun q m => q = .pan (fltV 10) ∧ m = frM c inp g mg l sg r pc o := by
 have hq0 := limbs_len (a)
 have hq1 := limbs_len (x)
 have hq2 := limbs_len (1)
 have c1 := Pop c inp g mg l sg (x :: r) pc o a (by simp only [List.length_cons]; omega)
 have c2 := Pop c inp g mg l sg r pc o x (by omega)
 have c3 := Wo.IntW 1 (by unfold m64; decide)
 have p1 := TouchN_gas c inp g mg l sg r pc o a 1 z hL (by rw [m1]; decide) (by rw [m1]; exact h) hc
 have hq1 : PanInD 20 3 [0, 1, 2, 4, 5, 6] := ⟨trivial⟩
 clear h
 refine LM.enter tt Tryz.func68 rfl rfl rfl (by kernel_rfl) rfl rfl rfl (fun o mo h => by rw [h.2]; rfl) fun F _ => ?_
 exact wk trueW trueW trueW
set_option maxHeartbeats 1000000 in
theorem keep_else (c inp : List UInt8) (g mg : Nat) (l : List UInt8) (sg : Nat) (st : List Nat) (pc : Nat) (o : List UInt8) (n : Nat) (hc : ([32, 52, 54, 81, 82, 83] : List Nat).contains n = false) : LM Tryz.prog 68 [.p 1000 0, .k (.int .u8 ((n : Nat) : Int))] (frM c inp g mg l sg st pc o) fun q m => q = .ret (boV false) ∧ m = frM c inp g mg l sg st pc o := by
 have k32 : NE (n : Int) 32 := ne_of (k := 32) hc (by decide)
 have k52 : NE (n : Int) 52 := ne_of (k := 52) hc (by decide)
 have k54 : NE (n : Int) 54 := ne_of (k := 54) hc (by decide)
 have k81 : NE (n : Int) 81 := ne_of (k := 81) hc (by decide)
 have k82 : NE (n : Int) 82 := ne_of (k := 82) hc (by decide)
 have k83 : NE (n : Int) 83 := ne_of (k := 83) hc (by decide)
 clear hc
 refine LM.enter tt Tryz.func68 rfl rfl rfl (by kernel_rfl) rfl rfl rfl (fun o mo h => by rw [h.2]; rfl) fun F _ => ?_
 exact wk trueW trueW trueW
end Fw
end Lf
open Go.RowKit Rg Wm Ar
set_option linter.unusedVariables false
set_option maxRecDepth 100000
namespace Lf
namespace Fw
theorem counts_8 : LF Tryz.prog 75 [.k (.int .u8 ((8 : Nat) : Int))] (fun _ => .t [.k (.int .i64 ((3 : Nat) : Int)), .k (.int .i64 ((1 : Nat) : Int))]) none := by
 refine LFx.mk' tt Tryz.func75 rfl rfl rfl (by kernel_rfl) rfl rfl fun F => ?_
 exact wk trueW trueW trueW
theorem counts_9 : LF Tryz.prog 75 [.k (.int .u8 ((9 : Nat) : Int))] (fun _ => .t [.k (.int .i64 ((3 : Nat) : Int)), .k (.int .i64 ((1 : Nat) : Int))]) none := by
 refine LFx.mk' tt Tryz.func75 rfl rfl rfl (by kernel_rfl) rfl rfl fun F => ?_
 exact wk trueW trueW trueW
theorem counts_21 : LF Tryz.prog 75 [.k (.int .u8 ((21 : Nat) : Int))] (fun _ => .t [.k (.int .i64 ((1 : Nat) : Int)), .k (.int .i64 ((1 : Nat) : Int))]) none := by
 refine LFx.mk' tt Tryz.func75 rfl rfl rfl (by kernel_rfl) rfl rfl fun F => ?_
 exact wk trueW trueW trueW
theorem counts_25 : LF Tryz.prog 75 [.k (.int .u8 ((25 : Nat) : Int))] (fun _ => .t [.k (.int .i64 ((1 : Nat) : Int)), .k (.int .i64 ((1 : Nat) : Int))]) none := by
 refine LFx.mk' tt Tryz.func75 rfl rfl rfl (by kernel_rfl) rfl rfl fun F => ?_
 exact wk trueW trueW trueW
theorem counts_49 : LF Tryz.prog 75 [.k (.int .u8 ((49 : Nat) : Int))] (fun _ => .t [.k (.int .i64 ((1 : Nat) : Int)), .k (.int .i64 ((1 : Nat) : Int))]) none := by
 refine LFx.mk' tt Tryz.func75 rfl rfl rfl (by kernel_rfl) rfl rfl fun F => ?_
 exact wk trueW trueW trueW
theorem counts_52 : LF Tryz.prog 75 [.k (.int .u8 ((52 : Nat) : Int))] (fun _ => .t [.k (.int .i64 ((1 : Nat) : Int)), .k (.int .i64 ((1 : Nat) : Int))]) none := by
 refine LFx.mk' tt Tryz.func75 rfl rfl rfl (by kernel_rfl) rfl rfl fun F => ?_
 exact wk trueW trueW trueW
theorem counts_81 : LF Tryz.prog 75 [.k (.int .u8 ((81 : Nat) : Int))] (fun _ => .t [.k (.int .i64 ((1 : Nat) : Int)), .k (.int .i64 ((1 : Nat) : Int))]) none := by
 refine LFx.mk' tt Tryz.func75 rfl rfl rfl (by kernel_rfl) rfl rfl fun F => ?_
 exact wk trueW trueW trueW
theorem counts_84 : LF Tryz.prog 75 [.k (.int .u8 ((84 : Nat) : Int))] (fun _ => .t [.k (.int .i64 ((1 : Nat) : Int)), .k (.int .i64 ((1 : Nat) : Int))]) none := by
 refine LFx.mk' tt Tryz.func75 rfl rfl rfl (by kernel_rfl) rfl rfl fun F => ?_
 exact wk trueW trueW trueW
theorem counts_80 : LF Tryz.prog 75 [.k (.int .u8 ((80 : Nat) : Int))] (fun _ => .t [.k (.int .i64 ((1 : Nat) : Int)), .k (.int .i64 ((0 : Nat) : Int))]) none := by
 refine LFx.mk' tt Tryz.func75 rfl rfl rfl (by kernel_rfl) rfl rfl fun F => ?_
 exact wk trueW trueW trueW
theorem counts_86 : LF Tryz.prog 75 [.k (.int .u8 ((86 : Nat) : Int))] (fun _ => .t [.k (.int .i64 ((1 : Nat) : Int)), .k (.int .i64 ((0 : Nat) : Int))]) none := by
 refine LFx.mk' tt Tryz.func75 rfl rfl rfl (by kernel_rfl) rfl rfl fun F => ?_
 exact wk trueW trueW trueW
theorem counts_82 : LF Tryz.prog 75 [.k (.int .u8 ((82 : Nat) : Int))] (fun _ => .t [.k (.int .i64 ((2 : Nat) : Int)), .k (.int .i64 ((0 : Nat) : Int))]) none := by
 refine LFx.mk' tt Tryz.func75 rfl rfl rfl (by kernel_rfl) rfl rfl fun F => ?_
 exact wk trueW trueW trueW
theorem counts_83 : LF Tryz.prog 75 [.k (.int .u8 ((83 : Nat) : Int))] (fun _ => .t [.k (.int .i64 ((2 : Nat) : Int)), .k (.int .i64 ((0 : Nat) : Int))]) none := by
 refine LFx.mk' tt Tryz.func75 rfl rfl rfl (by kernel_rfl) rfl rfl fun F => ?_
 exact wk trueW trueW trueW
theorem counts_85 : LF Tryz.prog 75 [.k (.int .u8 ((85 : Nat) : Int))] (fun _ => .t [.k (.int .i64 ((2 : Nat) : Int)), .k (.int .i64 ((0 : Nat) : Int))]) none := by
 refine LFx.mk' tt Tryz.func75 rfl rfl rfl (by kernel_rfl) rfl rfl fun F => ?_
 exact wk trueW trueW trueW
theorem counts_87 : LF Tryz.prog 75 [.k (.int .u8 ((87 : Nat) : Int))] (fun _ => .t [.k (.int .i64 ((2 : Nat) : Int)), .k (.int .i64 ((0 : Nat) : Int))]) none := by
 refine LFx.mk' tt Tryz.func75 rfl rfl rfl (by kernel_rfl) rfl rfl fun F => ?_
 exact wk trueW trueW trueW
theorem counts_242 : LF Tryz.prog 75 [.k (.int .u8 ((242 : Nat) : Int))] (fun _ => .t [.k (.int .i64 ((2 : Nat) : Int)), .k (.int .i64 ((0 : Nat) : Int))]) none := by
 refine LFx.mk' tt Tryz.func75 rfl rfl rfl (by kernel_rfl) rfl rfl fun F => ?_
 exact wk trueW trueW trueW
theorem counts_253 : LF Tryz.prog 75 [.k (.int .u8 ((253 : Nat) : Int))] (fun _ => .t [.k (.int .i64 ((2 : Nat) : Int)), .k (.int .i64 ((0 : Nat) : Int))]) none := by
 refine LFx.mk' tt Tryz.func75 rfl rfl rfl (by kernel_rfl) rfl rfl fun F => ?_
 exact wk trueW trueW trueW
theorem counts_54 : LF Tryz.prog 75 [.k (.int .u8 ((54 : Nat) : Int))] (fun _ => .t [.k (.int .i64 ((3 : Nat) : Int)), .k (.int .i64 ((0 : Nat) : Int))]) none := by
 refine LFx.mk' tt Tryz.func75 rfl rfl rfl (by kernel_rfl) rfl rfl fun F => ?_
 exact wk trueW trueW trueW
theorem counts_57 : LF Tryz.prog 75 [.k (.int .u8 ((57 : Nat) : Int))] (fun _ => .t [.k (.int .i64 ((3 : Nat) : Int)), .k (.int .i64 ((0 : Nat) : Int))]) none := by
 refine LFx.mk' tt Tryz.func75 rfl rfl rfl (by kernel_rfl) rfl rfl fun F => ?_
 exact wk trueW trueW trueW
end Fw
end Lf
end Go.Proofs.YtffaobngpbaklaaGreatDoor

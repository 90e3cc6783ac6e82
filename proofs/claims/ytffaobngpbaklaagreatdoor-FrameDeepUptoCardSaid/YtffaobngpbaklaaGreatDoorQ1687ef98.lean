/- A part of the proof: texts joined. -/
import Derived.Test.YtffaobngpbaklaaGreatDoorQ1026c12c
set_option linter.unusedVariables false
set_option linter.unusedSimpArgs false
namespace Go.Proofs.YtffaobngpbaklaaGreatDoor
open Go.RowKit Rg Wm Ar
set_option linter.unusedVariables false
set_option maxRecDepth 100000
namespace Lf
theorem inv_u64 {a : Nat} (h : a < 18446744073709551616) : IntKind.u64.wrap ((BitVec.ofInt IntKind.u64.bits (if IntKind.u64.signed then -1 else IntKind.u64.max) ^^^ BitVec.ofInt IntKind.u64.bits (a : Int)).toNat : Nat) = ((18446744073709551615 - a : Nat) : Int) := by
 have e : (if IntKind.u64.signed then (-1 : Int) else IntKind.u64.max) = ((18446744073709551615 : Nat) : Int) := rfl
 rw [e, xor_u64 (by omega) h]
 congr 1
 refine Nat.eq_of_testBit_eq fun j => ?_
 rw [Nat.testBit_xor, not64 h]
 have : (18446744073709551615 : Nat) = 2 ^ 64 - 1 := by decide
 rw [this, Nat.testBit_two_pow_sub_one]
 by_cases hj : j < 64
 ·simp [hj]
 ·have : a.testBit j = false := Nat.testBit_lt_two_pow (Nat.lt_of_lt_of_le h (by rw [show 18446744073709551616 = 2 ^ 64 by decide]; exact Nat.pow_le_pow_right (by decide) (by omega)))
  simp [hj, this]
namespace Tw
theorem not1 (x y : Nat) (hx : x < 18446744073709551616) (_ : y < 18446744073709551616) : LF Tryz.prog 71 [uK x, uK y] (fun _ => uK (18446744073709551615 - x)) none := by
 have hi := inv_u64 hx
 refine LFx.mk' tt Tryz.func71 rfl rfl rfl (by kernel_rfl) rfl rfl fun F => ?_
 exact wk trueW trueW trueW
theorem and1 (x y : Nat) (hx : x < 18446744073709551616) (hy : y < 18446744073709551616) : LF Tryz.prog 113 [uK x, uK y] (fun _ => uK (x &&& y)) none := by
 have hi := and_u64 hx hy
 refine LFx.mk' tt Tryz.func113 rfl rfl rfl (by kernel_rfl) rfl rfl fun F => ?_
 exact wk trueW trueW trueW
theorem or1 (x y : Nat) (hx : x < 18446744073709551616) (hy : y < 18446744073709551616) : LF Tryz.prog 72 [uK x, uK y] (fun _ => uK (x ||| y)) none := by
 have hi := or_u64 hx hy
 refine LFx.mk' tt Tryz.func72 rfl rfl rfl (by kernel_rfl) rfl rfl fun F => ?_
 exact wk trueW trueW trueW
theorem xor1 (x y : Nat) (hx : x < 18446744073709551616) (hy : y < 18446744073709551616) : LF Tryz.prog 53 [uK x, uK y] (fun _ => uK (x ^^^ y)) none := by
 have hi := xor_u64 hx hy
 refine LFx.mk' tt Tryz.func53 rfl rfl rfl (by kernel_rfl) rfl rfl fun F => ?_
 exact wk trueW trueW trueW
set_option maxHeartbeats 1000000 in
theorem each (fx : Nat) (op : Nat → Nat → Nat) (r : Nat → Nat → Nat) (hop : ∀ x y, x < 18446744073709551616 → y < 18446744073709551616 → LF Tryz.prog fx [uK x, uK y] (fun _ => uK (op x y)) none) (hr : ∀ x y i, i < 4 → limb (r x y) i = op (limb x i) (limb y i)) (x y : Nat) :
  LF Tryz.prog 52 [wV x, wV y, .f (.func fx) [] []] (fun _ => wV (r x y)) none := by
 have hlx := limbs_len x
 have hly := limbs_len y
 refine LFx.mk' tt Tryz.func52 rfl rfl rfl (by kernel_rfl) rfl rfl fun F => ?_
 refine wk ?_ trueW trueW
 refine LC.loop2 (fun i L => [(2, .f (.func fx) [] []), (3, .p 3 0), (4, .p 4 0), (6, .p 6 0), (7, .p 7 0), (9, .k (.int .i64 ((i : Nat) : Int)))]) (fun i L => [(3, .b ((limbs x).map uK)), (4, .b ((limbs y).map uK)), (6, .b ((List.replicate 4 0).map uK)), (7, .b (L.map uK))]) (fun i L => i ≤ 4 ∧ L = bit4 (limb (r x y)) i) ((4 - ·)) (0) ((List.replicate 4 0)) ⟨by omega, rfl⟩ ⟨rfl, rfl, rfl, rfl, rfl, rfl, trivial⟩ ⟨rfl, rfl, rfl, rfl, trivial⟩ rfl rfW rfW ?_
 rintro i L ⟨hi, hL⟩
 have hb := bit4_len (limb (r x y)) i
 rw [← hL] at hb
 rcases Nat.lt_or_ge i 4 with h | h
 ·have c1 := hop _ _ (limbs_lt x i) (limbs_lt y i)
  have hok : i + 1 ≤ 4 ∧ L.set i (op ((limbs x).getD i default) ((limbs y).getD i default)) = bit4 (limb (r x y)) (i + 1) := ⟨h, by rw [hL]; exact bit4_set (by rw [hr x y i h, limbs_get x h, limbs_get y h])⟩
  clear hL hr hop
  generalize op ((limbs x).getD i default) ((limbs y).getD i default) = z at *
  exact wk trueW trueW trueW
 ·obtain rfl : i = 4 := by omega
  have hv1 : V.a (L.map uK) = wV (r x y) := by rw [hL, bit4_full]
  clear hL hr hop
  exact wk trueW trueW trueW
theorem And (x y : Nat) : LF Tryz.prog 105 [wV x, wV y] (fun _ => wV (x &&& y)) none := by
 have c1 := each _ _ (fun x y => x &&& y) and1 (fun x y i _ => limb_and x y i) x y
 have hlx := limbs_len x
 have hly := limbs_len y
 have hlz := limbs_len (x &&& y)
 refine LFx.mk' tt Tryz.func105 rfl rfl rfl (by kernel_rfl) rfl rfl fun F => ?_
 exact wk trueW trueW trueW
theorem Or (x y : Nat) : LF Tryz.prog 57 [wV x, wV y] (fun _ => wV (x ||| y)) none := by
 have c1 := each _ _ (fun x y => x ||| y) or1 (fun x y i _ => limb_or x y i) x y
 have hlx := limbs_len x
 have hly := limbs_len y
 have hlz := limbs_len (x ||| y)
 refine LFx.mk' tt Tryz.func57 rfl rfl rfl (by kernel_rfl) rfl rfl fun F => ?_
 exact wk trueW trueW trueW
theorem Xor (x y : Nat) : LF Tryz.prog 37 [wV x, wV y] (fun _ => wV (x ^^^ y)) none := by
 have c1 := each _ _ (fun x y => x ^^^ y) xor1 (fun x y i _ => limb_xor x y i) x y
 have hlx := limbs_len x
 have hly := limbs_len y
 have hlz := limbs_len (x ^^^ y)
 refine LFx.mk' tt Tryz.func37 rfl rfl rfl (by kernel_rfl) rfl rfl fun F => ?_
 exact wk trueW trueW trueW
theorem Not (x : Nat) : LF Tryz.prog 55 [wV x] (fun _ => wV (notN x)) none := by
 have c1 := each _ (fun a _ => 18446744073709551615 - a) (fun x _ => notN x) not1 (fun x _ i hi => limb_not x i hi) x x
 have hlx := limbs_len x
 have hlz := limbs_len (notN x)
 refine LFx.mk' tt Tryz.func55 rfl rfl rfl (by kernel_rfl) rfl rfl fun F => ?_
 exact wk trueW trueW trueW
theorem Neg (x : Nat) : LF Tryz.prog 48 [wV x] (fun _ => wV (dif 0 x)) none := by
 have c1 := Wo.Sub 0 x
 have hv0 : limbs 0 = [0, 0, 0, 0] := by unfold limbs; decide
 simp only [wV, hv0, List.map_cons, List.map_nil] at c1
 have hlx := limbs_len x
 have hlz := limbs_len (dif 0 x)
 refine LFx.mk' tt Tryz.func48 rfl rfl rfl (by kernel_rfl) rfl rfl fun F => ?_
 exact wk trueW trueW trueW
theorem far (n : Nat) : LF Tryz.prog 54 [wV n] (fun _ => .k (.bool (decide (256 ≤ n % M256)))) none := by
 have hi := far_iff n
 have hl := limbs_len n
 have e0 := limbs_get n (show 0 < 4 by decide)
 have e1 := limbs_get n (show 1 < 4 by decide)
 have e2 := limbs_get n (show 2 < 4 by decide)
 have e3 := limbs_get n (show 3 < 4 by decide)
 rw [← e0, ← e1, ← e2, ← e3] at hi
 have l1 := limbs_lt n 1
 have l2 := limbs_lt n 2
 have l3 := limbs_lt n 3
 have ho : (limbs n).getD 1 default ||| (limbs n).getD 2 default < 18446744073709551616 := Nat.or_lt_two_pow (n := 64) l1 l2
 have ho2 : (limbs n).getD 1 default ||| (limbs n).getD 2 default ||| (limbs n).getD 3 default < 18446744073709551616 := Nat.or_lt_two_pow (n := 64) ho l3
 clear e0 e1 e2 e3
 by_cases h0 : 256 ≤ (limbs n).getD 0 default
 ·rw [decide_eq_true (hi.2 (.inl h0))]
  clear hi
  refine LFx.mk' tt Tryz.func54 rfl rfl rfl (by kernel_rfl) rfl rfl fun F => ?_
  exact wk trueW trueW trueW
 ·by_cases h1 : ((limbs n).getD 1 default ||| (limbs n).getD 2 default ||| (limbs n).getD 3 default) = 0
  ·rw [decide_eq_false (fun h => by rcases hi.1 h with h | h <;> omega)]
   clear hi
   refine LFx.mk' tt Tryz.func54 rfl rfl rfl (by kernel_rfl) rfl rfl fun F => ?_
   exact wk trueW trueW trueW
  ·rw [decide_eq_true (hi.2 (.inr h1))]
   clear hi
   refine LFx.mk' tt Tryz.func54 rfl rfl rfl (by kernel_rfl) rfl rfl fun F => ?_
   exact wk trueW trueW trueW
theorem minus (x : Nat) : LF Tryz.prog 47 [wV x] (fun _ => .k (.bool (decide (2 ^ 255 ≤ x % M256)))) none := by
 have hi := minus_iff x
 have hl := limbs_len x
 rw [← limbs_get x (show 3 < 4 by decide)] at hi
 have l3 := limbs_lt x 3
 by_cases h0 : 9223372036854775808 ≤ (limbs x).getD 3 default
 ·rw [decide_eq_true (hi.2 h0)]
  clear hi
  refine LFx.mk' tt Tryz.func47 rfl rfl rfl (by kernel_rfl) rfl rfl fun F => ?_
  exact wk trueW trueW trueW
 ·rw [decide_eq_false (fun h => h0 (hi.1 h))]
  clear hi
  refine LFx.mk' tt Tryz.func47 rfl rfl rfl (by kernel_rfl) rfl rfl fun F => ?_
  exact wk trueW trueW trueW
theorem farT {n : Nat} (h : 256 ≤ n % M256) : LF Tryz.prog 54 [wV n] (fun _ => .k (.bool true)) none := by
 have := far n; rwa [decide_eq_true h] at this
theorem farF {n : Nat} (h : n % M256 < 256) : LF Tryz.prog 54 [wV n] (fun _ => .k (.bool false)) none := by
 have := far n; rwa [decide_eq_false (by omega)] at this
theorem minusT {n : Nat} (h : 2 ^ 255 ≤ n % M256) : LF Tryz.prog 47 [wV n] (fun _ => .k (.bool true)) none := by
 have := minus n; rwa [decide_eq_true h] at this
theorem minusF {n : Nat} (h : n % M256 < 2 ^ 255) : LF Tryz.prog 47 [wV n] (fun _ => .k (.bool false)) none := by
 have := minus n; rwa [decide_eq_false (Nat.not_le_of_lt h)] at this
end Tw
end Lf
open Go.RowKit Rg Wm Ar
set_option linter.unusedVariables false
set_option maxRecDepth 100000
namespace Lf
namespace Tw
set_option maxHeartbeats 2000000 in
theorem Shl (n a : Nat) : LF Tryz.prog 38 [wV n, wV a] (fun _ => wV (a * 2 ^ (n % M256))) none := by
 have hln := limbs_len n
 have hla := limbs_len a
 rcases Nat.lt_or_ge (n % M256) 256 with h | h
 ·have c1 := farF h
  obtain ⟨e, hk⟩ := split64 h
  have hs : (limbs n).getD 0 default % 64 < 64 := Nat.mod_lt _ (by decide)
  have hn0 := limbs_lt n 0
  rw [e]
  clear e h
  have hst := shl_start a ((limbs n).getD 0 default / 64) _ hs
  have hat := fun i hki hi L hL => shl_at a ((limbs n).getD 0 default / 64) _ i hs hki hi L hL
  have hor := fun i hki hi L hL X hX => shl_or a ((limbs n).getD 0 default / 64) _ i hs hki hi L hL X hX
  have hlt := fun i j => bit4_lt (f := limb (a * 2 ^ (64 * ((limbs n).getD 0 default / 64) + (limbs n).getD 0 default % 64))) (limb_lt64 _) i j
  generalize a * 2 ^ (64 * ((limbs n).getD 0 default / 64) + (limbs n).getD 0 default % 64) = R at *
  refine LFx.mk' tt Tryz.func38 rfl rfl rfl (by kernel_rfl) rfl rfl fun F => ?_
  refine wk ?_ trueW trueW
  refine LC.loop2 (fun i L => [(3, .p 3 0), (4, .p 4 0), (5, .p 5 0), (6, .k (.int .i64 ((((limbs n).getD 0 default / 64) : Nat) : Int))), (7, uK ((limbs n).getD 0 default % 64)), (8, .k (.int .i64 ((i : Nat) : Int)))]) (fun i L => [(3, .b ((limbs a).map uK)), (4, .b ((List.replicate 4 0).map uK)), (5, .b (L.map uK))]) (fun i L => (limbs n).getD 0 default / 64 ≤ i ∧ i ≤ 4 ∧ L = bit4 (limb R) i) ((4 - ·)) (((limbs n).getD 0 default / 64)) ((List.replicate 4 0)) ⟨Nat.le_refl _, by omega, hst⟩ ⟨rfl, rfl, rfl, rfl, rfl, rfl, trivial⟩ ⟨rfl, rfl, rfl, trivial⟩ rfl rfW rfW ?_
  rintro i L ⟨hki, hi, hL⟩
  have hb := bit4_len (limb R) i
  rw [← hL] at hb
  rcases Nat.lt_or_ge i 4 with h | h
  ·have l1 := limbs_lt a (i - (limbs n).getD 0 default / 64)
   have l2 := limbs_lt a (i - (limbs n).getD 0 default / 64 - 1)
   generalize hkk : (limbs n).getD 0 default / 64 = k at *
   generalize hss : (limbs n).getD 0 default % 64 = s at *
   generalize hX : (limbs a).getD (i - k) default * 2 ^ s % 2 ^ 64 = X at *
   have hXl : X < 18446744073709551616 := by rw [← hX]; exact Nat.mod_lt _ (by decide)
   rcases Nat.lt_or_ge k i with h2 | h2
   ·have hg : (L.set i X).getD i default = X := tgetD_set (by omega)
    have hok : k ≤ i + 1 ∧ i + 1 ≤ 4 ∧ (L.set i X).set i ((L.set i X).getD i default ||| (limbs a).getD (i - k - 1) default / 2 ^ (64 - s)) = bit4 (limb R) (i + 1) := ⟨by omega, h, by rw [hg]; exact hor i h2 h L hL X hX.symm⟩
    have hgl : (L.set i X).getD i default < 18446744073709551616 := by rw [hg]; exact hXl
    have hdl : (limbs a).getD (i - k - 1) default / 2 ^ (64 - s) < 18446744073709551616 := Nat.lt_of_le_of_lt (Nat.div_le_self _ _) l2
    have hw : IntKind.i64.wrap ((i : Int) - (k : Int)) = ((i - k : Nat) : Int) := by rw [wrap_i64 (by omega)]; omega
    clear hL hat hor hlt hst hg
    subst hX
    exact wk trueW trueW trueW
   ·obtain rfl : k = i := by omega
    have hw2 : (limbs a).getD (k - k) default = (limbs a).getD 0 default := by rw [Nat.sub_self]
    have hok : k ≤ k + 1 ∧ k + 1 ≤ 4 ∧ L.set k X = bit4 (limb R) (k + 1) := ⟨by omega, h, by have := hat k (Nat.le_refl _) h L hL; rw [if_pos rfl] at this; rw [← hX]; exact this⟩
    have hw : IntKind.i64.wrap ((k : Int) - (k : Int)) = ((k - k : Nat) : Int) := by rw [wrap_i64 (by omega)]; omega
    clear hL hat hor hlt hst
    subst hX
    exact wk trueW trueW trueW
  ·obtain rfl : i = 4 := by omega
   have hv1 : V.a (L.map uK) = wV R := by rw [hL, bit4_full]
   clear hL hat hor hlt hst
   exact wk trueW trueW trueW
 ·rw [wV_eq (shl_far (a := a) h)]
  have c1 := farT h
  have hv1 : V.a ((List.replicate 4 0).map uK) = wV 0 := congrArg (fun l => V.a (List.map uK l)) (show List.replicate 4 0 = limbs 0 from by unfold limbs; decide)
  refine LFx.mk' tt Tryz.func38 rfl rfl rfl (by kernel_rfl) rfl rfl fun F => ?_
  exact wk trueW trueW trueW
set_option maxHeartbeats 2000000 in
theorem Shr (n a : Nat) : LF Tryz.prog 56 [wV n, wV a] (fun _ => wV (a % M256 / 2 ^ (n % M256))) none := by
  rw [← wV_mod a]
  have ha : a % M256 < 2 ^ 256 := by rw [← M256_two]; exact mlt a
  have hln := limbs_len n
  have hla := limbs_len (a % M256)
  rcases Nat.lt_or_ge (n % M256) 256 with h | h
  · have c1 := farF h
    obtain ⟨e, hk⟩ := split64 h
    have hs : (limbs n).getD 0 default % 64 < 64 := Nat.mod_lt _ (by decide)
    have hn0 := limbs_lt n 0
    rw [e]
    clear e h
    generalize a % M256 = a at *
    have hend := shr_end a ((limbs n).getD 0 default / 64) _ hs ha hk
    have hone := fun i hi h3 L hL => shr_one a ((limbs n).getD 0 default / 64) _ i hs ha hi h3 L hL
    have hor := fun i h3 L hL X hX => shr_or a ((limbs n).getD 0 default / 64) _ i hs ha h3 L hL X hX
    generalize a / 2 ^ (64 * ((limbs n).getD 0 default / 64) + (limbs n).getD 0 default % 64) = R at *
    refine LFx.mk' tt Tryz.func56 rfl rfl rfl (by kernel_rfl) rfl rfl fun F => ?_
    refine wk ?_ trueW trueW
    refine LC.loop2 (fun i L => [(3, .p 3 0), (4, .p 4 0), (5, .p 5 0), (6, .k (.int .i64 ((((limbs n).getD 0 default / 64) : Nat) : Int))), (7, uK ((limbs n).getD 0 default % 64)), (8, .k (.int .i64 ((i : Nat) : Int)))]) (fun i L => [(3, .b ((limbs a).map uK)), (4, .b ((List.replicate 4 0).map uK)), (5, .b (L.map uK))]) (fun i L => i + (limbs n).getD 0 default / 64 ≤ 4 ∧ L = bit4 (limb R) i) ((4 - ·)) (0) ((List.replicate 4 0)) ⟨by omega, rfl⟩ ⟨rfl, rfl, rfl, rfl, rfl, rfl, trivial⟩ ⟨rfl, rfl, rfl, trivial⟩ rfl rfW rfW ?_
    rintro i L ⟨hki, hL⟩
    have hb := bit4_len (limb R) i
    rw [← hL] at hb
    rcases Nat.lt_or_ge (i + (limbs n).getD 0 default / 64) 4 with h | h
    · have l1 := limbs_lt a (i + (limbs n).getD 0 default / 64)
      have l2 := limbs_lt a (i + (limbs n).getD 0 default / 64 + 1)
      generalize hkk : (limbs n).getD 0 default / 64 = k at *
      generalize hss : (limbs n).getD 0 default % 64 = s at *
      generalize hX : (limbs a).getD (i + k) default / 2 ^ s = X at *
      have hXl : X < 18446744073709551616 := by rw [← hX]; exact Nat.lt_of_le_of_lt (Nat.div_le_self _ _) l1
      rcases Nat.lt_or_ge (i + k) 3 with h2 | h2
      · have hg : (L.set i X).getD i default = X := tgetD_set (by omega)
        have hok : i + 1 + k ≤ 4 ∧ (L.set i X).set i ((L.set i X).getD i default ||| (limbs a).getD (i + k + 1) default * 2 ^ (64 - s) % 2 ^ 64) = bit4 (limb R) (i + 1) := ⟨by omega, by rw [hg]; exact hor i h2 L hL X hX.symm⟩
        have hgl : (L.set i X).getD i default < 18446744073709551616 := by rw [hg]; exact hXl
        have hdl : (limbs a).getD (i + k + 1) default * 2 ^ (64 - s) % 2 ^ 64 < 18446744073709551616 := Nat.mod_lt _ (by decide)
        clear hL hone hor hend hg
        subst hX
        exact wk trueW trueW trueW
      · have hok : i + 1 + k ≤ 4 ∧ L.set i X = bit4 (limb R) (i + 1) := ⟨by omega, by have := hone i h (by omega) L hL; rw [hX] at this; exact this⟩
        clear hL hone hor hend
        subst hX
        exact wk trueW trueW trueW
    · have hv1 : V.a (L.map uK) = wV R := by
        have hi4 : i = 4 - (limbs n).getD 0 default / 64 := by omega
        show V.a (L.map uK) = V.a ((limbs R).map uK)
        rw [hL, hi4, hend]
      clear hL hone hor hend
      exact wk trueW trueW trueW
  · rw [shr_far (a := a) h]
    have c1 := farT h
    have hv1 : V.a ((List.replicate 4 0).map uK) = wV 0 := congrArg (fun l => V.a (List.map uK l)) (show List.replicate 4 0 = limbs 0 from by unfold limbs; decide)
    refine LFx.mk' tt Tryz.func56 rfl rfl rfl (by kernel_rfl) rfl rfl fun F => ?_
    exact wk trueW trueW trueW
end Tw
end Lf
open Go.RowKit Rg Wm Ar
set_option linter.unusedVariables false
set_option maxRecDepth 100000
namespace Lf
theorem sgn_cases (a : Nat) : (2 ^ 255 ≤ a % M256 ∧ sgn a = true) ∨ (a % M256 < 2 ^ 255 ∧ sgn a = false) := by
 unfold sgn
 rcases Nat.lt_or_ge (a % M256) (2 ^ 255) with h | h
 ·exact .inr ⟨h, decide_eq_false (Nat.not_le_of_lt h)⟩
 ·exact .inl ⟨h, decide_eq_true h⟩
theorem limbs0 : limbs 0 = [0, 0, 0, 0] := by unfold limbs; decide
namespace Tw
set_option maxHeartbeats 1000000 in
theorem Sar (n a : Nat) : LF Tryz.prog 39 [wV n, wV a] (fun _ => wV (sarW n a)) none := by
 have hln := limbs_len n
 have hla := limbs_len a
 have c1 := Not 0
 simp only [wV, limbs0, List.map_cons, List.map_nil] at c1
 have c2 := Shr n a
 have c3 := Wo.IntW 256 (by unfold m64; decide)
 have c4 := Wo.Sub 256 n
 have c5 := Shl (dif 256 n) (notN 0)
 have c6 := Or (a % M256 / 2 ^ (n % M256)) (notN 0 * 2 ^ (dif 256 n % M256))
 unfold sarW
 have hl0 := limbs_len (notN 0)
 have hl2 := limbs_len (a % M256 / 2 ^ (n % M256) ||| notN 0 * 2 ^ (dif 256 n % M256))
 have hl3 := limbs_len (a % M256 / 2 ^ (n % M256))
 generalize notN 0 * 2 ^ (dif 256 n % M256) = X at *
 generalize notN 0 = O at *
 by_cases h : 2 ^ 255 ≤ a % M256
 ·have c7 := minusT h
  rw [if_pos h]
  generalize a % M256 / 2 ^ (n % M256) = Y at *
  by_cases h2 : 256 ≤ n % M256
  ·have c8 := farT h2
   rw [if_pos h2]
   clear h h2
   refine LFx.mk' tt Tryz.func39 rfl rfl rfl (by kernel_rfl) rfl rfl fun F => ?_
   exact wk trueW trueW trueW
  ·have c8 := farF (Nat.lt_of_not_le h2)
   rw [if_neg h2]
   clear h h2
   refine LFx.mk' tt Tryz.func39 rfl rfl rfl (by kernel_rfl) rfl rfl fun F => ?_
   exact wk trueW trueW trueW
 ·have c7 := minusF (Nat.lt_of_not_le h)
  rw [if_neg h]
  generalize a % M256 / 2 ^ (n % M256) = Y at *
  clear h
  refine LFx.mk' tt Tryz.func39 rfl rfl rfl (by kernel_rfl) rfl rfl fun F => ?_
  exact wk trueW trueW trueW
theorem size (a : Nat) : LF Tryz.prog 46 [wV a] (fun _ => wV (sizeW a)) none := by
 have hla := limbs_len a
 have c1 := Neg a
 have hl2 := limbs_len (dif 0 a)
 unfold sizeW
 by_cases h : 2 ^ 255 ≤ a % M256
 ·have c2 := minusT h
  rw [if_pos h]
  clear h
  generalize dif 0 a = X at *
  refine LFx.mk' tt Tryz.func46 rfl rfl rfl (by kernel_rfl) rfl rfl fun F => ?_
  exact wk trueW trueW trueW
 ·have c2 := minusF (Nat.lt_of_not_le h)
  rw [if_neg h]
  clear h
  refine LFx.mk' tt Tryz.func46 rfl rfl rfl (by kernel_rfl) rfl rfl fun F => ?_
  exact wk trueW trueW trueW
set_option maxHeartbeats 1000000 in
theorem SDivMod (a b : Nat) : LF Tryz.prog 27 [wV a, wV b] (fun _ => .t [wV (sqW a b), wV (srW a b)]) none := by
 have hla := limbs_len a
 have hlb := limbs_len b
 have c1 := size a
 have c2 := size b
 have c3 := Wo.DivMod (sizeW a) (sizeW b)
 have c4 := Neg (qW (sizeW a) (sizeW b))
 have c5 := Neg (rW (sizeW a) (sizeW b))
 unfold sqW srW
 generalize qW (sizeW a) (sizeW b) = Q at *
 generalize rW (sizeW a) (sizeW b) = R at *
 generalize sizeW a = A at *
 generalize sizeW b = B at *
 generalize dif 0 Q = NQ at *
 generalize dif 0 R = NR at *
 have q1 := limbs_len Q
 have q2 := limbs_len R
 have q3 := limbs_len NQ
 have q4 := limbs_len NR
 rcases sgn_cases a with ⟨ha, ea⟩ | ⟨ha, ea⟩ <;> rcases sgn_cases b with ⟨hb, eb⟩ | ⟨hb, eb⟩ <;> rw [ea, eb]
 ·rw [if_pos rfl, if_pos ha]
  have c6 := minusT ha
  have c7 := minusT hb
  clear ha hb ea eb
  refine LFx.mk' tt Tryz.func27 rfl rfl rfl (by kernel_rfl) rfl rfl fun F => ?_
  exact wk trueW trueW trueW
 ·rw [if_neg (by decide), if_pos ha]
  have c6 := minusT ha
  have c7 := minusF hb
  clear ha hb ea eb
  refine LFx.mk' tt Tryz.func27 rfl rfl rfl (by kernel_rfl) rfl rfl fun F => ?_
  exact wk trueW trueW trueW
 ·rw [if_neg (by decide), if_neg (Nat.not_le_of_lt ha)]
  have c6 := minusF ha
  have c7 := minusT hb
  clear ha hb ea eb
  refine LFx.mk' tt Tryz.func27 rfl rfl rfl (by kernel_rfl) rfl rfl fun F => ?_
  exact wk trueW trueW trueW
 ·rw [if_pos rfl, if_neg (Nat.not_le_of_lt ha)]
  have c6 := minusF ha
  have c7 := minusF hb
  clear ha hb ea eb
  refine LFx.mk' tt Tryz.func27 rfl rfl rfl (by kernel_rfl) rfl rfl fun F => ?_
  exact wk trueW trueW trueW
set_option maxHeartbeats 1000000 in
theorem SCmp (a b : Nat) : LF Tryz.prog 36 [wV a, wV b] (fun _ => .k (.int .i64 (scmp a b))) none := by
 have hla := limbs_len a
 have hlb := limbs_len b
 have c1 := Wo.Cmp a b
 have c2 := Wo.Cmp b a
 unfold scmp
 generalize Wd.cmp a b = X at *
 generalize Wd.cmp b a = Y at *
 rcases sgn_cases a with ⟨ha, ea⟩ | ⟨ha, ea⟩ <;> rcases sgn_cases b with ⟨hb, eb⟩ | ⟨hb, eb⟩ <;> rw [ea, eb]
 ·rw [if_pos rfl]
  have c6 := minusT ha
  have c7 := minusT hb
  clear ha hb ea eb
  refine LFx.mk' tt Tryz.func36 rfl rfl rfl (by kernel_rfl) rfl rfl fun F => ?_
  exact wk trueW trueW trueW
 ·rw [if_neg (by decide)]
  have c6 := minusT ha
  have c7 := minusF hb
  clear ha hb ea eb
  refine LFx.mk' tt Tryz.func36 rfl rfl rfl (by kernel_rfl) rfl rfl fun F => ?_
  exact wk trueW trueW trueW
 ·rw [if_neg (by decide)]
  have c6 := minusF ha
  have c7 := minusT hb
  clear ha hb ea eb
  refine LFx.mk' tt Tryz.func36 rfl rfl rfl (by kernel_rfl) rfl rfl fun F => ?_
  exact wk trueW trueW trueW
 ·rw [if_pos rfl]
  have c6 := minusF ha
  have c7 := minusF hb
  clear ha hb ea eb
  refine LFx.mk' tt Tryz.func36 rfl rfl rfl (by kernel_rfl) rfl rfl fun F => ?_
  exact wk trueW trueW trueW
theorem limb0s (x : Nat) (h : x % M256 < 256) : (limbs x).getD 0 default = x % M256 := by rw [limbs_get x (by decide), near_eq h]
theorem m31 : 31 % M256 = 31 := by decide +kernel
set_option maxHeartbeats 1000000 in
theorem Extend (k a : Nat) : LF Tryz.prog 34 [wV k, wV a] (fun _ => wV (extW k a)) none := by
  have hlk := limbs_len k
  have hla := limbs_len a
  have c1 := Wo.IntW 31 (by unfold m64; decide)
  have c2 := Wo.Cmp k 31
  unfold extW
  by_cases h : 31 ≤ k % M256
  · have hc : 0 ≤ Wd.cmp k 31 := by
      have h2 : ¬ Wd.cmp k 31 < 0 := fun e => by have := cmp_lt.1 e; rw [m31] at this; omega
      omega
    rw [if_pos h]
    clear h
    generalize Wd.cmp k 31 = X at *
    refine LFx.mk' tt Tryz.func34 rfl rfl rfl (by kernel_rfl) rfl rfl fun F => ?_
    exact wk trueW trueW trueW
  · have hc : Wd.cmp k 31 < 0 := cmp_lt.2 (by rw [m31]; omega)
    rw [if_neg h]
    have e := limb0s k (by omega)
    have hk : (limbs k).getD 0 default < 31 := by omega
    rw [← e]
    clear h e
    have c3 := Wo.IntW (8 * (31 - (limbs k).getD 0 default)) (by unfold m64; omega)
    have c4 := Shl (8 * (31 - (limbs k).getD 0 default)) a
    have c5 := Sar (8 * (31 - (limbs k).getD 0 default)) (a * 2 ^ (8 * (31 - (limbs k).getD 0 default) % M256))
    have hl1 := limbs_len (sarW (8 * (31 - (limbs k).getD 0 default)) (a * 2 ^ (8 * (31 - (limbs k).getD 0 default) % M256)))
    have hl2 := limbs_len (a * 2 ^ (8 * (31 - (limbs k).getD 0 default) % M256))
    have hl3 := limbs_len (8 * (31 - (limbs k).getD 0 default))
    generalize Wd.cmp k 31 = X at *
    generalize sarW (8 * (31 - (limbs k).getD 0 default)) (a * 2 ^ (8 * (31 - (limbs k).getD 0 default) % M256)) = Y at *
    generalize a * 2 ^ (8 * (31 - (limbs k).getD 0 default) % M256) = Z at *
    refine LFx.mk' tt Tryz.func34 rfl rfl rfl (by kernel_rfl) rfl rfl fun F => ?_
    exact wk trueW trueW trueW
set_option maxHeartbeats 1000000 in
theorem Byte (i a : Nat) : LF Tryz.prog 106 [wV i, wV a] (fun _ => wV (byteW i a)) none := by
 have hli := limbs_len i
 have hla := limbs_len a
 have c1 := Wo.IntW 31 (by unfold m64; decide)
 have c2 := Wo.Cmp i 31
 unfold byteW
 by_cases h : 31 < i % M256
 ·have hc : Wd.cmp i 31 > 0 := cmp_gt.2 (by rw [m31]; exact h)
  rw [if_pos h]
  have hv1 : V.a ((List.replicate 4 0).map uK) = wV 0 := congrArg (fun l => V.a (List.map uK l)) (show List.replicate 4 0 = limbs 0 from by unfold limbs; decide)
  clear h
  generalize Wd.cmp i 31 = X at *
  refine LFx.mk' tt Tryz.func106 rfl rfl rfl (by kernel_rfl) rfl rfl fun F => ?_
  exact wk trueW trueW trueW
 ·have hc : ¬ Wd.cmp i 31 > 0 := fun e => h (by have := cmp_gt.1 e; rw [m31] at this; exact this)
  rw [if_neg h]
  have e := limb0s i (by omega)
  have hk : (limbs i).getD 0 default < 32 := by omega
  rw [← e]
  clear h e
  have hw := wordB_len a
  have c3 := Wo.Bytes a
  have hbl := ((wordB a).getD ((limbs i).getD 0 default) default).toNat_lt
  have c4 := Wo.IntW ((wordB a).getD ((limbs i).getD 0 default) default).toNat (by unfold m64; omega)
  have hl1 := limbs_len ((wordB a).getD ((limbs i).getD 0 default) default).toNat
  generalize Wd.cmp i 31 = X at *
  refine LFx.mk' tt Tryz.func106 rfl rfl rfl (by kernel_rfl) rfl rfl fun F => ?_
  exact wk trueW trueW trueW
end Tw
end Lf
end Go.Proofs.YtffaobngpbaklaaGreatDoor

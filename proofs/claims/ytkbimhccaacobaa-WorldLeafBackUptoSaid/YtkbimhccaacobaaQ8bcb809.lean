/- A part of the proof: texts joined. -/
import Derived.Test.YtkbimhccaacobaaQ7bcd7a9
namespace Go.Proofs.Ytkbimhccaacobaa
open Go.RowKit Rg Wm Ar
set_option linter.unusedVariables false
set_option maxRecDepth 100000
namespace Lf
open Tr Ro
namespace Te
set_option maxHeartbeats 1000000 in
theorem wrongB_ (p : List UInt8) (hp : p.length < 1000000000) : LF Try.prog 100 [bV p] (fun _ => .k (.bool (!halvesB p))) none := by
  refine LFx.mk' tt Try.func100 rfl rfl rfl (by kernel_rfl) rfl rfl fun F => ?_
  refine wk ?_ trueW trueW
  refine LC.loopN (fun i => [(5, bV p), (6, .k (.int .i64 ((p.length : Nat) : Int))), (7, .k (.int .i64 ((i : Nat) : Int)))]) (fun i => []) (fun i => i ≤ p.length ∧ ∀ j, j < i → (p.getD j default).toNat ≤ 15) ((p.length - ·)) (0) ⟨by omega, fun j hj => by omega⟩ ⟨rfl, rfl, rfl, trivial⟩ trivial rfl rfW rfW ?_
  rintro i ⟨hi, hall⟩
  rcases Nat.lt_or_ge i p.length with h | h
  · by_cases hb : (p.getD i default).toNat ≤ 15
    · have hok : i + 1 ≤ p.length ∧ ∀ j, j < i + 1 → (p.getD j default).toNat ≤ 15 := ⟨h, fun j hj => by
        by_cases e : j = i
        · subst e; exact hb
        · exact hall j (by omega)⟩
      clear hall
      exact wk trueW trueW trueW
    · have hF : halvesB p = false := by
        rw [← Bool.not_eq_true]
        exact fun hh => hb (of_decide_eq_true (getD_lt hh h))
      rw [hF, Bool.not_false]
      clear hall hF
      exact wk trueW trueW trueW
  · obtain rfl : i = p.length := by omega
    have hT : halvesB p = true := all_getD fun i hi => decide_eq_true (hall i hi)
    rw [hT, Bool.not_true]
    clear hall hT
    exact wk trueW trueW trueW
set_option maxHeartbeats 1000000 in
theorem Tag_no (p : List UInt8) (leaf : Bool) (hp : p.length < 1000000000) (h : halvesB p = false) : LF Try.prog 85 [bV p, .k (.bool leaf)] (fun _ => .t [bV [], .k (.int .i64 1)]) none := by
 have c1 := wrongB_ p hp
 rw [h, Bool.not_false] at c1
 clear h
 refine LFx.mk' tt Try.func85 rfl rfl rfl (by kernel_rfl) rfl rfl fun F => ?_
 exact wk trueW trueW trueW
theorem or2_0 : IntKind.u8.wrap (((BitVec.ofInt IntKind.u8.bits ((0 : Nat) : Int) ||| BitVec.ofInt IntKind.u8.bits 2).toNat : Nat) : Int) = ((UInt8.ofNat 2).toNat : Int) := by decide
theorem or2_1 : IntKind.u8.wrap (((BitVec.ofInt IntKind.u8.bits ((1 : Nat) : Int) ||| BitVec.ofInt IntKind.u8.bits 2).toNat : Nat) : Int) = ((UInt8.ofNat 3).toNat : Int) := by decide
theorem tag_head (p : Pa) (leaf : Bool) : pB (tagPa p leaf) = UInt8.ofNat (p.length % 2 + (if leaf then 2 else 0)) :: (if p.length % 2 = 0 then [UInt8.ofNat 0] ++ pB p else pB p) := by
 unfold tagPa
 split <;> rfl
set_option maxHeartbeats 1000000 in
theorem Tag_ (p : Pa) (leaf : Bool) (hp : p.length < 100000000) : LF Try.prog 85 [bV (pB p), .k (.bool leaf)] (fun _ => .t [bV (tag p leaf), .k (.int .i64 0)]) none := by
  have hpl := pB_len p
  have c1 := wrong_ p (by omega)
  have c2 := Join_ (tagPa p leaf) (by have := tagPa_len p leaf; omega) (tagPa_even p leaf)
  rw [show keyB (tagPa p leaf) = tag p leaf from rfl, tag_head] at c2
  have o0 := or2_0
  have o1 := or2_1
  generalize tag p leaf = T at *
  rcases Nat.mod_two_eq_zero_or_one p.length with h | h
  · have ht : ((pB p).length : Int).tmod 2 = ((0 : Nat) : Int) := by
      show (((pB p).length % 2 : Nat) : Int) = ((0 : Nat) : Int)
      omega
    rw [if_pos h, h] at c2
    cases leaf
    · replace c2 : LF Try.prog 67 [.s none ([.k (.int .u8 ((0 : Nat) : Int))] ++ [.k (.int .u8 0)] ++ (pB p).map bK)] (fun _ => .t [bV T, .k (.int .i64 0)]) none := c2
      refine LFx.mk' tt Try.func85 rfl rfl rfl (by kernel_rfl) rfl rfl fun F => ?_
      exact wk trueW trueW trueW
    · replace c2 : LF Try.prog 67 [.s none ([bK (UInt8.ofNat 2)] ++ [.k (.int .u8 0)] ++ (pB p).map bK)] (fun _ => .t [bV T, .k (.int .i64 0)]) none := c2
      refine LFx.mk' tt Try.func85 rfl rfl rfl (by kernel_rfl) rfl rfl fun F => ?_
      exact wk trueW trueW trueW
  · have ht : ((pB p).length : Int).tmod 2 = ((1 : Nat) : Int) := by
      show (((pB p).length % 2 : Nat) : Int) = ((1 : Nat) : Int)
      omega
    rw [h, if_neg (show ¬ (1 : Nat) = 0 by decide)] at c2
    cases leaf
    · replace c2 : LF Try.prog 67 [.s none ([.k (.int .u8 ((1 : Nat) : Int))] ++ (pB p).map bK)] (fun _ => .t [bV T, .k (.int .i64 0)]) none := c2
      refine LFx.mk' tt Try.func85 rfl rfl rfl (by kernel_rfl) rfl rfl fun F => ?_
      exact wk trueW trueW trueW
    · replace c2 : LF Try.prog 67 [.s none ([bK (UInt8.ofNat 3)] ++ (pB p).map bK)] (fun _ => .t [bV T, .k (.int .i64 0)]) none := c2
      refine LFx.mk' tt Try.func85 rfl rfl rfl (by kernel_rfl) rfl rfl fun F => ?_
      exact wk trueW trueW trueW
end Te
end Lf
open Go.RowKit Rg Wm Ar
set_option linter.unusedVariables false
set_option maxRecDepth 100000
namespace Lf
open Tr Ro
namespace Te
set_option maxHeartbeats 1000000 in
theorem Untag_in (b L : List UInt8) (x : Nat) (hx : x < 16) (hb : b.length < 1000000000) (hl : 2 ≤ L.length) (hm : L.length < 4000000000) (c1 : LF Try.prog 60 [bV b] (fun _ => bV L) none) (f0 : ((L.getD 0 default).toNat : Int) = ((x : Nat) : Int)) (f1 : ((L.getD 0 default &&& UInt8.ofNat 1).toNat : Int) = ((x % 2 : Nat) : Int)) (f2 : ((L.getD 0 default &&& UInt8.ofNat 2).toNat : Int) = ((x / 2 % 2 * 2 : Nat) : Int)) :
  (3 < x → LF Try.prog 90 [bV b] (fun _ => .t [bV [], .k (.bool false), .k (.int .i64 1)]) none) ∧
  (x ≤ 3 → x % 2 = 0 → (L.getD 1 default).toNat ≠ 0 → LF Try.prog 90 [bV b] (fun _ => .t [bV [], .k (.bool false), .k (.int .i64 1)]) none) ∧
  (x ≤ 3 → x % 2 = 0 → (L.getD 1 default).toNat = 0 → LF Try.prog 90 [bV b] (fun _ => .t [bV (L.drop 2), .k (.bool (decide (2 ≤ x))), .k (.int .i64 0)]) none) ∧
  (x ≤ 3 → x % 2 = 1 → LF Try.prog 90 [bV b] (fun _ => .t [bV (L.drop 1), .k (.bool (decide (2 ≤ x))), .k (.int .i64 0)]) none) := by
 refine ⟨fun h1 => ?_, fun h1 h2 h3 => ?_, fun h1 h2 h3 => ?_, fun h1 h2 => ?_⟩
 ·refine LFx.mk' tt Try.func90 rfl rfl rfl (by kernel_rfl) rfl rfl fun F => ?_
  exact wk trueW trueW trueW
 ·refine LFx.mk' tt Try.func90 rfl rfl rfl (by kernel_rfl) rfl rfl fun F => ?_
  exact wk trueW trueW trueW
 ·by_cases h4 : 2 ≤ x
  ·rw [decide_eq_true h4]
   refine LFx.mk' tt Try.func90 rfl rfl rfl (by kernel_rfl) rfl rfl fun F => ?_
   exact wk trueW trueW trueW
  ·rw [decide_eq_false h4]
   refine LFx.mk' tt Try.func90 rfl rfl rfl (by kernel_rfl) rfl rfl fun F => ?_
   exact wk trueW trueW trueW
 ·by_cases h4 : 2 ≤ x
  ·rw [decide_eq_true h4]
   refine LFx.mk' tt Try.func90 rfl rfl rfl (by kernel_rfl) rfl rfl fun F => ?_
   exact wk trueW trueW trueW
  ·rw [decide_eq_false h4]
   refine LFx.mk' tt Try.func90 rfl rfl rfl (by kernel_rfl) rfl rfl fun F => ?_
   exact wk trueW trueW trueW
set_option maxHeartbeats 1000000 in
theorem Untag_nil : LF Try.prog 90 [bV []] (fun _ => .t [bV [], .k (.bool false), .k (.int .i64 1)]) none := by
 have c1 := Halves_ [] (by decide)
 rw [show pB (keyP []) = [] from rfl] at c1
 refine LFx.mk' tt Try.func90 rfl rfl rfl (by kernel_rfl) rfl rfl fun F => ?_
 exact wk trueW trueW trueW
theorem half_and (x : Fin 16) : ((UInt8.ofNat x.val &&& UInt8.ofNat 1).toNat : Int) = ((x.val % 2 : Nat) : Int) ∧ ((UInt8.ofNat x.val &&& UInt8.ofNat 2).toNat : Int) = ((x.val / 2 % 2 * 2 : Nat) : Int) := by
 have h : ∀ x : Fin 16, (UInt8.ofNat x.val &&& UInt8.ofNat 1).toNat = x.val % 2 ∧ (UInt8.ofNat x.val &&& UInt8.ofNat 2).toNat = x.val / 2 % 2 * 2 := by decide
 exact ⟨congrArg Int.ofNat (h x).1, congrArg Int.ofNat (h x).2⟩
theorem Untag_ (b : List UInt8) (hb : b.length < 1000000000) : (untag b = none → LF Try.prog 90 [bV b] (fun _ => .t [bV [], .k (.bool false), .k (.int .i64 1)]) none) ∧
  ∀ q leaf, untag b = some (q, leaf) → LF Try.prog 90 [bV b] (fun _ => .t [bV (pB q), .k (.bool leaf), .k (.int .i64 0)]) none := by
 have c1 := Halves_ b hb
 have hlen := keyP_len b
 unfold untag
 cases b with
 | nil => exact ⟨fun _ => Untag_nil, fun q leaf h => (by cases h)⟩
 | cons a r =>
  match hk : keyP (a :: r), hlen with
  | [], hlen => simp at hlen
  | [_], hlen => simp at hlen; omega
  | x :: y :: s, hlen =>
   rw [hk] at c1
   obtain ⟨g1, g2⟩ := half_and x
   have hg0 : ((pB (x :: y :: s)).getD 0 default).toNat = x.val := half_byte x
   have hg1 : ((pB (x :: y :: s)).getD 1 default).toNat = y.val := half_byte y
   obtain ⟨u1, u2, u3, u4⟩ := Untag_in (a :: r) (pB (x :: y :: s)) x.val x.isLt hb (by rw [pB_len]; simp) (by rw [pB_len, hlen]; omega) c1 (by rw [hg0]) g1 g2
   rw [untagPa_cons]
   by_cases h3 : 3 < x.val
   ·rw [if_pos h3]; exact ⟨fun _ => u1 h3, fun q leaf h => (by cases h)⟩
   ·rw [if_neg h3]
    by_cases h4 : x.val % 2 = 0
    ·rw [if_pos h4]
     by_cases h5 : y.val = 0
     ·rw [if_pos h5]; exact ⟨fun h => (by cases h), fun q leaf h => (by cases h; exact u3 (by omega) h4 (by rw [hg1, h5]))⟩
     ·rw [if_neg h5]; exact ⟨fun _ => u2 (by omega) h4 (by rw [hg1]; exact h5), fun q leaf h => (by cases h)⟩
    ·rw [if_neg h4]; exact ⟨fun h => (by cases h), fun q leaf h => (by cases h; exact u4 (by omega) (by omega))⟩
end Te
end Lf
end Go.Proofs.Ytkbimhccaacobaa

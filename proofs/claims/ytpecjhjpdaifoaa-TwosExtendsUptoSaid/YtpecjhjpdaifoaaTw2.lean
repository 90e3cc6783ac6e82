/- The bits of words: the functions. -/
import Derived.Test.YtpecjhjpdaifoaaTwT
namespace Go.Proofs.Ytpecjhjpdaifoaa
open Go.RowKit Rg Wm Ar
namespace Lf
theorem inv_u64 {a : Nat} (h : a < 18446744073709551616) : IntKind.u64.wrap ((BitVec.ofInt IntKind.u64.bits (if IntKind.u64.signed then -1 else IntKind.u64.max) ^^^ BitVec.ofInt IntKind.u64.bits (a : Int)).toNat : Nat) = ((18446744073709551615 - a : Nat) : Int) := by
  have e : (if IntKind.u64.signed then (-1 : Int) else IntKind.u64.max) = ((18446744073709551615 : Nat) : Int) := rfl
  rw [e, xor_u64 (by omega) h]
  congr 1
  refine Nat.eq_of_testBit_eq fun j => ?_
  rw [Nat.testBit_xor, not64 h]
  have : (18446744073709551615 : Nat) = 2 ^ 64 - 1 := by decide
  rw [this, Nat.testBit_two_pow_sub_one]
  by_cases hj : j < 64
  · simp [hj]
  · have : a.testBit j = false := Nat.testBit_lt_two_pow (Nat.lt_of_lt_of_le h (by rw [show 18446744073709551616 = 2 ^ 64 by decide]; exact Nat.pow_le_pow_right (by decide) (by omega)))
    simp [hj, this]
namespace Tw
theorem not1 (x y : Nat) (hx : x < m64) (_ : y < m64) : LF Try.prog 40 [u64K x, u64K y] (fun _ => u64K (18446744073709551615 - x)) none := by
  refine LFx.mk' tt Try.func40 rfl rfl rfl (by kernel_rfl) rfl rfl fun F => ?_
  have hi : IntKind.u64.wrap ((BitVec.ofInt IntKind.u64.bits (if IntKind.u64.signed then -1 else IntKind.u64.max) ^^^ BitVec.ofInt IntKind.u64.bits (x : _root_.Int)).toNat : Nat) = ((18446744073709551615 - x : Nat) : _root_.Int) := inv_u64 hx
  exact walkT
theorem and1 (x y : Nat) (hx : x < m64) (hy : y < m64) : LF Try.prog 41 [u64K x, u64K y] (fun _ => u64K (x &&& y)) none := by
  refine LFx.mk' tt Try.func41 rfl rfl rfl (by kernel_rfl) rfl rfl fun F => ?_
  exact walkT
theorem or1 (x y : Nat) (hx : x < m64) (hy : y < m64) : LF Try.prog 42 [u64K x, u64K y] (fun _ => u64K (x ||| y)) none := by
  refine LFx.mk' tt Try.func42 rfl rfl rfl (by kernel_rfl) rfl rfl fun F => ?_
  exact walkT
theorem xor1 (x y : Nat) (hx : x < m64) (hy : y < m64) : LF Try.prog 43 [u64K x, u64K y] (fun _ => u64K (x ^^^ y)) none := by
  refine LFx.mk' tt Try.func43 rfl rfl rfl (by kernel_rfl) rfl rfl fun F => ?_
  exact walkT
set_option maxHeartbeats 1000000 in
theorem each (fx : Nat) (op : Nat → Nat → Nat) (hop : ∀ x y, x < m64 → y < m64 → LF Try.prog fx [u64K x, u64K y] (fun _ => u64K (op x y)) none) (x y : Nat) :
    LF Try.prog 39 [wordV x, wordV y, .f (.func fx) [] []] (fun _ => .a [u64K (op (limb x 0) (limb y 0)), u64K (op (limb x 1) (limb y 1)), u64K (op (limb x 2) (limb y 2)), u64K (op (limb x 3) (limb y 3))]) none := by
  refine LFx.mk' tt Try.func39 rfl rfl rfl (by kernel_rfl) rfl rfl fun F => ?_
  exact walkE
theorem eachAnd (x y : Nat) : LF Try.prog 39 [wordV x, wordV y, .f (.func 41) [] []] (fun _ => wordV (x &&& y)) none := by
  have := each _ _ and1 x y
  rw [← limb_and, ← limb_and, ← limb_and, ← limb_and] at this
  exact this
theorem eachOr (x y : Nat) : LF Try.prog 39 [wordV x, wordV y, .f (.func 42) [] []] (fun _ => wordV (x ||| y)) none := by
  have := each _ _ or1 x y
  rw [← limb_or, ← limb_or, ← limb_or, ← limb_or] at this
  exact this
theorem eachXor (x y : Nat) : LF Try.prog 39 [wordV x, wordV y, .f (.func 43) [] []] (fun _ => wordV (x ^^^ y)) none := by
  have := each _ _ xor1 x y
  rw [← limb_xor, ← limb_xor, ← limb_xor, ← limb_xor] at this
  exact this
theorem eachNot (x y : Nat) : LF Try.prog 39 [wordV x, wordV y, .f (.func 40) [] []] (fun _ => wordV (notN x)) none := by
  have := each _ _ not1 x y
  rw [← limb_not x 0 (by decide), ← limb_not x 1 (by decide), ← limb_not x 2 (by decide), ← limb_not x 3 (by decide)] at this
  exact this
theorem And (x y : Nat) : LF Try.prog 15 [wordV x, wordV y] (fun _ => wordV (x &&& y)) none := by
  refine LFx.mk' tt Try.func15 rfl rfl rfl (by kernel_rfl) rfl rfl fun F => ?_
  exact walkT
theorem Or (x y : Nat) : LF Try.prog 16 [wordV x, wordV y] (fun _ => wordV (x ||| y)) none := by
  refine LFx.mk' tt Try.func16 rfl rfl rfl (by kernel_rfl) rfl rfl fun F => ?_
  exact walkT
theorem Xor (x y : Nat) : LF Try.prog 17 [wordV x, wordV y] (fun _ => wordV (x ^^^ y)) none := by
  refine LFx.mk' tt Try.func17 rfl rfl rfl (by kernel_rfl) rfl rfl fun F => ?_
  exact walkT
theorem Not (x : Nat) : LF Try.prog 14 [wordV x] (fun _ => wordV (notN x)) none := by
  refine LFx.mk' tt Try.func14 rfl rfl rfl (by kernel_rfl) rfl rfl fun F => ?_
  exact walkT
theorem Neg (x : Nat) : LF Try.prog 31 [wordV x] (fun _ => wordV (dif 0 x)) none := by
  refine LFx.mk' tt Try.func31 rfl rfl rfl (by kernel_rfl) rfl rfl fun F => ?_
  exact walkT
end Tw
end Lf
end Go.Proofs.Ytpecjhjpdaifoaa

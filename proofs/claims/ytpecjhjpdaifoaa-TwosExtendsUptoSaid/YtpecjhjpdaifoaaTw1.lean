/- The bits of words: no program in sight. -/
import Derived.Test.YtpecjhjpdaifoaaWMath
namespace Go.Proofs.Ytpecjhjpdaifoaa
open Go.RowKit Rg Wm Ar
namespace Lf
theorem m64_two : m64 = 2 ^ 64 := by unfold m64; decide
theorem M256_two : M256 = 2 ^ 256 := by unfold M256 m64; decide
theorem limb_two (x i : Nat) : limb x i = x / 2 ^ (64 * i) % 2 ^ 64 := by
  unfold limb; rw [m64_two, ← Nat.pow_mul]
theorem bit_limb (x i j : Nat) : (limb x i).testBit j = (decide (j < 64) && x.testBit (64 * i + j)) := by
  rw [limb_two, Nat.testBit_mod_two_pow, Nat.testBit_div_two_pow, Nat.add_comm j]
theorem limb_and (x y i : Nat) : limb (x &&& y) i = limb x i &&& limb y i := by
  simp only [limb_two, Nat.and_div_two_pow, Nat.and_mod_two_pow]
theorem limb_or (x y i : Nat) : limb (x ||| y) i = limb x i ||| limb y i := by
  simp only [limb_two, Nat.or_div_two_pow, Nat.or_mod_two_pow]
theorem limb_xor (x y i : Nat) : limb (x ^^^ y) i = limb x i ^^^ limb y i := by
  simp only [limb_two, Nat.xor_div_two_pow, Nat.xor_mod_two_pow]
/-- All bits turned. -/
def notN (x : Nat) : Nat := 2 ^ 256 - 1 - x % 2 ^ 256
theorem bit_not (x j : Nat) : (notN x).testBit j = (decide (j < 256) && !x.testBit j) := by
  have h : x % 2 ^ 256 < 2 ^ 256 := Nat.mod_lt _ (Nat.two_pow_pos _)
  unfold notN
  rw [Nat.sub_sub, Nat.add_comm 1, Nat.testBit_two_pow_sub_succ h, Nat.testBit_mod_two_pow]
  by_cases hj : j < 256 <;> simp [hj]
theorem not64 {x j : Nat} (h : x < 2 ^ 64) : (18446744073709551615 - x).testBit j = (decide (j < 64) && !x.testBit j) := by
  have e : 18446744073709551615 - x = 2 ^ 64 - (x + 1) := by omega
  rw [e, Nat.testBit_two_pow_sub_succ h]
theorem limb_not (x i : Nat) (hi : i < 4) : limb (notN x) i = 18446744073709551615 - limb x i := by
  refine Nat.eq_of_testBit_eq fun j => ?_
  have hl : limb x i < 2 ^ 64 := by rw [limb_two]; exact Nat.mod_lt _ (Nat.two_pow_pos _)
  rw [not64 hl, bit_limb, bit_limb, bit_not]
  by_cases hj : j < 64
  · have : 64 * i + j < 256 := by omega
    simp [hj, this]
  · simp [hj]
/-- Bits moved up, part by part. -/
theorem limb_shl (a k s i : Nat) (hs : s < 64) : limb (a * 2 ^ (64 * k + s)) i = if i < k then 0 else (limb a (i - k) * 2 ^ s % 2 ^ 64) ||| (if k < i then limb a (i - k - 1) / 2 ^ (64 - s) else 0) := by
  refine Nat.eq_of_testBit_eq fun j => ?_
  rw [bit_limb, Nat.testBit_mul_two_pow]
  by_cases hj : j < 64
  · by_cases hik : i < k
    · have : ¬ (64 * k + s ≤ 64 * i + j) := by omega
      simp [hik, this]
    · rw [if_neg hik, Nat.testBit_or, Nat.testBit_mod_two_pow, Nat.testBit_mul_two_pow, bit_limb]
      by_cases hsj : s ≤ j
      · have h1 : 64 * k + s ≤ 64 * i + j := by omega
        have h2 : j - s < 64 := by omega
        have e : 64 * i + j - (64 * k + s) = 64 * (i - k) + (j - s) := by omega
        have h3 : (if k < i then limb a (i - k - 1) / 2 ^ (64 - s) else 0).testBit j = false := by
          split
          · rw [Nat.testBit_div_two_pow, bit_limb]
            have : ¬ (j + (64 - s) < 64) := by omega
            simp [this]
          · simp
        rw [h3]
        simp [hj, h1, hsj, h2, e]
      · by_cases hki : k < i
        · rw [if_pos hki, Nat.testBit_div_two_pow, bit_limb]
          have h1 : 64 * k + s ≤ 64 * i + j := by omega
          have h2 : j + (64 - s) < 64 := by omega
          have e : 64 * i + j - (64 * k + s) = 64 * (i - k - 1) + (j + (64 - s)) := by omega
          simp [hj, h1, hsj, h2, e]
        · have h1 : ¬ (64 * k + s ≤ 64 * i + j) := by omega
          simp [hki, h1, hsj]
  · have h1 : (if i < k then 0 else (limb a (i - k) * 2 ^ s % 2 ^ 64) ||| (if k < i then limb a (i - k - 1) / 2 ^ (64 - s) else 0)).testBit j = false := by
      split
      · simp
      · rw [Nat.testBit_or, Nat.testBit_mod_two_pow]
        simp only [hj, decide_false, Bool.false_and, Bool.false_or]
        split
        · rw [Nat.testBit_div_two_pow, bit_limb]
          have : ¬ (j + (64 - s) < 64) := by omega
          simp [this]
        · simp
    rw [h1]
    simp [hj]
/-- Bits moved down. -/
theorem limb_shr (a k s i : Nat) (hs : s < 64) (ha : a < 2 ^ 256) : limb (a / 2 ^ (64 * k + s)) i = limb a (i + k) / 2 ^ s ||| (if i + k < 3 then limb a (i + k + 1) * 2 ^ (64 - s) % 2 ^ 64 else 0) := by
  refine Nat.eq_of_testBit_eq fun j => ?_
  have hz : ∀ t, 256 ≤ t → a.testBit t = false := fun t ht => Nat.testBit_lt_two_pow (Nat.lt_of_lt_of_le ha (Nat.pow_le_pow_right (by decide) ht))
  rw [bit_limb, Nat.testBit_div_two_pow, Nat.testBit_or, Nat.testBit_div_two_pow, bit_limb]
  by_cases hj : j < 64
  · by_cases hjs : j + s < 64
    · have e : 64 * i + j + (64 * k + s) = 64 * (i + k) + (j + s) := by omega
      have h3 : (if i + k < 3 then limb a (i + k + 1) * 2 ^ (64 - s) % 2 ^ 64 else 0).testBit j = false := by
        split
        · rw [Nat.testBit_mod_two_pow, Nat.testBit_mul_two_pow]
          have : ¬ (64 - s ≤ j) := by omega
          simp [this]
        · simp
      rw [h3]
      simp [hj, hjs, e]
    · have e : 64 * i + j + (64 * k + s) = 64 * (i + k + 1) + (j - (64 - s)) := by omega
      by_cases hik : i + k < 3
      · rw [if_pos hik, Nat.testBit_mod_two_pow, Nat.testBit_mul_two_pow, bit_limb]
        have h1 : 64 - s ≤ j := by omega
        have h2 : j - (64 - s) < 64 := by omega
        simp [hj, hjs, h1, h2, e]
      · rw [if_neg hik, e, hz _ (by omega)]
        simp [hjs]
  · have h3 : (if i + k < 3 then limb a (i + k + 1) * 2 ^ (64 - s) % 2 ^ 64 else 0).testBit j = false := by
      split
      · rw [Nat.testBit_mod_two_pow]
        simp [hj]
      · simp
    have : ¬ (j + s < 64) := by omega
    rw [h3]
    simp [hj, this]
theorem morgan (a b : Nat) : notN (a &&& b) % M256 = (notN a ||| notN b) % M256 ∧ notN (notN a) % M256 = a % M256 ∧ ((a ^^^ b) ^^^ b) % M256 = a % M256 := by
  rw [M256_two]
  refine ⟨Nat.eq_of_testBit_eq fun j => ?_, Nat.eq_of_testBit_eq fun j => ?_, by rw [Nat.xor_assoc, Nat.xor_self, Nat.xor_zero]⟩
  · simp only [Nat.testBit_mod_two_pow, bit_not, Nat.testBit_and, Nat.testBit_or]
    by_cases hj : j < 256 <;> cases a.testBit j <;> cases b.testBit j <;> simp [hj]
  · simp only [Nat.testBit_mod_two_pow, bit_not]
    by_cases hj : j < 256 <;> cases a.testBit j <;> simp [hj]
theorem add_bits (a b : Nat) : a + b = (a ^^^ b) + 2 * (a &&& b) := by
  induction a using Nat.strongRecOn generalizing b with
  | _ a ih =>
    by_cases h0 : a = 0
    · subst h0; simp
    · have h := ih (a / 2) (by omega) (b / 2)
      have x1 : (a ^^^ b) / 2 = a / 2 ^^^ b / 2 := Nat.xor_div_two
      have x2 : (a &&& b) / 2 = a / 2 &&& b / 2 := Nat.and_div_two
      have x3 : (a ^^^ b) % 2 = (a + b) % 2 := by
        have := @Nat.xor_mod_two_eq_one a b
        omega
      have x4 : (a &&& b) % 2 = 1 ↔ a % 2 = 1 ∧ b % 2 = 1 := Nat.and_mod_two_eq_one
      omega
theorem carry (a b : Nat) : (a + b) % M256 = ((a ^^^ b) + 2 * (a &&& b)) % M256 := by rw [← add_bits]
end Lf
end Go.Proofs.Ytpecjhjpdaifoaa

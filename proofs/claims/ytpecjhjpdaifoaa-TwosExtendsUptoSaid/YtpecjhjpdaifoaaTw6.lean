/- The arithmetic of the laws of moves. -/
import Derived.Test.YtpecjhjpdaifoaaTw4
namespace Go.Proofs.Ytpecjhjpdaifoaa
open Go.RowKit Rg Wm Ar
namespace Lf
theorem pow_near {n : Nat} (h : n < 256) : 2 ^ n < M256 := by
  rw [M256_two]; exact Nat.pow_lt_pow_right (by decide) h
theorem scale_q {a n : Nat} (h : n < 256) : qW a (2 ^ n) % M256 = a % M256 / 2 ^ n % M256 := by
  have h1 := pow_near h
  have h2 : 0 < 2 ^ n := Nat.two_pow_pos n
  unfold qW
  rw [Nat.mod_eq_of_lt h1, if_neg (by omega)]
theorem sgn_zero : sgn 0 = false := by decide +kernel
theorem zero_mod256 : 0 % M256 = 0 := Nat.zero_mod _
theorem scmp_neg (x : Nat) : scmp x 0 < 0 ↔ 2 ^ 255 ≤ x % M256 := by
  have hp : 0 < 2 ^ 255 := Nat.two_pow_pos _
  unfold scmp
  rw [sgn_zero]
  by_cases h : 2 ^ 255 ≤ x % M256
  · have e : sgn x = true := decide_eq_true h
    rw [e, if_neg (by decide)]
    refine ⟨fun _ => h, fun _ => ?_⟩
    have : Wd.cmp 0 x < 0 := cmp_lt0 (by rw [zero_mod256]; omega)
    exact this
  · have e : sgn x = false := decide_eq_false h
    rw [e, if_pos rfl]
    have : 0 ≤ Wd.cmp x 0 := cmp_ge0 (by rw [zero_mod256]; omega)
    exact ⟨fun h' => absurd h' (by omega), fun h' => absurd h' h⟩
theorem dif256 {n : Nat} (h : n % M256 ≤ 256) : dif 256 n % M256 = 256 - n % M256 := by
  have hb : 256 < M256 := by decide +kernel
  unfold dif
  generalize n % M256 = k at h
  rw [show 256 + (M256 - k) = (256 - k) + M256 from by omega, Nat.add_mod_right, Nat.mod_eq_of_lt (by omega)]
theorem notN0 : notN 0 = 2 ^ 256 - 1 := by decide +kernel
/-- Moved down with the sign: the quotient, and ones ahead of it. -/
theorem sar_neg {n a : Nat} (hn : n % M256 < 256) (ha : 2 ^ 255 ≤ a % M256) : sarW n a = a % M256 / 2 ^ (n % M256) + (2 ^ 256 - 1) * 2 ^ (256 - n % M256) := by
  unfold sarW
  rw [if_pos ha, if_neg (by omega), dif256 (by omega), notN0]
  have hA := mlt a
  generalize n % M256 = k at *
  generalize a % M256 = A at *
  have hlt : A / 2 ^ k < 2 ^ (256 - k) := by
    refine Nat.div_lt_of_lt_mul ?_
    rw [← Nat.pow_add, show k + (256 - k) = 256 from by omega, ← M256_two]
    exact hA
  rw [Nat.or_comm, Nat.mul_comm, ← Nat.two_pow_add_eq_or_of_lt hlt, Nat.add_comm, Nat.mul_comm]
theorem sar_mul {n a : Nat} (hn : n % M256 < 256) : ∃ j, sarW n a * 2 ^ (n % M256) = a % M256 / 2 ^ (n % M256) * 2 ^ (n % M256) + M256 * j := by
  by_cases ha : 2 ^ 255 ≤ a % M256
  · refine ⟨2 ^ 256 - 1, ?_⟩
    rw [sar_neg hn ha, Nat.add_mul]
    congr 1
    rw [Nat.mul_assoc, ← Nat.pow_add, show 256 - n % M256 + n % M256 = 256 from by omega, ← M256_two, Nat.mul_comm]
  · exact ⟨0, by unfold sarW; rw [if_neg ha, Nat.mul_zero, Nat.add_zero]⟩
theorem floor_rest {n a : Nat} (hn : n % M256 < 256) : dif a (sarW n a * 2 ^ (n % M256)) % M256 < 2 ^ (n % M256) % M256 := by
  obtain ⟨j, hj⟩ := sar_mul (a := a) hn
  rw [hj, Nat.mod_eq_of_lt (pow_near hn)]
  have hp : 0 < 2 ^ (n % M256) := Nat.two_pow_pos _
  have hA := mlt a
  have hd := Nat.div_add_mod (a % M256) (2 ^ (n % M256))
  have hm := Nat.mod_lt (a % M256) hp
  have hle : a % M256 / 2 ^ (n % M256) * 2 ^ (n % M256) ≤ a % M256 := Nat.div_mul_le_self _ _
  rw [Nat.mul_comm] at hd
  unfold dif
  rw [Nat.add_mul_mod_self_left]
  generalize a % M256 / 2 ^ (n % M256) * 2 ^ (n % M256) = Z at *
  generalize a % M256 % 2 ^ (n % M256) = R at *
  have e : (a + (M256 - Z % M256)) % M256 = R := by
    rw [Nat.mod_eq_of_lt (show Z < M256 by omega), Nat.add_mod]
    by_cases hz : Z = 0
    · subst hz
      rw [Nat.sub_zero, Nat.mod_self, Nat.add_zero, Nat.mod_mod]; omega
    · rw [Nat.mod_eq_of_lt (show M256 - Z < M256 by omega)]
      rw [show a % M256 + (M256 - Z) = R + M256 from by omega, Nat.add_mod_right, Nat.mod_eq_of_lt (by omega)]
  rw [e]; exact hm
theorem floor_sgn {n a : Nat} (hn : n % M256 < 255) : 2 ^ 255 ≤ sarW n a % M256 ↔ 2 ^ 255 ≤ a % M256 := by
  have hA := mlt a
  by_cases ha : 2 ^ 255 ≤ a % M256
  · refine ⟨fun _ => ha, fun _ => ?_⟩
    rw [sar_neg (by omega) ha]
    generalize n % M256 = k at *
    generalize a % M256 = A at *
    have hlt : A / 2 ^ k < 2 ^ (256 - k) := by
      refine Nat.div_lt_of_lt_mul ?_
      rw [← Nat.pow_add, show k + (256 - k) = 256 from by omega, ← M256_two]
      exact hA
    have hsum : A / 2 ^ k + (2 ^ 256 - 1) * 2 ^ (256 - k) = (A / 2 ^ k + (2 ^ 256 - 2 ^ (256 - k))) + M256 * (2 ^ (256 - k) - 1) := by
      rw [M256_two, Nat.sub_mul, Nat.mul_sub, Nat.mul_one, Nat.one_mul]
      have h1 : 2 ^ (256 - k) ≤ 2 ^ 256 := Nat.pow_le_pow_right (by decide) (by omega)
      have h2 : 2 ^ 256 ≤ 2 ^ 256 * 2 ^ (256 - k) := Nat.le_mul_of_pos_right _ (Nat.two_pow_pos _)
      omega
    rw [hsum, Nat.add_mul_mod_self_left]
    have h1 : 2 ^ (256 - k) ≤ 2 ^ 256 := Nat.pow_le_pow_right (by decide) (by omega)
    rw [Nat.mod_eq_of_lt (by rw [M256_two]; omega)]
    by_cases hk : k = 0
    · subst hk
      rw [Nat.pow_zero, Nat.div_one]; omega
    · have h3 : 2 ^ (256 - k) ≤ 2 ^ 255 := Nat.pow_le_pow_right (by decide) (by omega)
      have h4 : (2 : Nat) ^ 256 = 2 ^ 255 + 2 ^ 255 := by rw [← Nat.two_mul, ← Nat.pow_succ']
      generalize A / 2 ^ k = D at *
      omega
  · refine ⟨fun h => absurd h ?_, fun h => absurd h ha⟩
    unfold sarW
    rw [if_neg ha]
    have h1 := Nat.div_le_self (a % M256) (2 ^ (n % M256))
    rw [Nat.mod_eq_of_lt (by omega)]
    omega
theorem floor_far {n a : Nat} (hn : 255 ≤ n % M256) : sarW n a % M256 = 0 % M256 ∨ sarW n a % M256 = notN 0 % M256 := by
  have hA := mlt a
  by_cases ha : 2 ^ 255 ≤ a % M256
  · right
    by_cases hf : 256 ≤ n % M256
    · unfold sarW; rw [if_pos ha, if_pos hf]
    · rw [sar_neg (by omega) ha, show n % M256 = 255 from by omega, notN0]
      rw [M256_two] at *
      have h4 : (2 : Nat) ^ 256 = 2 ^ 255 + 2 ^ 255 := by decide
      have : a % 2 ^ 256 / 2 ^ 255 = 1 := by omega
      rw [this]
  · left
    unfold sarW
    rw [if_neg ha, Nat.div_eq_of_lt (Nat.lt_of_lt_of_le (Nat.lt_of_not_le ha) (Nat.pow_le_pow_right (by decide) hn))]
end Lf
end Go.Proofs.Ytpecjhjpdaifoaa

/- The arithmetic of sign extension. -/
import Derived.Test.YtpecjhjpdaifoaaTw6
import Derived.Test.YtpecjhjpdaifoaaWl4
namespace Go.Proofs.Ytpecjhjpdaifoaa
open Go.RowKit Rg Wm Ar
namespace Lf
/-- The last m bits with their sign ahead. -/
def exM (m x : Nat) : Nat := if 2 ^ (m - 1) ≤ x % 2 ^ m then x % 2 ^ m + (2 ^ 256 - 2 ^ m) else x % 2 ^ m
theorem pow_split {m : Nat} (h : 0 < m) : 2 ^ m = 2 ^ (m - 1) + 2 ^ (m - 1) := by
  rw [← Nat.two_mul, ← Nat.pow_succ']; congr 1; omega
theorem exM_idem {m n x : Nat} (hm : 0 < m) (hmn : m ≤ n) (hn : n ≤ 256) : exM n (exM m x) = exM m x := by
  have h1 := pow_split hm
  have h2 := pow_split (Nat.lt_of_lt_of_le hm hmn)
  have h3 : 2 ^ (m - 1) ≤ 2 ^ (n - 1) := Nat.pow_le_pow_right (by decide) (by omega)
  have h4 : 2 ^ n ≤ 2 ^ 256 := Nat.pow_le_pow_right (by decide) hn
  have h5 : 2 ^ 256 = 2 ^ n * 2 ^ (256 - n) := by rw [← Nat.pow_add]; congr 1; omega
  have hp : 0 < 2 ^ (m - 1) := Nat.two_pow_pos _
  have hq : 0 < 2 ^ (256 - n) := Nat.two_pow_pos _
  have hr := Nat.mod_lt x (show 0 < 2 ^ m by omega)
  unfold exM
  generalize x % 2 ^ m = r at *
  generalize 2 ^ (m - 1) = A at *
  by_cases hs : A ≤ r
  · rw [if_pos hs]
    have e : r + (2 ^ 256 - 2 ^ m) = (2 ^ n - (2 ^ m - r)) + 2 ^ n * (2 ^ (256 - n) - 1) := by
      have : 2 ^ n * (2 ^ (256 - n) - 1) = 2 ^ 256 - 2 ^ n := by rw [Nat.mul_sub, Nat.mul_one, ← h5]
      rw [this]
      omega
    have e2 : (r + (2 ^ 256 - 2 ^ m)) % 2 ^ n = 2 ^ n - (2 ^ m - r) := by
      rw [e, Nat.add_mul_mod_self_left, Nat.mod_eq_of_lt (by omega)]
    rw [e2, if_pos (by omega)]
    omega
  · rw [if_neg hs, Nat.mod_eq_of_lt (show r < 2 ^ n by omega), if_neg (by omega)]
theorem exM_lt {m x : Nat} (hm : 0 < m) (h : m ≤ 256) : exM m x < 2 ^ 256 := by
  have h4 : 2 ^ m ≤ 2 ^ 256 := Nat.pow_le_pow_right (by decide) h
  have hr := Nat.mod_lt x (Nat.two_pow_pos m)
  have h1 := pow_split hm
  unfold exM
  split <;> omega
theorem exM_byte {m x : Nat} (h8 : 8 ≤ m) (h : m ≤ 256) : exM m x % 256 = x % 256 := by
  have h1 : (256 : Nat) ∣ 2 ^ m := ⟨2 ^ (m - 8), by rw [show (256 : Nat) = 2 ^ 8 from rfl, ← Nat.pow_add]; congr 1; omega⟩
  have h2 : (256 : Nat) ∣ 2 ^ 256 - 2 ^ m := Nat.dvd_sub ⟨2 ^ 248, by decide⟩ h1
  have h3 : x % 2 ^ m % 256 = x % 256 := Nat.mod_mod_of_dvd _ h1
  unfold exM
  split
  · obtain ⟨c, hc⟩ := h2
    rw [hc, Nat.add_mul_mod_self_left, h3]
  · exact h3
def extM (k : Nat) : Nat := if 31 ≤ k % M256 then 256 else 8 * (k % M256 + 1)
theorem extW_eq (k a : Nat) : extW k a % M256 = exM (extM k) (a % M256) := by
  have hA := mlt a
  unfold extW extM
  split
  · have h1 : (2 : Nat) ^ 256 = 2 ^ 255 + 2 ^ 255 := by decide
    unfold exM
    rw [M256_two] at *
    rw [Nat.mod_mod]
    split <;> omega
  · rename_i hk
    generalize k % M256 = K at *
    have hs : 8 * (31 - K) % M256 = 8 * (31 - K) := Nat.mod_eq_of_lt (Nat.lt_of_le_of_lt (by omega) (show 256 < M256 by decide +kernel))
    rw [hs]
    have hm : 8 * (K + 1) = 256 - 8 * (31 - K) := by omega
    rw [hm]
    generalize hsg : 8 * (31 - K) = s at *
    have hs8 : 8 ≤ 256 - s := by omega
    have hpow : M256 = 2 ^ (256 - s) * 2 ^ s := by rw [M256_two, ← Nat.pow_add]; congr 1; omega
    have hmod : a * 2 ^ s % M256 = a % 2 ^ (256 - s) * 2 ^ s := by rw [hpow, Nat.mul_mod_mul_right]
    have hmm : a % M256 % 2 ^ (256 - s) = a % 2 ^ (256 - s) := Nat.mod_mod_of_dvd _ ⟨2 ^ s, hpow⟩
    have hps : 0 < 2 ^ s := Nat.two_pow_pos _
    have hr := Nat.mod_lt a (Nat.two_pow_pos (256 - s))
    have hh : (2 : Nat) ^ 255 = 2 ^ (256 - s - 1) * 2 ^ s := by rw [← Nat.pow_add]; congr 1; omega
    have hiff : 2 ^ 255 ≤ a * 2 ^ s % M256 ↔ 2 ^ (256 - s - 1) ≤ a % 2 ^ (256 - s) := by
      rw [hmod, hh]
      exact ⟨fun h => Nat.le_of_mul_le_mul_right h hps, fun h => Nat.mul_le_mul_right _ h⟩
    have hle : (2 : Nat) ^ (256 - s) ≤ 2 ^ 256 := Nat.pow_le_pow_right (by decide) (by omega)
    unfold exM
    rw [hmm]
    by_cases h : 2 ^ 255 ≤ a * 2 ^ s % M256
    · rw [sar_neg (by rw [hs]; omega) h, if_pos (hiff.1 h), hs, hmod, Nat.mul_div_cancel _ hps]
      have hsum : a % 2 ^ (256 - s) + (2 ^ 256 - 1) * 2 ^ (256 - s) = (a % 2 ^ (256 - s) + (2 ^ 256 - 2 ^ (256 - s))) + M256 * (2 ^ (256 - s) - 1) := by
        rw [M256_two, Nat.sub_mul, Nat.mul_sub, Nat.mul_one, Nat.one_mul]
        have h2 : 2 ^ 256 ≤ 2 ^ 256 * 2 ^ (256 - s) := Nat.le_mul_of_pos_right _ (Nat.two_pow_pos _)
        omega
      rw [hsum, Nat.add_mul_mod_self_left, Nat.mod_eq_of_lt (by rw [M256_two]; omega)]
    · rw [if_neg (fun h' => h (hiff.2 h'))]
      unfold sarW
      rw [if_neg h, hs, hmod, Nat.mul_div_cancel _ hps, Nat.mod_eq_of_lt (by rw [M256_two]; omega)]
theorem extM_le (k : Nat) : 8 ≤ extM k ∧ extM k ≤ 256 := by unfold extM; split <;> omega
theorem extM_mono {k n : Nat} (h : k % M256 ≤ n % M256) : extM k ≤ extM n := by unfold extM; split <;> split <;> omega
theorem ext_idem {k n a : Nat} (h : k % M256 ≤ n % M256) : extW n (extW k a) % M256 = extW k a % M256 := by
  have h1 := extM_le k
  have h2 := extM_le n
  rw [extW_eq n, extW_eq k]
  exact exM_idem (by omega) (extM_mono h) h2.2
theorem ext_byte (k a : Nat) : byteB (extW k a) 31 = byteB a 31 := by
  have h1 := extM_le k
  have hd : (256 : Nat) ∣ M256 := ⟨2 ^ 248, M256_two.trans (by decide)⟩
  unfold byteB
  simp only [Nat.sub_self, Nat.pow_zero, Nat.div_one]
  rw [← Nat.mod_mod_of_dvd (extW k a) hd, extW_eq, exM_byte h1.1 h1.2, Nat.mod_mod_of_dvd _ hd]
theorem half_val : 2 ^ (255 % M256) = 2 ^ 255 := congrArg (2 ^ ·) (show 255 % M256 = 255 by decide +kernel)
theorem scmp_half (a b : Nat) : scmp a b = Wd.cmp (a + 2 ^ (255 % M256)) (b + 2 ^ (255 % M256)) := by
  have hA := mlt a
  have hB := mlt b
  rw [half_val]
  have hh : M256 = 2 ^ 255 + 2 ^ 255 := by rw [M256_two]
  have key : ∀ x, (x + 2 ^ 255) % M256 = if 2 ^ 255 ≤ x % M256 then x % M256 - 2 ^ 255 else x % M256 + 2 ^ 255 := by
    intro x
    have hx := mlt x
    rw [Nat.add_mod, Nat.mod_eq_of_lt (show 2 ^ 255 < M256 by rw [hh]; exact Nat.lt_add_of_pos_left (Nat.two_pow_pos _))]
    split
    · rw [show x % M256 + 2 ^ 255 = (x % M256 - 2 ^ 255) + M256 by omega, Nat.add_mod_right, Nat.mod_eq_of_lt (by omega)]
    · exact Nat.mod_eq_of_lt (by omega)
  unfold scmp sgn Wd.cmp
  rw [key a, key b]
  generalize a % M256 = A at *
  generalize b % M256 = B at *
  generalize (2 : Nat) ^ 255 = H at *
  by_cases h1 : H ≤ A <;> by_cases h2 : H ≤ B <;> simp only [h1, h2, if_pos, if_neg, decide_true, decide_false, not_false_eq_true, Bool.true_eq_false, Bool.false_eq_true] <;> (repeat' split) <;> omega
/-! A byte of a hash. -/
theorem hash_get (f : Nat → Nat) {k : Nat} (h : k < 32) : (hashN f)[k]? = some (u8K (f k)) := by
  unfold hashN
  rw [List.getElem?_map, List.getElem?_range h]
  rfl
theorem hash_part (f : Nat → Nat) {k : Nat} (h : k < 32) : TI.part { d := .int .u8, size := 1, bytes := 1, zero := [.int .u8] } (hashN f) (k * 1) = some (u8K (f k)) := by
  rw [Nat.mul_one]
  exact hash_get f h
end Lf
end Go.Proofs.Ytpecjhjpdaifoaa

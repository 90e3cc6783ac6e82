/- The arithmetic of division with signs. -/
import Derived.Test.YtpecjhjpdaifoaaTw4
namespace Go.Proofs.Ytpecjhjpdaifoaa
open Go.RowKit Rg Wm Ar
namespace Lf
theorem M256_half : M256 = 2 ^ 255 + 2 ^ 255 := by rw [M256_two]
theorem half_pos : 0 < 2 ^ 255 := Nat.two_pow_pos _
theorem dif0 (x : Nat) : dif 0 x % M256 = if x % M256 = 0 then 0 else M256 - x % M256 := by
  have h := mlt x
  have hp := M256_pos
  unfold dif
  rw [Nat.zero_add]
  split
  · rename_i e; rw [e, Nat.sub_zero, Nat.mod_self]
  · exact Nat.mod_eq_of_lt (by omega)
theorem size_le (x : Nat) : sizeW x % M256 ≤ 2 ^ 255 := by
  have h := mlt x
  have hh := M256_half
  unfold sizeW
  split
  · rw [dif0]; split <;> omega
  · omega
theorem size_zero (x : Nat) : sizeW x % M256 = 0 ↔ x % M256 = 0 := by
  have h := mlt x
  have hp := half_pos
  unfold sizeW
  split
  · rw [dif0]
    rw [if_neg (by omega)]
    omega
  · rfl
theorem trunc_zero {a b : Nat} (h : b % M256 = 0) : sqW a b % M256 = b % M256 ∧ srW a b % M256 = b % M256 := by
  have hs := (size_zero b).2 h
  have hq : qW (sizeW a) (sizeW b) = 0 := by unfold qW; rw [if_pos hs]
  have hr : rW (sizeW a) (sizeW b) = 0 := by unfold rW; rw [if_pos hs]
  have hz : dif 0 0 % M256 = 0 := by rw [dif0, if_pos (Nat.zero_mod _)]
  unfold sqW srW
  rw [hq, hr, h]
  constructor
  · split
    · exact Nat.zero_mod _
    · exact hz
  · split
    · exact hz
    · exact Nat.zero_mod _
theorem r_lt {a b : Nat} (h : b % M256 ≠ 0) : rW (sizeW a) (sizeW b) < sizeW b % M256 := by
  have hs : ¬ sizeW b % M256 = 0 := fun e => h ((size_zero b).1 e)
  unfold rW
  rw [if_neg hs]
  exact Nat.mod_lt _ (Nat.pos_of_ne_zero hs)
theorem trunc_size {a b : Nat} (h : b % M256 ≠ 0) : sizeW (srW a b) % M256 < sizeW b % M256 := by
  have h1 := r_lt (a := a) h
  have h2 := size_le b
  have hh := M256_half
  have hp := half_pos
  have hM : rW (sizeW a) (sizeW b) % M256 = rW (sizeW a) (sizeW b) := Nat.mod_eq_of_lt (by omega)
  unfold srW
  generalize rW (sizeW a) (sizeW b) = r at *
  generalize sizeW b % M256 = B at *
  split
  · have e := dif0 r
    rw [hM] at e
    unfold sizeW
    by_cases hz : r = 0
    · rw [if_pos hz] at e
      rw [if_neg (by omega), e]
      omega
    · rw [if_neg hz] at e
      rw [if_pos (by omega), dif0, if_neg (by omega), e]
      omega
  · unfold sizeW
    rw [if_neg (by omega), hM]
    exact h1
/-- The rest's sign. -/
theorem trunc_sgn {a b : Nat} (h : b % M256 ≠ 0) (hr : srW a b % M256 ≠ 0) : 2 ^ 255 ≤ srW a b % M256 ↔ 2 ^ 255 ≤ a % M256 := by
  have h1 := r_lt (a := a) h
  have h2 := size_le b
  have hh := M256_half
  have hM : rW (sizeW a) (sizeW b) % M256 = rW (sizeW a) (sizeW b) := Nat.mod_eq_of_lt (by omega)
  by_cases ha : 2 ^ 255 ≤ a % M256
  · refine ⟨fun _ => ha, fun _ => ?_⟩
    unfold srW at hr ⊢
    rw [if_pos ha] at hr ⊢
    have e := dif0 (rW (sizeW a) (sizeW b))
    rw [hM] at e
    split at e <;> omega
  · refine ⟨fun k => absurd k ?_, fun k => absurd k ha⟩
    unfold srW
    rw [if_neg ha, hM]
    omega
/-- Equal as words, told by whole numbers. -/
theorem mod_of_dvd {x y : Nat} (h : ∃ k : Int, (x : Int) - (y : Int) = (M256 : Int) * k) : x % M256 = y % M256 := by
  obtain ⟨k, hk⟩ := h
  have h1 : (x : Int) % (M256 : Int) = (y : Int) % (M256 : Int) := by
    rw [show (x : Int) = (y : Int) + (M256 : Int) * k from by omega, Int.add_mul_emod_self_left]
  exact_mod_cast h1
theorem dvd_of_mod {x y : Nat} (h : x % M256 = y % M256) : ∃ k : Int, (x : Int) - (y : Int) = (M256 : Int) * k := by
  have h1 := Int.emod_add_mul_ediv (x : Int) M256
  have h2 := Int.emod_add_mul_ediv (y : Int) M256
  have h3 : (x : Int) % (M256 : Int) = (y : Int) % (M256 : Int) := by exact_mod_cast h
  exact ⟨(x : Int) / M256 - (y : Int) / M256, by rw [Int.mul_sub]; omega⟩
theorem dif0_int (x : Nat) : ∃ k : Int, ((dif 0 x : Nat) : Int) = -(x : Int) + (M256 : Int) * k := by
  have h := mlt x
  have h1 := Int.emod_add_mul_ediv (x : Int) M256
  refine ⟨1 + (x : Int) / M256, ?_⟩
  unfold dif
  rw [Int.mul_add]
  have : ((x % M256 : Nat) : Int) = (x : Int) % (M256 : Int) := by norm_cast
  omega
theorem trunc_eq {a b : Nat} (h : b % M256 ≠ 0) : (sqW a b * b + srW a b) % M256 = a % M256 := by
  have hs : ¬ sizeW b % M256 = 0 := fun e => h ((size_zero b).1 e)
  obtain ⟨k0, e0⟩ := dvd_of_mod (qr_eq (sizeW a) (sizeW b) hs)
  refine mod_of_dvd ?_
  push_cast at e0 ⊢
  unfold sqW srW
  generalize qW (sizeW a) (sizeW b) = Q at *
  generalize rW (sizeW a) (sizeW b) = R at *
  obtain ⟨k1, e1⟩ := dif0_int b
  obtain ⟨k2, e2⟩ := dif0_int a
  obtain ⟨k3, e3⟩ := dif0_int Q
  obtain ⟨k4, e4⟩ := dif0_int R
  generalize (M256 : Int) = M at *
  unfold sizeW sgn at *
  by_cases ha : 2 ^ 255 ≤ a % M256 <;> by_cases hb : 2 ^ 255 ≤ b % M256 <;> simp only [ha, hb, if_true, if_false, decide_true, decide_false, reduceCtorEq] at e0 ⊢
  · exact ⟨Q * k1 - k2 - k0 + k4, by rw [e4]; rw [e1, e2] at e0; grind⟩
  · exact ⟨k3 * b + k4 - k2 - k0, by rw [e3, e4]; rw [e2] at e0; grind⟩
  · exact ⟨k0 - Q * k1 + k3 * b, by rw [e3]; rw [e1] at e0; grind⟩
  · exact ⟨k0, by grind⟩
end Lf
end Go.Proofs.Ytpecjhjpdaifoaa

/- The arithmetic of words, no program in sight. -/
import Derived.Test.YtgeccggkdgpkiaaArr
import Derived.Laws.Bits64b
namespace Go.Proofs.Ytgeccggkdgpkiaa
open Go.RowKit Rp Rg Ops Mm Ar
namespace Wm
/-- The number that n parts are. -/
def val (f : Nat → Nat) : Nat → Nat
  | 0 => 0
  | n + 1 => val f n + f n * m64 ^ n
theorem val_lt {f : Nat → Nat} {n : Nat} (h : ∀ k, k < n → f k < m64) : val f n < m64 ^ n := by
  induction n with
  | zero => simp [val]
  | succ n ih =>
    have h1 := ih fun k hk => h k (by omega)
    have h2 : (f n + 1) * m64 ^ n ≤ m64 * m64 ^ n := Nat.mul_le_mul_right _ (h n (by omega))
    rw [Nat.pow_succ, Nat.mul_comm (m64 ^ n), val]
    rw [Nat.add_mul] at h2
    omega
theorem val_congr {f g : Nat → Nat} {n : Nat} (h : ∀ k, k < n → f k = g k) : val f n = val g n := by
  induction n with
  | zero => rfl
  | succ n ih => rw [val, val, ih fun k hk => h k (by omega), h n (by omega)]
theorem val_limb (x n : Nat) : val (limb x) n = x % m64 ^ n := by
  induction n with
  | zero => simp [val, Nat.mod_one]
  | succ n ih => rw [val, ih, Nat.pow_succ, Nat.mod_mul, limb, Nat.mul_comm (m64 ^ n)]
theorem limb_val {f : Nat → Nat} {n k : Nat} (h : ∀ k, k < n → f k < m64) (hk : k < n) : limb (val f n) k = f k := by
  induction n with
  | zero => omega
  | succ n ih =>
    unfold limb
    rw [val]
    by_cases hkn : k = n
    · subst hkn
      have h1 := val_lt (f := f) (n := k) fun j hj => h j (by omega)
      rw [Nat.add_mul_div_right _ _ (pow_pos' k), Nat.div_eq_of_lt h1, Nat.zero_add, Nat.mod_eq_of_lt (h k hk)]
    · obtain ⟨j, rfl⟩ : ∃ j, n = k + 1 + j := ⟨n - k - 1, by omega⟩
      have e : m64 ^ (k + 1 + j) = m64 ^ k * (m64 * m64 ^ j) := by rw [Nat.pow_add, Nat.pow_add, Nat.pow_one, Nat.mul_assoc]
      rw [e, show f (k + 1 + j) * (m64 ^ k * (m64 * m64 ^ j)) = m64 ^ k * (m64 * (m64 ^ j * f (k + 1 + j))) from by ac_rfl, Nat.add_mul_div_left _ _ (pow_pos' k), Nat.add_mul_mod_self_left]
      exact ih (fun i hi => h i (by omega)) (by omega)
theorem val_set {f : Nat → Nat} {n k : Nat} (v : Nat) (hk : k < n) : val (fun i => if i = k then v else f i) n + f k * m64 ^ k = val f n + v * m64 ^ k := by
  induction n with
  | zero => omega
  | succ n ih =>
    rw [val, val]
    by_cases hkn : n = k
    · subst hkn
      rw [if_pos rfl, val_congr (g := f) fun i hi => if_neg (by omega)]
      omega
    · rw [if_neg hkn]
      have := ih (by omega)
      omega
theorem arr_val {n : Nat} {f : Nat → Nat} (h : ∀ k, k < n → f k < m64) : arr n (fun i => u64V (f i)) = arr n (fun i => u64V (limb (val f n) i)) :=
  arr_ext fun i hi => by rw [limb_val h hi]
theorem wordA_mod (x : Nat) : wordA (x % M256) = wordA x := arr_ext fun i hi => by rw [M256, limb_mod x i 4 hi]
theorem wordA_eq {x y : Nat} (h : x % M256 = y % M256) : wordA x = wordA y := by rw [← wordA_mod x, h, wordA_mod]
theorem u64V_inj {x y : Nat} (h : u64V x = u64V y) : x = y := by
  simp only [u64V, Value.int.injEq, true_and] at h; omega
theorem wordA_inj {x y : Nat} (h : wordA x = wordA y) : x % M256 = y % M256 := by
  refine word_ext (Nat.mod_lt _ (pow_pos' 4)) (Nat.mod_lt _ (pow_pos' 4)) fun i hi => ?_
  rw [M256, limb_mod x i 4 hi, limb_mod y i 4 hi]
  have h1 := arr_get 4 (fun i => u64V (limb x i)) i hi
  have h2 := arr_get 4 (fun i => u64V (limb y i)) i hi
  unfold wordA at h
  rw [h] at h1
  rw [h1] at h2
  exact u64V_inj (Option.some.inj h2)
theorem wordA_iff {x y : Nat} : wordA x = wordA y ↔ x % M256 = y % M256 := ⟨wordA_inj, wordA_eq⟩

/-! ### The difference -/
def borrow (x y k : Nat) : Nat := if x % m64 ^ k < y % m64 ^ k then 1 else 0
theorem borrow_le (x y k : Nat) : borrow x y k ≤ 1 := by unfold borrow; split <;> omega
theorem borrow_zero (x y : Nat) : borrow x y 0 = 0 := by simp [borrow, Nat.mod_one]
def dif (x y : Nat) : Nat := x + (M256 - y % M256)
theorem M256_pos : 0 < M256 := pow_pos' 4
theorem dif_mod (x y : Nat) : (dif x y + y) % M256 = x % M256 := by
  unfold dif
  have h := Nat.mod_lt y M256_pos
  have e := Nat.mod_add_div y M256
  have : x + (M256 - y % M256) + y = x + M256 * (1 + y / M256) := by rw [Nat.mul_add, Nat.mul_one]; omega
  rw [this, Nat.add_mul_mod_self_left]
theorem sub_borrow (x y k : Nat) : (if limb x k < limb y k + borrow x y k then 1 else 0) = borrow x y (k + 1) := by
  have e : ∀ z, z % m64 ^ (k + 1) = z % m64 ^ k + m64 ^ k * limb z k := fun z => by rw [Nat.pow_succ, Nat.mod_mul]; rfl
  have hx := Nat.mod_lt x (pow_pos' k)
  have hy := Nat.mod_lt y (pow_pos' k)
  unfold borrow
  rw [e x, e y]
  generalize m64 ^ k = D at *
  generalize x % D = a at *
  generalize y % D = b at *
  generalize limb x k = X
  generalize limb y k = Y
  have hm : ∀ A B : Nat, A < B → D * A + D ≤ D * B := fun A B h => by have := Nat.mul_le_mul_left D h; rw [Nat.mul_succ] at this; exact this
  rcases Nat.lt_trichotomy X Y with h | h | h
  · have := hm _ _ h
    rw [if_pos (by omega), if_pos (by omega)]
  · subst h
    by_cases hab : a < b
    · rw [if_pos hab, if_pos (by omega), if_pos (by omega)]
    · rw [if_neg hab, if_neg (by omega), if_neg (by omega)]
  · have := hm _ _ h
    have h2 : (if a < b then 1 else 0) ≤ 1 := by split <;> omega
    rw [if_neg (by omega), if_neg (by omega)]
theorem sub_limb (x y k : Nat) (hk : k < 4) : (limb x k + m64 - limb y k - borrow x y k) % m64 = limb (dif x y) k := by
  have hb := sub_borrow x y k
  have hle := borrow_le x y k
  have e : ∀ z, z % m64 ^ (k + 1) = z % m64 ^ k + m64 ^ k * limb z k := fun z => by rw [Nat.pow_succ, Nat.mod_mul]; rfl
  have hx := Nat.mod_lt x (pow_pos' k)
  have hy := Nat.mod_lt y (pow_pos' k)
  -- dif x y, below part k + 1
  have hd : dif x y % m64 ^ (k + 1) = (x % m64 ^ (k + 1) + (m64 ^ (k + 1) - y % m64 ^ (k + 1))) % m64 ^ (k + 1) := by
    obtain ⟨t, ht⟩ : ∃ t, M256 = m64 ^ (k + 1) * t := by
      obtain ⟨j, hj⟩ : ∃ j, 4 = k + 1 + j := ⟨4 - (k + 1), by omega⟩
      exact ⟨m64 ^ j, by rw [M256, hj, Nat.pow_add]⟩
    have hmod : y % M256 % m64 ^ (k + 1) = y % m64 ^ (k + 1) := by rw [ht, Nat.mod_mul_right_mod]
    have h1 := Nat.mod_lt y M256_pos
    have h2 := Nat.mod_add_div (y % M256) (m64 ^ (k + 1))
    rw [hmod] at h2
    have h3 := Nat.mod_lt y (pow_pos' (k + 1))
    unfold dif
    generalize y % M256 = z at *
    generalize y % m64 ^ (k + 1) = b at *
    generalize m64 ^ (k + 1) = D at *
    have hzt : z / D < t := Nat.div_lt_of_lt_mul (by omega)
    obtain ⟨s, hs⟩ : ∃ s, t = z / D + 1 + s := ⟨t - z / D - 1, by omega⟩
    have e2 : M256 - z = D - b + D * s := by
      rw [ht, hs, Nat.mul_add, Nat.mul_add, Nat.mul_one]; omega
    rw [e2, ← Nat.add_assoc, Nat.add_mul_mod_self_left, Nat.mod_add_mod]
  have hL : limb (dif x y) k = dif x y % m64 ^ (k + 1) / m64 ^ k := by
    rw [e (dif x y), Nat.add_mul_div_left _ _ (pow_pos' k), Nat.div_eq_of_lt (Nat.mod_lt _ (pow_pos' k)), Nat.zero_add]
  have hp : m64 ^ (k + 1) = m64 ^ k * m64 := Nat.pow_succ ..
  rw [hL, hd, e x, e y, hp]
  have hX := limb_lt x k
  have hY := limb_lt y k
  have hbv : borrow x y k = if x % m64 ^ k < y % m64 ^ k then 1 else 0 := rfl
  rw [hbv]
  have hD := pow_pos' k
  generalize m64 ^ k = D at *
  generalize x % D = a at *
  generalize y % D = b at *
  generalize limb x k = X at *
  generalize limb y k = Y at *
  have hDY : D * Y + D ≤ D * m64 := by have := Nat.mul_le_mul_left D hY; rw [Nat.mul_succ] at this; exact this
  rw [Nat.mod_mul_right_div_self]
  congr 1
  have hsum : a + D * X + (D * m64 - (b + D * Y)) = (if a < b then D else 0) + a - b + D * (X + m64 - Y - if a < b then 1 else 0) := by
    by_cases hab : a < b
    · rw [if_pos hab, if_pos hab, show X + m64 - Y - 1 = X + (m64 - Y - 1) from by omega, Nat.mul_add, Nat.mul_sub, Nat.mul_sub, Nat.mul_one]
      omega
    · rw [if_neg hab, if_neg hab, Nat.sub_zero, show X + m64 - Y = X + (m64 - Y) from by omega, Nat.mul_add, Nat.mul_sub]
      omega
  rw [hsum, Nat.add_mul_div_left _ _ hD, Nat.div_eq_of_lt (by split <;> omega), Nat.zero_add]

/-! ### The product's inner round -/
theorem step_lt {x y p c : Nat} (hx : x < m64) (hy : y < m64) (hp : p < m64) (hc : c < m64) : x * y + p + c < m64 * m64 := by
  have h := Nat.mul_le_mul (show x ≤ m64 - 1 by omega) (show y ≤ m64 - 1 by omega)
  have hm := m64_pos
  have e : (m64 - 1) * (m64 - 1) + (m64 - 1) + (m64 - 1) + 1 = m64 * m64 := by
    obtain ⟨j, hj⟩ : ∃ j, m64 = j + 1 := ⟨m64 - 1, by omega⟩
    rw [hj]; simp [Nat.add_mul, Nat.mul_add]; omega
  omega
theorem step_lo (x y p c : Nat) : ((x * y % m64 + p) % m64 + c) % m64 = (x * y + p + c) % m64 := by
  simp [Nat.add_mod]
theorem step_hi (x y p c : Nat) : x * y / m64 + (x * y % m64 + p) / m64 + ((x * y % m64 + p) % m64 + c) / m64 = (x * y + p + c) / m64 := by
  have h1 := Nat.mod_add_div (x * y) m64
  have h2 := Nat.mod_add_div (x * y % m64 + p) m64
  have hm := m64_pos
  generalize x * y = t at *
  obtain ⟨u, hu⟩ : ∃ u, u = t % m64 + p := ⟨_, rfl⟩
  rw [← hu] at h2 ⊢
  have : t + p + c = u % m64 + c + m64 * (t / m64 + u / m64) := by rw [Nat.mul_add]; omega
  rw [this, Nat.add_mul_div_left _ _ hm]
  omega

/-! ### One bit to the left -/
theorem limb_step (R b k : Nat) (hb : b < 2) (hk : 0 < k) : limb (2 * R + b) k = limb (2 * R) k := by
  obtain ⟨j, rfl⟩ : ∃ j, k = j + 1 := ⟨k - 1, by omega⟩
  unfold limb
  have e : m64 ^ (j + 1) = 2 * (m64 ^ j * 9223372036854775808) := by rw [Nat.pow_succ, show m64 = 2 * 9223372036854775808 from rfl]; ac_rfl
  have h1 : ∀ z D : Nat, z / (2 * D) = z / 2 / D := fun z D => (Nat.div_div_eq_div_mul z 2 D).symm
  rw [e, h1, h1, show (2 * R + b) / 2 = R from by omega, show 2 * R / 2 = R from by omega]
theorem shl_limb (R k : Nat) (hk : 0 < k) : (limb R k * 2 % m64) + limb R (k - 1) / 9223372036854775808 = limb (2 * R) k := by
  obtain ⟨j, rfl⟩ : ∃ j, k = j + 1 := ⟨k - 1, by omega⟩
  simp only [Nat.add_sub_cancel]
  unfold limb
  have e : m64 ^ (j + 1) = m64 ^ j * m64 := Nat.pow_succ ..
  rw [e, ← Nat.div_div_eq_div_mul, ← Nat.div_div_eq_div_mul]
  have h2 : 2 * R / m64 ^ j = 2 * (R / m64 ^ j) + 2 * (R % m64 ^ j) / m64 ^ j := by
    have h := Nat.mod_add_div R (m64 ^ j)
    have : 2 * R = 2 * (R % m64 ^ j) + m64 ^ j * (2 * (R / m64 ^ j)) := by
      rw [show m64 ^ j * (2 * (R / m64 ^ j)) = 2 * (m64 ^ j * (R / m64 ^ j)) from by ac_rfl]; omega
    rw [this, Nat.add_mul_div_left _ _ (pow_pos' j)]; omega
  have h3 : 2 * (R % m64 ^ j) / m64 ^ j < 2 := Nat.div_lt_of_lt_mul (by have := Nat.mod_lt R (pow_pos' j); omega)
  rw [h2]
  generalize R / m64 ^ j = A at *
  generalize 2 * (R % m64 ^ j) / m64 ^ j = c at *
  unfold m64
  omega
theorem shl_zero (R b : Nat) (hb : b < 2) : (limb R 0 * 2 % m64) + b = limb (2 * R + b) 0 := by
  unfold limb m64
  simp only [Nat.pow_zero, Nat.div_one]
  omega
theorem or_bit (a b : Nat) (hb : b < 2) : (a * 2 % m64) ||| b = (a * 2 % m64) + b := by
  have e : a * 2 % m64 = 2 ^ 1 * (a % 9223372036854775808) := by unfold m64; omega
  rw [e, ← Nat.two_pow_add_eq_or_of_lt (by omega)]
theorem top_bit {R : Nat} (hR : R < M256) : limb R 3 / 9223372036854775808 = 2 * R / M256 := by
  unfold limb M256
  have e : m64 ^ 4 = m64 ^ 3 * m64 := Nat.pow_succ ..
  rw [Nat.mod_eq_of_lt (Nat.div_lt_of_lt_mul (by rw [← e]; exact hR)), e, Nat.div_div_eq_div_mul]
  rw [show m64 ^ 3 * m64 = 2 * (m64 ^ 3 * 9223372036854775808) from by rw [Nat.mul_left_comm]; rfl, Nat.mul_div_mul_left _ _ (by omega)]

/-- Bit i, by parts. -/
theorem limb_bit (N i : Nat) : limb N (i / 64) / 2 ^ (i % 64) % 2 = N / 2 ^ i % 2 := by
  have h := Nat.div_add_mod i 64
  have e : N / 2 ^ i = N / m64 ^ (i / 64) / 2 ^ (i % 64) := by
    rw [Nat.div_div_eq_div_mul, show m64 = 2 ^ 64 from rfl, ← Nat.pow_mul, ← Nat.pow_add, h]
  rw [e]
  unfold limb
  generalize N / m64 ^ (i / 64) = A
  have hs : i % 64 < 64 := Nat.mod_lt _ (by omega)
  generalize i % 64 = s at *
  obtain ⟨j, hj⟩ : ∃ j, 64 = s + 1 + j := ⟨63 - s, by omega⟩
  rw [show m64 = 2 ^ s * (2 * 2 ^ j) from by rw [show m64 = 2 ^ 64 from rfl, hj]; rw [Nat.pow_add, Nat.pow_add, Nat.pow_one, Nat.mul_assoc], Nat.mod_mul_right_div_self, Nat.mod_mul_right_mod]

/-- Bit i of a number that has none at i or below. -/
theorem or_two_pow (A s : Nat) (hs : s < 64) : (A * 2 ^ (s + 1) % m64) ||| 2 ^ s = A * 2 ^ (s + 1) % m64 + 2 ^ s := by
  obtain ⟨j, hj⟩ : ∃ j, 64 = s + 1 + j := ⟨63 - s, by omega⟩
  have e : A * 2 ^ (s + 1) % m64 = 2 ^ (s + 1) * (A % 2 ^ j) := by
    rw [show m64 = 2 ^ (s + 1) * 2 ^ j from by rw [show m64 = 2 ^ 64 from rfl, hj, Nat.pow_add], Nat.mul_comm A, Nat.mul_mod_mul_left]
  rw [e, ← Nat.two_pow_add_eq_or_of_lt (Nat.pow_lt_pow_right (by omega) (by omega))]
theorem limb_shl_at (A i : Nat) : limb (A * 2 ^ i) (i / 64) = A * 2 ^ (i % 64) % m64 := by
  have h := Nat.div_add_mod i 64
  unfold limb
  have e : A * 2 ^ i = A * 2 ^ (i % 64) * m64 ^ (i / 64) := by
    rw [show m64 = 2 ^ 64 from rfl, ← Nat.pow_mul, Nat.mul_assoc, ← Nat.pow_add, Nat.add_comm, h]
  rw [e, Nat.mul_div_cancel _ (pow_pos' _)]
theorem limb_setbit (q i j : Nat) : limb ((2 * q + 1) * 2 ^ i) j = if j = i / 64 then limb (q * 2 ^ (i + 1)) j + 2 ^ (i % 64) else limb (q * 2 ^ (i + 1)) j := by
  have h := Nat.div_add_mod i 64
  have hs : i % 64 < 64 := Nat.mod_lt _ (by omega)
  have e : q * 2 ^ (i + 1) = (2 * q) * 2 ^ i := by rw [Nat.pow_succ]; ac_rfl
  rw [e]
  split
  · rename_i hj
    subst hj
    rw [limb_shl_at, limb_shl_at]
    generalize i % 64 = s at *
    obtain ⟨t, ht⟩ : ∃ t, 64 = s + 1 + t := ⟨63 - s, by omega⟩
    have hm : m64 = 2 ^ s * 2 ^ (t + 1) := by rw [show m64 = 2 ^ 64 from rfl, ht, ← Nat.pow_add]; congr 1; omega
    rw [hm, Nat.mul_comm _ (2 ^ s), Nat.mul_comm _ (2 ^ s), Nat.mul_mod_mul_left, Nat.mul_mod_mul_left, ← Nat.mul_succ]
    congr 1
    rw [Nat.pow_succ, Nat.mul_comm (2 ^ t) 2]
    have := Nat.two_pow_pos t
    rw [Nat.mul_mod_mul_left, Nat.mod_mul, show (2 * q + 1) / 2 = q from by omega]
    omega
  · rename_i hj
    unfold limb
    have e2 : ∀ B, B * 2 ^ i = B * 2 ^ (i % 64) * m64 ^ (i / 64) := fun B => by
      rw [show m64 = 2 ^ 64 from rfl, ← Nat.pow_mul, Nat.mul_assoc, ← Nat.pow_add, Nat.add_comm, h]
    rw [e2, e2]
    generalize i % 64 = s at *
    generalize i / 64 = c at *
    rcases Nat.lt_or_gt_of_ne hj with hl | hl
    · obtain ⟨d, rfl⟩ : ∃ d, c = j + (d + 1) := ⟨c - j - 1, by omega⟩
      have e3 : ∀ B, B * m64 ^ (j + (d + 1)) / m64 ^ j % m64 = 0 := fun B => by
        rw [Nat.pow_add, show B * (m64 ^ j * m64 ^ (d + 1)) = m64 ^ j * (B * m64 ^ (d + 1)) from by ac_rfl, Nat.mul_div_cancel_left _ (pow_pos' j), Nat.pow_succ, ← Nat.mul_assoc, Nat.mul_mod_left]
      rw [e3, e3]
    · obtain ⟨d, rfl⟩ : ∃ d, j = c + (d + 1) := ⟨j - c - 1, by omega⟩
      have e3 : ∀ B, B * m64 ^ c / m64 ^ (c + (d + 1)) = B / m64 ^ (d + 1) := fun B => by
        rw [Nat.pow_add, Nat.mul_comm B, Nat.mul_div_mul_left _ _ (pow_pos' c)]
      rw [e3, e3]
      congr 1
      obtain ⟨t, ht⟩ : ∃ t, 64 = s + 1 + t := ⟨63 - s, by omega⟩
      have hm : m64 ^ (d + 1) = 2 ^ s * (2 * (2 ^ t * m64 ^ d)) := by
        rw [Nat.pow_succ, show m64 ^ d * m64 = m64 * m64 ^ d from Nat.mul_comm _ _]
        conv => lhs; lhs; rw [show m64 = 2 ^ 64 from rfl, ht, Nat.pow_add, Nat.pow_add, Nat.pow_one]
        ac_rfl
      rw [hm, Nat.mul_comm _ (2 ^ s), Nat.mul_comm _ (2 ^ s), Nat.mul_div_mul_left _ _ (Nat.two_pow_pos s), Nat.mul_div_mul_left _ _ (Nat.two_pow_pos s), Nat.mul_div_mul_left _ _ (by omega : 0 < 2), ← Nat.div_div_eq_div_mul, show (2 * q + 1) / 2 = q from by omega]
/-- One round of the long division. -/
theorem round_lt {H m b : Nat} (hb : b < 2) (h : 2 * (H % m) + b < m) : (2 * H + b) / m = 2 * (H / m) ∧ (2 * H + b) % m = 2 * (H % m) + b := by
  have e := Nat.mod_add_div H m
  have e2 : 2 * H + b = 2 * (H % m) + b + m * (2 * (H / m)) := by rw [show m * (2 * (H / m)) = 2 * (m * (H / m)) from by ac_rfl]; omega
  have hm : 0 < m := by omega
  rw [e2, Nat.add_mul_div_left _ _ hm, Nat.add_mul_mod_self_left, Nat.div_eq_of_lt h, Nat.mod_eq_of_lt h]
  exact ⟨by omega, rfl⟩
theorem round_ge {H m b : Nat} (hb : b < 2) (hm : 0 < m) (h : m ≤ 2 * (H % m) + b) : (2 * H + b) / m = 2 * (H / m) + 1 ∧ (2 * H + b) % m = 2 * (H % m) + b - m := by
  have e := Nat.mod_add_div H m
  have hl := Nat.mod_lt H hm
  have e2 : 2 * H + b = (2 * (H % m) + b - m) + m * (2 * (H / m) + 1) := by rw [Nat.mul_add, show m * (2 * (H / m)) = 2 * (m * (H / m)) from by ac_rfl]; omega
  rw [e2, Nat.add_mul_div_left _ _ hm, Nat.add_mul_mod_self_left, Nat.div_eq_of_lt (by omega), Nat.mod_eq_of_lt (by omega)]
  exact ⟨by omega, rfl⟩
theorem half_step (N t : Nat) : N / 2 ^ t = 2 * (N / 2 ^ (t + 1)) + N / 2 ^ t % 2 := by
  rw [Nat.pow_succ, ← Nat.div_div_eq_div_mul]; omega
end Wm
namespace Wd
/-- -1, 0 or 1. -/
def cmp (x y : Nat) : Int := if x % M256 < y % M256 then -1 else if y % M256 < x % M256 then 1 else 0
end Wd
end Go.Proofs.Ytgeccggkdgpkiaa

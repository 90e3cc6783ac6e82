/- Arrays given by a function; words as natural numbers. -/
import Derived.Test.YtgeccggkdgpkiaaMem
import Derived.Laws.Externs
import Derived.Lib.Hide
namespace Go.Proofs.Ytgeccggkdgpkiaa
open Go.RowKit Rp Rg Ops Mm
namespace Ar
/-- n cells by a function. -/
def arr (n : Nat) (f : Nat → Value) : Array Value := ((List.range n).map f).toArray
theorem arr_size (n : Nat) (f : Nat → Value) : (arr n f).size = n := by simp [arr]
theorem arr_get (n : Nat) (f : Nat → Value) (i : Nat) (h : i < n) : (arr n f)[i]? = some (f i) := by simp [arr, h]
theorem arr_ext {n : Nat} {f g : Nat → Value} (h : ∀ i, i < n → f i = g i) : arr n f = arr n g := by
  unfold arr
  congr 1
  exact List.map_congr_left fun i hi => h i (List.mem_range.1 hi)
theorem arr_set (n : Nat) (f : Nat → Value) (k : Nat) (v : Value) : (arr n f).setIfInBounds k v = arr n (fun i => if i = k then v else f i) := by
  apply Array.ext
  · simp [arr_size]
  · intro i h1 h2
    have hi : i < n := by simpa [arr_size] using h1
    simp only [arr, List.setIfInBounds_toArray, List.getElem_toArray, List.getElem_set, List.getElem_map, List.getElem_range]
    split
    · rename_i h; subst h; simp
    · rename_i h; rw [if_neg (fun e => h e.symm)]
theorem arr_mem {n : Nat} {f : Nat → Value} (h : ∀ i, i < n → (f i).oneCell' = true) : ∀ v ∈ (arr n f).toList, v.oneCell' = true := by
  intro v hv
  simp only [arr, List.mem_map, List.mem_range] at hv
  obtain ⟨i, hi, rfl⟩ := hv
  exact h i hi

theorem _root_.Go.Proofs.Ytgeccggkdgpkiaa.Mm.St.setFn {w0 w : World} {L : List Ent} (h : St w0 w L) (i : Nat) {g T n : Nat} {f f' : Nat → Value} (hL : L[i]? = some (g, T, arr n f)) (j : Nat) (v : Value) (hf : ∀ k, k < n → f' k = if k = j then v else f k) {L' : List Ent} (hL' : L' = L.set i (g, T, arr n f')) : St w0 (w.setCell ⟨g, j, none⟩ v) L' := by
  have := h.setCell i hL j v
  rw [arr_set] at this
  rw [hL', arr_ext hf]
  exact this

def u64V (n : Nat) : Value := .int .u64 (n : Int)
def m64 : Nat := 18446744073709551616
theorem m64_pos : 0 < m64 := by unfold m64; omega
/-- Part i of a word. -/
def limb (x i : Nat) : Nat := x / m64 ^ i % m64
theorem limb_lt (x i : Nat) : limb x i < m64 := Nat.mod_lt _ m64_pos
def wordA (x : Nat) : Array Value := arr 4 fun i => u64V (limb x i)
def M256 : Nat := m64 ^ 4
theorem wordA_size (x : Nat) : (wordA x).size = 4 := arr_size _ _
theorem wordA_get (x i : Nat) (h : i < 4) : (wordA x)[i]? = some (.int .u64 (limb x i : Int)) := arr_get _ _ i h
theorem wordA_mem (x : Nat) : ∀ v ∈ (wordA x).toList, v.oneCell' = true := arr_mem fun _ _ => rfl

theorem pow_pos' (k : Nat) : 0 < m64 ^ k := Nat.pow_pos m64_pos

theorem limb_mod (x i k : Nat) (h : i < k) : limb (x % m64 ^ k) i = limb x i := by
  unfold limb
  obtain ⟨j, rfl⟩ : ∃ j, k = i + 1 + j := ⟨k - i - 1, by omega⟩
  rw [show m64 ^ (i + 1 + j) = m64 ^ i * (m64 * m64 ^ j) from by rw [Nat.pow_add, Nat.pow_add, Nat.pow_one, Nat.mul_assoc], Nat.mod_mul_right_div_self, Nat.mod_mul_right_mod]

theorem word_ext {x y : Nat} (hx : x < M256) (hy : y < M256) (h : ∀ i, i < 4 → limb x i = limb y i) : x = y := by
  have key : ∀ z, z < M256 → z = limb z 0 + m64 * (limb z 1 + m64 * (limb z 2 + m64 * limb z 3)) := by
    intro z hz
    unfold limb
    have h3 : z / m64 ^ 3 < m64 := Nat.div_lt_of_lt_mul (by rw [← Nat.pow_succ]; exact hz)
    rw [Nat.mod_eq_of_lt h3]
    have e3 : m64 ^ 3 = m64 ^ 2 * m64 := Nat.pow_succ ..
    have e2 : m64 ^ 2 = m64 ^ 1 * m64 := Nat.pow_succ ..
    rw [e3, ← Nat.div_div_eq_div_mul, Nat.mod_add_div, e2, ← Nat.div_div_eq_div_mul, Nat.mod_add_div, Nat.pow_one, Nat.pow_zero, Nat.div_one, Nat.mod_add_div]
  rw [key x hx, key y hy, h 0 (by omega), h 1 (by omega), h 2 (by omega), h 3 (by omega)]

/-- What has been carried behind k parts. -/
def carry (x y k : Nat) : Nat := (x % m64 ^ k + y % m64 ^ k) / m64 ^ k
theorem carry_le (x y k : Nat) : carry x y k ≤ 1 := by
  unfold carry
  have h1 := Nat.mod_lt x (pow_pos' k)
  have h2 := Nat.mod_lt y (pow_pos' k)
  have : (x % m64 ^ k + y % m64 ^ k) / m64 ^ k < 2 := Nat.div_lt_of_lt_mul (by omega)
  omega
theorem carry_zero (x y : Nat) : carry x y 0 = 0 := by simp [carry, Nat.mod_one]
theorem add_div' (x y D : Nat) (hD : 0 < D) : (x + y) / D = x / D + y / D + (x % D + y % D) / D := by
  have h1 := Nat.div_add_mod x D
  have h2 := Nat.div_add_mod y D
  have : x + y = x % D + y % D + D * (x / D + y / D) := by rw [Nat.mul_add]; omega
  rw [this, Nat.add_mul_div_left _ _ hD]
  omega
theorem sum_limb (x y k : Nat) : (limb x k + limb y k + carry x y k) % m64 = limb (x + y) k := by
  unfold limb carry
  rw [add_div' x y _ (pow_pos' k)]
  simp [Nat.add_mod]
theorem sum_carry (x y k : Nat) : (limb x k + limb y k + carry x y k) / m64 = carry x y (k + 1) := by
  unfold limb carry
  have e : ∀ z, z % m64 ^ (k + 1) = z % m64 ^ k + m64 ^ k * (z / m64 ^ k % m64) := fun z => by rw [Nat.pow_succ, Nat.mod_mul]
  rw [e x, e y, Nat.pow_succ, ← Nat.div_div_eq_div_mul]
  congr 1
  rw [show x % m64 ^ k + m64 ^ k * (x / m64 ^ k % m64) + (y % m64 ^ k + m64 ^ k * (y / m64 ^ k % m64)) = x % m64 ^ k + y % m64 ^ k + m64 ^ k * (x / m64 ^ k % m64 + y / m64 ^ k % m64) from by rw [Nat.mul_add]; omega,
    Nat.add_mul_div_left _ _ (pow_pos' k)]
  omega
end Ar
end Go.Proofs.Ytgeccggkdgpkiaa

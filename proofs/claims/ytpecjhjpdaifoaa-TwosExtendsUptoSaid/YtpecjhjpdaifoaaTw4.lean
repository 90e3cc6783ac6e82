/- Words with a sign: the functions. -/
import Derived.Test.YtpecjhjpdaifoaaTw3
namespace Go.Proofs.Ytpecjhjpdaifoaa
open Go.RowKit Rg Wm Ar
namespace Lf
def sgn (x : Nat) : Bool := decide (2 ^ 255 ≤ x % M256)
def sarW (n a : Nat) : Nat := if 2 ^ 255 ≤ a % M256 then (if 256 ≤ n % M256 then notN 0 else (a % M256 / 2 ^ (n % M256)) ||| (notN 0 * 2 ^ (dif 256 n % M256))) else a % M256 / 2 ^ (n % M256)
def sizeW (x : Nat) : Nat := if 2 ^ 255 ≤ x % M256 then dif 0 x else x
def sqW (a b : Nat) : Nat := if sgn a = sgn b then qW (sizeW a) (sizeW b) else dif 0 (qW (sizeW a) (sizeW b))
def srW (a b : Nat) : Nat := if 2 ^ 255 ≤ a % M256 then dif 0 (rW (sizeW a) (sizeW b)) else rW (sizeW a) (sizeW b)
def scmp (a b : Nat) : Int := if sgn a = sgn b then Wd.cmp a b else Wd.cmp b a
def extW (k a : Nat) : Nat := if 31 ≤ k % M256 then a else sarW (8 * (31 - k % M256)) (a * 2 ^ (8 * (31 - k % M256) % M256))
namespace Tw
set_option maxHeartbeats 1000000 in
theorem Sar (n a : Nat) : LF Try.prog 32 [wordV n, wordV a] (fun _ => wordV (sarW n a)) none := by
  unfold sarW
  split
  · rename_i h
    have hm := minusT h
    split
    · rename_i h2
      have hf := farT h2
      refine LFx.mk' tt Try.func32 rfl rfl rfl (by kernel_rfl) rfl rfl fun F => ?_
      exact walkS
    · rename_i h2
      have hf := farF (Nat.lt_of_not_le h2)
      refine LFx.mk' tt Try.func32 rfl rfl rfl (by kernel_rfl) rfl rfl fun F => ?_
      exact walkS
  · rename_i h
    have hm := minusF (Nat.lt_of_not_le h)
    refine LFx.mk' tt Try.func32 rfl rfl rfl (by kernel_rfl) rfl rfl fun F => ?_
    exact walkS
theorem size (a : Nat) : LF Try.prog 52 [wordV a] (fun _ => wordV (sizeW a)) none := by
  unfold sizeW
  split
  · rename_i h
    have hm := minusT h
    refine LFx.mk' tt Try.func52 rfl rfl rfl (by kernel_rfl) rfl rfl fun F => ?_
    exact walkS
  · rename_i h
    have hm := minusF (Nat.lt_of_not_le h)
    refine LFx.mk' tt Try.func52 rfl rfl rfl (by kernel_rfl) rfl rfl fun F => ?_
    exact walkS
theorem sgn_cases (a : Nat) : (2 ^ 255 ≤ a % M256 ∧ sgn a = true) ∨ (a % M256 < 2 ^ 255 ∧ sgn a = false) := by
  unfold sgn
  rcases Nat.lt_or_ge (a % M256) (2 ^ 255) with h | h
  · exact .inr ⟨h, decide_eq_false (Nat.not_le_of_lt h)⟩
  · exact .inl ⟨h, decide_eq_true h⟩
set_option maxHeartbeats 1000000 in
theorem SDivMod (a b : Nat) : LF Try.prog 35 [wordV a, wordV b] (fun _ => .t [wordV (sqW a b), wordV (srW a b)]) none := by
  unfold sqW srW
  rcases sgn_cases a with ⟨ha, ea⟩ | ⟨ha, ea⟩ <;> rcases sgn_cases b with ⟨hb, eb⟩ | ⟨hb, eb⟩ <;> rw [ea, eb]
  · rw [if_pos rfl, if_pos ha]
    have hm := minusT ha
    have hm2 := minusT hb
    refine LFx.mk' tt Try.func35 rfl rfl rfl (by kernel_rfl) rfl rfl fun F => ?_
    exact walkS
  · rw [if_neg (by decide), if_pos ha]
    have hm := minusT ha
    have hm2 := minusF hb
    refine LFx.mk' tt Try.func35 rfl rfl rfl (by kernel_rfl) rfl rfl fun F => ?_
    exact walkS
  · rw [if_neg (by decide), if_neg (Nat.not_le_of_lt ha)]
    have hm := minusF ha
    have hm2 := minusT hb
    refine LFx.mk' tt Try.func35 rfl rfl rfl (by kernel_rfl) rfl rfl fun F => ?_
    exact walkS
  · rw [if_pos rfl, if_neg (Nat.not_le_of_lt ha)]
    have hm := minusF ha
    have hm2 := minusF hb
    refine LFx.mk' tt Try.func35 rfl rfl rfl (by kernel_rfl) rfl rfl fun F => ?_
    exact walkS
set_option maxHeartbeats 1000000 in
theorem SCmp (a b : Nat) : LF Try.prog 34 [wordV a, wordV b] (fun _ => .k (.int .i64 (scmp a b))) none := by
  unfold scmp
  rcases sgn_cases a with ⟨ha, ea⟩ | ⟨ha, ea⟩ <;> rcases sgn_cases b with ⟨hb, eb⟩ | ⟨hb, eb⟩ <;> rw [ea, eb]
  · rw [if_pos rfl]
    have hm := minusT ha
    have hm2 := minusT hb
    refine LFx.mk' tt Try.func34 rfl rfl rfl (by kernel_rfl) rfl rfl fun F => ?_
    exact walkS
  · rw [if_neg (by decide)]
    have hm := minusT ha
    have hm2 := minusF hb
    refine LFx.mk' tt Try.func34 rfl rfl rfl (by kernel_rfl) rfl rfl fun F => ?_
    exact walkS
  · rw [if_neg (by decide)]
    have hm := minusF ha
    have hm2 := minusT hb
    refine LFx.mk' tt Try.func34 rfl rfl rfl (by kernel_rfl) rfl rfl fun F => ?_
    exact walkS
  · rw [if_pos rfl]
    have hm := minusF ha
    have hm2 := minusF hb
    refine LFx.mk' tt Try.func34 rfl rfl rfl (by kernel_rfl) rfl rfl fun F => ?_
    exact walkS
set_option maxHeartbeats 1000000 in
theorem Extend (k a : Nat) : LF Try.prog 37 [wordV k, wordV a] (fun _ => wordV (extW k a)) none := by
  have h31 : 31 % M256 = 31 := by decide +kernel
  unfold extW
  split
  · rename_i h
    have hc : 0 ≤ Wd.cmp k 31 := cmp_ge0 (by rw [h31]; exact h)
    refine LFx.mk' tt Try.func37 rfl rfl rfl (by kernel_rfl) rfl rfl fun F => ?_
    exact walkS
  · rename_i h
    have hc : Wd.cmp k 31 < 0 := cmp_lt0 (by rw [h31]; omega)
    have e : k % M256 = limb k 0 := near_eq (by omega)
    rw [e]
    have hk : limb k 0 < 31 := by omega
    clear h e h31
    have hc2 : ¬ 0 ≤ Wd.cmp k 31 := by omega
    refine LFx.mk' tt Try.func37 rfl rfl rfl (by kernel_rfl) rfl rfl fun F => ?_
    exact walkS
end Tw
end Lf
end Go.Proofs.Ytpecjhjpdaifoaa

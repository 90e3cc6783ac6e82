/- The laws of moves: walks. -/
import Derived.Test.YtpecjhjpdaifoaaTw5
import Derived.Test.YtpecjhjpdaifoaaTw6
namespace Go.Proofs.Ytpecjhjpdaifoaa
open Go.RowKit Rg Wm Ar
namespace Lf
namespace Tw
set_option maxHeartbeats 2000000 in
theorem TwosScale (n a : Nat) : LF Try.prog 8 [wordV n, wordV a] (fun _ => .k (.bool true)) none := by
  have h256 : 256 % M256 = 256 := by decide +kernel
  have h1 : a * 2 ^ (n % M256) % M256 = a * 2 ^ (n % M256) % M256 := rfl
  rcases Nat.lt_or_ge (n % M256) 256 with h | h
  · have hc : Wd.cmp n 256 < 0 := cmp_lt0 (by rw [h256]; exact h)
    have h2 : a % M256 / 2 ^ (n % M256) % M256 = qW a (2 ^ (n % M256)) % M256 := (scale_q h).symm
    have hc2 : ¬ 0 ≤ Wd.cmp n 256 := by omega
    clear h h256
    refine LFx.mk' tt Try.func8 rfl rfl rfl (by kernel_rfl) rfl rfl fun F => ?_
    exact walkS
  · have hc : 0 ≤ Wd.cmp n 256 := cmp_ge0 (by rw [h256]; exact h)
    have h2 : a % M256 / 2 ^ (n % M256) % M256 = 0 % M256 := by rw [shr_far h]
    clear h h256
    refine LFx.mk' tt Try.func8 rfl rfl rfl (by kernel_rfl) rfl rfl fun F => ?_
    exact walkS
set_option maxHeartbeats 2000000 in
theorem TwosFloor (n a : Nat) : LF Try.prog 10 [wordV n, wordV a] (fun _ => .k (.bool true)) none := by
  have h255 : 255 % M256 = 255 := by decide +kernel
  rcases Nat.lt_or_ge (n % M256) 255 with h | h
  · have hc : Wd.cmp n 255 < 0 := cmp_lt0 (by rw [h255]; exact h)
    have h1 : Wd.cmp (dif a (sarW n a * 2 ^ (n % M256))) (2 ^ (n % M256)) < 0 := cmp_lt0 (floor_rest (by omega))
    have hc2 : ¬ 0 ≤ Wd.cmp n 255 := by omega
    have hs := scmp_neg (sarW n a)
    have ha := scmp_neg a
    have hf := floor_sgn (a := a) h
    by_cases h3 : scmp a 0 < 0
    · have h2 : scmp (sarW n a) 0 < 0 := hs.2 (hf.2 (ha.1 h3))
      clear h h255 hs ha hf
      refine LFx.mk' tt Try.func10 rfl rfl rfl (by kernel_rfl) rfl rfl fun F => ?_
      exact walkS
    · have h2 : ¬ scmp (sarW n a) 0 < 0 := fun k => h3 (ha.2 (hf.1 (hs.1 k)))
      clear h h255 hs ha hf
      refine LFx.mk' tt Try.func10 rfl rfl rfl (by kernel_rfl) rfl rfl fun F => ?_
      exact walkS
  · have hc : 0 ≤ Wd.cmp n 255 := cmp_ge0 (by rw [h255]; exact h)
    have hf := floor_far (a := a) h
    by_cases h1 : sarW n a % M256 = 0 % M256
    · clear h h255 hf
      refine LFx.mk' tt Try.func10 rfl rfl rfl (by kernel_rfl) rfl rfl fun F => ?_
      exact walkS
    · have h2 := hf.resolve_left h1
      clear h h255 hf
      refine LFx.mk' tt Try.func10 rfl rfl rfl (by kernel_rfl) rfl rfl fun F => ?_
      exact walkS
end Tw
end Lf
end Go.Proofs.Ytpecjhjpdaifoaa

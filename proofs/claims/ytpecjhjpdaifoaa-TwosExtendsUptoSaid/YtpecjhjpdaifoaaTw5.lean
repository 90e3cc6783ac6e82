/- The laws of bits: it lives; De Morgan; carries. -/
import Derived.Test.YtpecjhjpdaifoaaTw4
namespace Go.Proofs.Ytpecjhjpdaifoaa
open Go.RowKit Rg Wm Ar
namespace Lf
theorem neg_not (a : Nat) : dif 0 a % M256 = (notN a + 1) % M256 := by
  have h := mlt a
  have e : notN a = M256 - 1 - a % M256 := by unfold notN; rw [M256_two]
  have hp := M256_pos
  have e2 : M256 - 1 - a % M256 + 1 = M256 - a % M256 := by omega
  rw [e, e2]
  unfold dif
  rw [Nat.zero_add]
namespace Tw
set_option maxHeartbeats 2000000 in
theorem alive : LF Try.prog 13 [] (fun _ => .k (.bool true)) none := by
  have h1 : sqW (dif 0 7) 2 % M256 = dif 0 3 % M256 := by decide +kernel
  have h2 : srW (dif 0 7) 2 % M256 = dif 0 1 % M256 := by decide +kernel
  have h3 : limb (srW (dif 0 7) 2) 0 = 18446744073709551615 := by decide +kernel
  have h4 : 5 * 2 ^ (3 % M256) % M256 = 40 % M256 := by decide +kernel
  have h5 : extW 0 128 % M256 = dif 0 128 % M256 := by decide +kernel
  refine LFx.mk' tt Try.func13 rfl rfl rfl (by kernel_rfl) rfl rfl fun F => ?_
  exact walkS
set_option maxHeartbeats 2000000 in
theorem TwosMorgan (a b : Nat) : LF Try.prog 3 [wordV a, wordV b] (fun _ => .k (.bool true)) none := by
  obtain ⟨h1, h2, h3⟩ := morgan a b
  refine LFx.mk' tt Try.func3 rfl rfl rfl (by kernel_rfl) rfl rfl fun F => ?_
  exact walkS
set_option maxHeartbeats 2000000 in
theorem TwosCarry (a b : Nat) : LF Try.prog 9 [wordV a, wordV b] (fun _ => .k (.bool true)) none := by
  have h1 := carry a b
  have h2 := neg_not a
  refine LFx.mk' tt Try.func9 rfl rfl rfl (by kernel_rfl) rfl rfl fun F => ?_
  exact walkS
end Tw
end Lf
end Go.Proofs.Ytpecjhjpdaifoaa

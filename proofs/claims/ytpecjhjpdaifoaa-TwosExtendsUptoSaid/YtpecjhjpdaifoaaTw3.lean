/- The bits of words: moves. -/
import Derived.Test.YtpecjhjpdaifoaaTw2
namespace Go.Proofs.Ytpecjhjpdaifoaa
open Go.RowKit Rg Wm Ar
namespace Lf
theorem parts (x : Nat) : x % M256 = limb x 0 + limb x 1 * 18446744073709551616 + limb x 2 * 340282366920938463463374607431768211456 + limb x 3 * 6277101735386680763835789423207666416102355444464034512896 := by
  have h := val_limb x 4
  have h1 : m64 ^ 1 = 18446744073709551616 := by unfold m64; decide
  have h2 : m64 ^ 2 = 340282366920938463463374607431768211456 := by unfold m64; decide
  have h3 : m64 ^ 3 = 6277101735386680763835789423207666416102355444464034512896 := by unfold m64; decide
  simp only [val, h1, h2, h3, Nat.pow_zero, Nat.mul_one, Nat.zero_add] at h
  exact h.symm
theorem limb_lt' (x i : Nat) : limb x i < 18446744073709551616 := limb_lt x i
theorem far_iff (n : Nat) : 256 ≤ n % M256 ↔ 256 ≤ limb n 0 ∨ (limb n 1 ||| limb n 2 ||| limb n 3) ≠ 0 := by
  have hp := parts n
  have h0 := limb_lt' n 0
  constructor
  · intro h
    rcases Nat.lt_or_ge (limb n 0) 256 with h1 | h1
    · refine .inr fun h2 => ?_
      rw [Nat.or_eq_zero_iff, Nat.or_eq_zero_iff] at h2
      omega
    · exact .inl h1
  · rintro (h | h)
    · omega
    · by_cases h1 : limb n 1 = 0
      · by_cases h2 : limb n 2 = 0
        · by_cases h3 : limb n 3 = 0
          · exact absurd (by rw [h1, h2, h3]; rfl) h
          · omega
        · omega
      · omega
theorem near_eq {n : Nat} (h : n % M256 < 256) : n % M256 = limb n 0 := by
  have hp := parts n
  omega
theorem minus_iff (x : Nat) : 2 ^ 255 ≤ x % M256 ↔ 9223372036854775808 ≤ limb x 3 := by
  have hp := parts x
  have h0 := limb_lt' x 0
  have h1 := limb_lt' x 1
  have h2 := limb_lt' x 2
  have h3 := limb_lt' x 3
  have e : (2 : Nat) ^ 255 = 57896044618658097711785492504343953926634992332820282019728792003956564819968 := by decide
  rw [e]
  omega
theorem shl0 (a s : Nat) (hs : s < 64) : wordC (a * 2 ^ (64 * 0 + s)) = [u64K (limb a 0 * 2 ^ s % 2 ^ 64), u64K (limb a 1 * 2 ^ s % 2 ^ 64 ||| limb a 0 / 2 ^ (64 - s)), u64K (limb a 2 * 2 ^ s % 2 ^ 64 ||| limb a 1 / 2 ^ (64 - s)), u64K (limb a 3 * 2 ^ s % 2 ^ 64 ||| limb a 2 / 2 ^ (64 - s))] := by
  have h := fun i => limb_shl a 0 s i hs
  simp only [wordC, h]
  simp
theorem shl1 (a s : Nat) (hs : s < 64) : wordC (a * 2 ^ (64 * 1 + s)) = [u64K 0, u64K (limb a 0 * 2 ^ s % 2 ^ 64), u64K (limb a 1 * 2 ^ s % 2 ^ 64 ||| limb a 0 / 2 ^ (64 - s)), u64K (limb a 2 * 2 ^ s % 2 ^ 64 ||| limb a 1 / 2 ^ (64 - s))] := by
  have h := fun i => limb_shl a 1 s i hs
  simp only [wordC, h]
  simp
theorem shl2 (a s : Nat) (hs : s < 64) : wordC (a * 2 ^ (64 * 2 + s)) = [u64K 0, u64K 0, u64K (limb a 0 * 2 ^ s % 2 ^ 64), u64K (limb a 1 * 2 ^ s % 2 ^ 64 ||| limb a 0 / 2 ^ (64 - s))] := by
  have h := fun i => limb_shl a 2 s i hs
  simp only [wordC, h]
  simp
theorem shl3 (a s : Nat) (hs : s < 64) : wordC (a * 2 ^ (64 * 3 + s)) = [u64K 0, u64K 0, u64K 0, u64K (limb a 0 * 2 ^ s % 2 ^ 64)] := by
  have h := fun i => limb_shl a 3 s i hs
  simp only [wordC, h]
  simp
theorem limb_over {a i : Nat} (ha : a < 2 ^ 256) (hi : 4 ≤ i) : limb a i = 0 := by
  rw [limb_two, Nat.div_eq_of_lt (Nat.lt_of_lt_of_le ha (Nat.pow_le_pow_right (by decide) (by omega)))]
theorem shr0 (a s : Nat) (hs : s < 64) (ha : a < 2 ^ 256) : wordC (a / 2 ^ (64 * 0 + s)) = [u64K (limb a 0 / 2 ^ s ||| limb a 1 * 2 ^ (64 - s) % 2 ^ 64), u64K (limb a 1 / 2 ^ s ||| limb a 2 * 2 ^ (64 - s) % 2 ^ 64), u64K (limb a 2 / 2 ^ s ||| limb a 3 * 2 ^ (64 - s) % 2 ^ 64), u64K (limb a 3 / 2 ^ s)] := by
  have h := fun i => limb_shr a 0 s i hs ha
  simp only [wordC, h]
  simp
theorem shr1 (a s : Nat) (hs : s < 64) (ha : a < 2 ^ 256) : wordC (a / 2 ^ (64 * 1 + s)) = [u64K (limb a 1 / 2 ^ s ||| limb a 2 * 2 ^ (64 - s) % 2 ^ 64), u64K (limb a 2 / 2 ^ s ||| limb a 3 * 2 ^ (64 - s) % 2 ^ 64), u64K (limb a 3 / 2 ^ s), u64K 0] := by
  have h := fun i => limb_shr a 1 s i hs ha
  have z := limb_over ha (show 4 ≤ 4 by decide)
  simp only [wordC, h]
  simp [z]
theorem shr2 (a s : Nat) (hs : s < 64) (ha : a < 2 ^ 256) : wordC (a / 2 ^ (64 * 2 + s)) = [u64K (limb a 2 / 2 ^ s ||| limb a 3 * 2 ^ (64 - s) % 2 ^ 64), u64K (limb a 3 / 2 ^ s), u64K 0, u64K 0] := by
  have h := fun i => limb_shr a 2 s i hs ha
  have z := limb_over ha (show 4 ≤ 4 by decide)
  have z' := limb_over ha (show 4 ≤ 5 by decide)
  simp only [wordC, h]
  simp [z, z']
theorem shr3 (a s : Nat) (hs : s < 64) (ha : a < 2 ^ 256) : wordC (a / 2 ^ (64 * 3 + s)) = [u64K (limb a 3 / 2 ^ s), u64K 0, u64K 0, u64K 0] := by
  have h := fun i => limb_shr a 3 s i hs ha
  have z := limb_over ha (show 4 ≤ 4 by decide)
  have z' := limb_over ha (show 4 ≤ 5 by decide)
  have z'' := limb_over ha (show 4 ≤ 6 by decide)
  simp only [wordC, h]
  simp [z, z', z'']
theorem split64 {n : Nat} (h : n % M256 < 256) : ∃ k s, s < 64 ∧ k < 4 ∧ n % M256 = 64 * k + s ∧ IntKind.u64.wrap (((limb n 0 : Nat) : Int).tdiv 64) = ((k : Nat) : Int) ∧ ((limb n 0 : Nat) : Int).tmod 64 = ((s : Nat) : Int) := by
  have e := near_eq h
  refine ⟨n % M256 / 64, n % M256 % 64, by omega, by omega, by omega, ?_, ?_⟩
  · rw [e]; exact quo_u64r (by omega)
  · rw [e]; rfl
theorem shl_far {a n : Nat} (h : 256 ≤ n) : a * 2 ^ n % M256 = 0 % M256 := by
  obtain ⟨m, rfl⟩ : ∃ m, n = 256 + m := ⟨n - 256, by omega⟩
  rw [M256_two, Nat.pow_add, Nat.mul_left_comm, Nat.mul_mod_right, Nat.zero_mod]
theorem shr_far {a n : Nat} (h : 256 ≤ n) : a % M256 / 2 ^ n = 0 := by
  refine Nat.div_eq_of_lt (Nat.lt_of_lt_of_le (mlt a) ?_)
  rw [M256_two]; exact Nat.pow_le_pow_right (by decide) h
namespace Tw
theorem far (n : Nat) : LF Try.prog 46 [wordV n] (fun _ => .k (.bool (decide (256 ≤ n % M256)))) none := by
  have hi := far_iff n
  have ho : limb n 1 ||| limb n 2 < 18446744073709551616 := Nat.or_lt_two_pow (n := 64) (limb_lt' n 1) (limb_lt' n 2)
  by_cases h0 : 256 ≤ limb n 0
  · rw [decide_eq_true (hi.2 (.inl h0))]
    clear hi
    refine LFx.mk' tt Try.func46 rfl rfl rfl (by kernel_rfl) rfl rfl fun F => ?_
    exact walkT
  · by_cases h1 : (limb n 1 ||| limb n 2 ||| limb n 3) = 0
    · rw [decide_eq_false (fun h => by rcases hi.1 h with h | h <;> omega)]
      clear hi
      refine LFx.mk' tt Try.func46 rfl rfl rfl (by kernel_rfl) rfl rfl fun F => ?_
      exact walkT
    · rw [decide_eq_true (hi.2 (.inr h1))]
      clear hi
      refine LFx.mk' tt Try.func46 rfl rfl rfl (by kernel_rfl) rfl rfl fun F => ?_
      exact walkT
theorem minus (x : Nat) : LF Try.prog 50 [wordV x] (fun _ => .k (.bool (decide (2 ^ 255 ≤ x % M256)))) none := by
  have hi := minus_iff x
  have hl := limb_lt' x 3
  by_cases h0 : 9223372036854775808 ≤ limb x 3
  · rw [decide_eq_true (hi.2 h0)]
    clear hi
    refine LFx.mk' tt Try.func50 rfl rfl rfl (by kernel_rfl) rfl rfl fun F => ?_
    exact walkT
  · rw [decide_eq_false (fun h => h0 (hi.1 h))]
    clear hi
    refine LFx.mk' tt Try.func50 rfl rfl rfl (by kernel_rfl) rfl rfl fun F => ?_
    exact walkT
theorem farT {n : Nat} (h : 256 ≤ n % M256) : LF Try.prog 46 [wordV n] (fun _ => .k (.bool true)) none := by
  have := far n; rwa [decide_eq_true h] at this
theorem farF {n : Nat} (h : n % M256 < 256) : LF Try.prog 46 [wordV n] (fun _ => .k (.bool false)) none := by
  have := far n; rwa [decide_eq_false (by omega)] at this
theorem minusT {n : Nat} (h : 2 ^ 255 ≤ n % M256) : LF Try.prog 50 [wordV n] (fun _ => .k (.bool true)) none := by
  have := minus n; rwa [decide_eq_true h] at this
theorem minusF {n : Nat} (h : n % M256 < 2 ^ 255) : LF Try.prog 50 [wordV n] (fun _ => .k (.bool false)) none := by
  have := minus n; rwa [decide_eq_false (Nat.not_le_of_lt h)] at this
set_option maxHeartbeats 2000000 in
theorem Shl (n a : Nat) : LF Try.prog 26 [wordV n, wordV a] (fun _ => wordV (a * 2 ^ (n % M256))) none := by
  rcases Nat.lt_or_ge (n % M256) 256 with h | h
  · obtain ⟨k, s, hs, hk, e, hq, hm⟩ := split64 h
    have hf := farF h
    rw [e]
    clear e h
    have : k = 0 ∨ k = 1 ∨ k = 2 ∨ k = 3 := by omega
    rcases this with rfl | rfl | rfl | rfl
    case' inl => have hfin := shl0 a s hs
    case' inr.inl => have hfin := shl1 a s hs
    case' inr.inr.inl => have hfin := shl2 a s hs
    case' inr.inr.inr => have hfin := shl3 a s hs
    all_goals
      rw [show wordV _ = V.a _ from congrArg V.a hfin]
      refine LFx.mk' tt Try.func26 rfl rfl rfl (by kernel_rfl) rfl rfl fun F => ?_
      exact walkT
  · rw [wordV_eq (shl_far (a := a) h)]
    have hf := farT h
    refine LFx.mk' tt Try.func26 rfl rfl rfl (by kernel_rfl) rfl rfl fun F => ?_
    exact walkT
set_option maxHeartbeats 2000000 in
theorem Shr (n a : Nat) : LF Try.prog 28 [wordV n, wordV a] (fun _ => wordV (a % M256 / 2 ^ (n % M256))) none := by
  rw [← wordV_mod a]
  have ha : a % M256 < 2 ^ 256 := by rw [← M256_two]; exact mlt a
  rcases Nat.lt_or_ge (n % M256) 256 with h | h
  · obtain ⟨k, s, hs, hk, e, hq, hm⟩ := split64 h
    have hf := farF h
    rw [e]
    clear e h
    generalize a % M256 = b at ha
    have : k = 0 ∨ k = 1 ∨ k = 2 ∨ k = 3 := by omega
    rcases this with rfl | rfl | rfl | rfl
    case' inl => have hfin := shr0 b s hs ha
    case' inr.inl => have hfin := shr1 b s hs ha
    case' inr.inr.inl => have hfin := shr2 b s hs ha
    case' inr.inr.inr => have hfin := shr3 b s hs ha
    all_goals
      rw [show wordV _ = V.a _ from congrArg V.a hfin]
      refine LFx.mk' tt Try.func28 rfl rfl rfl (by kernel_rfl) rfl rfl fun F => ?_
      exact walkT
  · rw [shr_far (a := a) h]
    have hf := farT h
    refine LFx.mk' tt Try.func28 rfl rfl rfl (by kernel_rfl) rfl rfl fun F => ?_
    exact walkT
end Tw
end Lf
end Go.Proofs.Ytpecjhjpdaifoaa

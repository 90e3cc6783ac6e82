/- A part of the proof: texts joined. -/
import Derived.Test.YtgjoecocahpfhaaQ13a0e523
namespace Go.Proofs.Ytgjoecocahpfhaa
open Go.RowKit Rg
set_option linter.unusedVariables false
set_option maxRecDepth 100000
namespace Lf
namespace Jq
set_option maxHeartbeats 8000000 in
theorem break_ (D : List Nat) (g a b : Nat) (hl : D.length < 100000000) (hab : a + 12 < b) (hb : b ≤ D.length) : LM Try.prog 97 [sQ g D.length, iK a, iK b] (mQ g D) fun o m => o = .ret (.t []) ∧ m = mQ g (Go.Sort.breakPatterns D.toArray a b).toList := by
  generalize hR : Go.Sort.breakPatterns D.toArray a b = R
  rw [brk_rs _ (by omega)] at hR
  have hel0 : (D.map uK).length = D.length := List.length_map _
  have c1 := NextPow_ (b - a) (by omega)
  have hM := pow_le2 (n := b - a) (by omega)
  have hM0 : 0 < 2 ^ Go.Sort.bitsLen (b - a) := Nat.two_pow_pos _
  generalize 2 ^ Go.Sort.bitsLen (b - a) = M at *
  refine LM.enter tt Try.func97 rfl rfl rfl (by kernel_rfl) rfl rfl rfl (fun o mo h => by rw [h.2]; rfl) fun F _ => ?_
  refine wk ?_ trueW trueW
  have hr0 : (b - a) = (UInt64.ofNat (b - a)).toNat := by
    rw [UInt64.toNat_ofNat']
    exact (Nat.mod_eq_of_lt (by omega)).symm
  have hex : ∃ r : UInt64, b - a = r.toNat ∧ (rs a (b - a) M (a + (b - a) / 4 * 2 - 1) 3 (r, D.toArray)).2 = R := ⟨_, hr0, hR⟩
  clear hR hr0 c1
  generalize hi0 : a + (b - a) / 4 * 2 - 1 = i0 at *
  have hi1 : a ≤ i0 ∧ i0 + 2 < b := by omega
  have hend : a + (b - a) / 4 * 2 + 1 = i0 + 2 := by omega
  refine LC.loop5 (fun i k x S (_u4 : Unit) => [(0, .w 1000 g 1 0 D.length), (1, .k (.int .i64 ((a : Nat) : Int))), (6, .k (.int .i64 (((b - a) : Nat) : Int))), (7, .p 7 0), (8, uK M), (9, .k (.int .i64 ((i : Nat) : Int)))]) (fun i k x S (_u4 : Unit) => [(7, .b [uK x]), (1000, .w 24 1 g (S.map uK))]) (fun i k x S (_u4 : Unit) => k ≤ 3 ∧ i = i0 + k ∧ S.length = D.length ∧ ∃ r : UInt64, x = r.toNat ∧ (rs a (b - a) M i0 (3 - k) (r, S.toArray)).2 = R) ((i0 + 3 - ·)) (i0) (0) (b - a) (D) () ⟨by omega, rfl, rfl, hex⟩ ⟨rfl, rfl, rfl, rfl, rfl, rfl, trivial⟩ ⟨rfl, rfl, trivial⟩ rfl rfW rfW ?_
  clear hex hel0 hi0
  rintro i k x S _ ⟨hk, hi, hSl, r, hx, hS⟩
  have hel : (S.map uK).length = S.length := List.length_map _
  rcases Nat.lt_or_ge k 3 with h3 | h3
  · subst hx
    have c1 := Next_7 r
    rw [rs_at h3] at hS
    obtain ⟨o1, o2⟩ := oth_lt (x := xn r.toNat) hM0 hM
    have hxl := xn_lt r
    have hnx := xn_next r
    have hon : oth (b - a) M (xn r.toNat) = oth (b - a) M (xn r.toNat) := rfl
    subst hi
    have hok : k + 1 ≤ 3 ∧ i0 + k + 1 = i0 + (k + 1) ∧ ((S.set (i0 + k) (S.getD (a + oth (b - a) M (xn r.toNat)) default)).set (a + oth (b - a) M (xn r.toNat)) (S.getD (i0 + k) default)).length = D.length ∧ ∃ r' : UInt64, xn r.toNat = r'.toNat ∧ (rs a (b - a) M i0 (3 - (k + 1)) (r', ((S.set (i0 + k) (S.getD (a + oth (b - a) M (xn r.toNat)) default)).set (a + oth (b - a) M (xn r.toNat)) (S.getD (i0 + k) default)).toArray)).2 = R := ⟨h3, rfl, by rw [set_len2]; exact hSl, _, hnx, hS⟩
    have hel2 : ((S.set (i0 + k) (S.getD (a + oth (b - a) M (xn r.toNat)) default)).map uK).length = S.length := by rw [List.length_map, List.length_set]
    have hmu : i0 + 3 - (i0 + k + 1) < i0 + 3 - (i0 + k) := by omega
    clear hS hnx hon
    by_cases ho : b - a ≤ xn r.toNat &&& (M - 1)
    · rw [oth_y ho] at hok hel2 o1
      generalize xn r.toNat = y at *
      have hw : IntKind.i64.wrap (((y &&& (M - 1) : Nat) : Int) - ((b - a : Nat) : Int)) = (((y &&& (M - 1)) - (b - a) : Nat) : Int) := by
        rw [wrap_i64 (by omega)]
        omega
      exact wk trueW trueW trueW
    · rw [oth_n ho] at hok hel2 o1
      generalize xn r.toNat = y at *
      exact wk trueW trueW trueW
  · obtain rfl : k = 3 := by omega
    rw [show 3 - 3 = 0 from rfl, rs_zero] at hS
    have e := toA (show S.toArray = R from hS)
    rw [← e]
    clear hS e
    exact wk trueW trueW trueW
end Jq
end Lf
end Go.Proofs.Ytgjoecocahpfhaa

/- A part of the proof: texts joined. -/
import Derived.Test.YtgjoecocahpfhaaQ12779821
namespace Go.Proofs.Ytgjoecocahpfhaa
open Go.RowKit Rg
set_option linter.unusedVariables false
set_option maxRecDepth 100000
namespace Lf
namespace Jq
def xn (x : Nat) : Nat :=
  let a := x ^^^ (x * 2 ^ 13 % 2 ^ 64)
  let b := a ^^^ (a / 2 ^ 7)
  b ^^^ (b * 2 ^ 17 % 2 ^ 64)
theorem xn_next (r : UInt64) : xn r.toNat = (Go.Sort.xorNext r).toNat := by
  unfold xn Go.Sort.xorNext
  simp only [UInt64.toNat_xor, UInt64.toNat_shiftLeft, UInt64.toNat_shiftRight]
  simp [Nat.shiftLeft_eq, Nat.shiftRight_eq_div_pow]
theorem xn_lt (r : UInt64) : xn r.toNat < 18446744073709551616 := by rw [xn_next]; exact (Go.Sort.xorNext r).toNat_lt
set_option maxHeartbeats 4000000 in
theorem Next_ (r : UInt64) : LM Try.prog 109 [.p 1001 0] [(1001, .b [uK r.toNat])] fun o m => o = .ret (uK (xn r.toNat)) ∧ m = [(1001, .b [uK (xn r.toNat)])] := by
  have hr := r.toNat_lt
  have hx := xn_lt r
  generalize r.toNat = x at *
  have hm1 : x * 2 ^ 13 % 2 ^ 64 < 18446744073709551616 := Nat.mod_lt _ (by decide)
  have hA : x ^^^ x * 2 ^ 13 % 2 ^ 64 < 18446744073709551616 := Nat.xor_lt_two_pow (n := 64) hr hm1
  have hd : (x ^^^ x * 2 ^ 13 % 2 ^ 64) / 2 ^ 7 < 18446744073709551616 := Nat.lt_of_le_of_lt (Nat.div_le_self _ _) hA
  have hB : x ^^^ x * 2 ^ 13 % 2 ^ 64 ^^^ (x ^^^ x * 2 ^ 13 % 2 ^ 64) / 2 ^ 7 < 18446744073709551616 := Nat.xor_lt_two_pow (n := 64) hA hd
  have hm2 : (x ^^^ x * 2 ^ 13 % 2 ^ 64 ^^^ (x ^^^ x * 2 ^ 13 % 2 ^ 64) / 2 ^ 7) * 2 ^ 17 % 2 ^ 64 < 18446744073709551616 := Nat.mod_lt _ (by decide)
  unfold xn at *
  dsimp only at *
  refine LM.enter tt Try.func109 rfl rfl rfl (by kernel_rfl) rfl rfl rfl (fun o mo h => by rw [h.2]; rfl) fun F _ => ?_
  exact wk trueW trueW trueW
theorem bl_pos {n : Nat} (h : 0 < n) : Go.Sort.bitsLen n = Nat.log2 n + 1 := by unfold Go.Sort.bitsLen; rw [if_neg (by omega)]
theorem bl_div {n s : Nat} (h : 2 ^ s ≤ n) : Go.Sort.bitsLen n = Go.Sort.bitsLen (n / 2 ^ s) + s := by
  have hp : 0 < 2 ^ s := Nat.two_pow_pos s
  have h1 : 0 < n / 2 ^ s := Nat.div_pos h hp
  rw [bl_pos (by omega), bl_pos h1]
  have e : Nat.log2 n = Nat.log2 (n / 2 ^ s) + s := by
    rw [Nat.log2_eq_iff (by omega)]
    have h2 := (Nat.log2_eq_iff (n := n / 2 ^ s) (k := Nat.log2 (n / 2 ^ s)) (by omega)).1 rfl
    rw [Nat.pow_add]
    refine ⟨?_, ?_⟩
    · exact (Nat.le_div_iff_mul_le hp).1 h2.1
    · have := (Nat.div_lt_iff_lt_mul hp).1 h2.2
      rw [show Nat.log2 (n / 2 ^ s) + s + 1 = Nat.log2 (n / 2 ^ s) + 1 + s by omega, Nat.pow_add]
      exact this
  omega
theorem bl_lt {n k : Nat} (h : n < 2 ^ k) : Go.Sort.bitsLen n ≤ k := by
  rcases Nat.eq_zero_or_pos n with h0 | h0
  · subst h0; exact Nat.zero_le _
  · rw [bl_pos h0]
    exact (Nat.log2_lt (by omega)).2 h
def len8 : List UInt8 := [0] ++ [1] ++ List.replicate 2 2 ++ List.replicate 4 3 ++ List.replicate 8 4 ++ List.replicate 16 5 ++ List.replicate 32 6 ++ List.replicate 64 7 ++ List.replicate 128 8
theorem len8_at : ∀ n, n < 256 → (len8.getD n default).toNat = Go.Sort.bitsLen n := by decide +kernel
set_option maxHeartbeats 4000000 in
theorem Len64_ (x : Nat) (h : x < 2147483648) : LF Try.prog 105 [uK x] (fun _ => .k (.int .i64 ((Go.Sort.bitsLen x : Nat) : Int))) none := by
  have hb := bl_lt (n := x) (k := 31) h
  refine LFx.mk' tt Try.func105 rfl rfl rfl (by kernel_rfl) rfl rfl fun F => ?_
  by_cases h1 : 65536 ≤ x
  · have e1 := bl_div (n := x) (s := 16) h1
    by_cases h2 : 256 ≤ x / 2 ^ 16
    · have e2 := bl_div (n := x / 2 ^ 16) (s := 8) h2
      have hk : x / 2 ^ 16 / 2 ^ 8 < 256 := by omega
      have hL : Go.Sort.bitsLen (x / 2 ^ 16 / 2 ^ 8) ≤ 31 := by omega
      have hw : IntKind.i64.wrap (0 + 16 + 8 + ((Go.Sort.bitsLen (x / 2 ^ 16 / 2 ^ 8) : Nat) : Int)) = ((Go.Sort.bitsLen x : Nat) : Int) := by
        rw [wrap_i64 (by omega)]
        omega
      refine wk ?_ trueW trueW
      unfold LRet
      refine LFin.memV rfl trivial rfl ?_
      show V.k (.int .i64 (IntKind.i64.wrap (0 + 16 + 8 + IntKind.i64.wrap (((len8.getD (x / 2 ^ 16 / 2 ^ 8) default).toNat : Nat) : Int)))) = _
      rw [len8_at _ hk, wrap_i64 (z := ((Go.Sort.bitsLen (x / 2 ^ 16 / 2 ^ 8) : Nat) : Int)) (by omega), hw]
    · have hk : x / 2 ^ 16 < 256 := by omega
      have hL : Go.Sort.bitsLen (x / 2 ^ 16) ≤ 31 := by omega
      have hw : IntKind.i64.wrap (0 + 16 + ((Go.Sort.bitsLen (x / 2 ^ 16) : Nat) : Int)) = ((Go.Sort.bitsLen x : Nat) : Int) := by
        rw [wrap_i64 (by omega)]
        omega
      refine wk ?_ trueW trueW
      unfold LRet
      refine LFin.memV rfl trivial rfl ?_
      show V.k (.int .i64 (IntKind.i64.wrap (0 + 16 + IntKind.i64.wrap (((len8.getD (x / 2 ^ 16) default).toNat : Nat) : Int)))) = _
      rw [len8_at _ hk, wrap_i64 (z := ((Go.Sort.bitsLen (x / 2 ^ 16) : Nat) : Int)) (by omega), hw]
  · by_cases h2 : 256 ≤ x
    · have e2 := bl_div (n := x) (s := 8) h2
      have hk : x / 2 ^ 8 < 256 := by omega
      have hL : Go.Sort.bitsLen (x / 2 ^ 8) ≤ 31 := by omega
      have hw : IntKind.i64.wrap (0 + 8 + ((Go.Sort.bitsLen (x / 2 ^ 8) : Nat) : Int)) = ((Go.Sort.bitsLen x : Nat) : Int) := by
        rw [wrap_i64 (by omega)]
        omega
      refine wk ?_ trueW trueW
      unfold LRet
      refine LFin.memV rfl trivial rfl ?_
      show V.k (.int .i64 (IntKind.i64.wrap (0 + 8 + IntKind.i64.wrap (((len8.getD (x / 2 ^ 8) default).toNat : Nat) : Int)))) = _
      rw [len8_at _ hk, wrap_i64 (z := ((Go.Sort.bitsLen (x / 2 ^ 8) : Nat) : Int)) (by omega), hw]
    · have hk : x < 256 := by omega
      have hL : Go.Sort.bitsLen (x) ≤ 31 := by omega
      have hw : IntKind.i64.wrap (0 + ((Go.Sort.bitsLen (x) : Nat) : Int)) = ((Go.Sort.bitsLen x : Nat) : Int) := by
        rw [wrap_i64 (by omega)]
        omega
      refine wk ?_ trueW trueW
      unfold LRet
      refine LFin.memV rfl trivial rfl ?_
      show V.k (.int .i64 (IntKind.i64.wrap (0 + IntKind.i64.wrap (((len8.getD (x) default).toNat : Nat) : Int)))) = _
      rw [len8_at _ hk, wrap_i64 (z := ((Go.Sort.bitsLen (x) : Nat) : Int)) (by omega), hw]
theorem Len_ (x : Nat) (h : x < 2147483648) : LF Try.prog 92 [uK x] (fun _ => .k (.int .i64 ((Go.Sort.bitsLen x : Nat) : Int))) none := by
  have c1 := Len64_ x h
  refine LFx.mk' tt Try.func92 rfl rfl rfl (by kernel_rfl) rfl rfl fun F => ?_
  exact wk trueW trueW trueW
attribute [irreducible] xn
end Jq
end Lf
open Go.RowKit Rg
set_option linter.unusedVariables false
set_option maxRecDepth 100000
namespace Lf
namespace Jq
theorem NextPow_ (x : Nat) (h : x < 2147483648) : LF Try.prog 108 [iK x] (fun _ => uK (2 ^ Go.Sort.bitsLen x)) none := by
  have c1 := Len_ x h
  have hL := bl_lt (n := x) (k := 31) h
  have hp : (2 : Nat) ^ Go.Sort.bitsLen x ≤ 2 ^ 31 := Nat.pow_le_pow_right (by decide) hL
  have hw : IntKind.u64.wrap (1 * 2 ^ (min (((Go.Sort.bitsLen x : Nat) : Int)).toNat IntKind.u64.bits)) = ((2 ^ Go.Sort.bitsLen x : Nat) : Int) := by
    have e : min (((Go.Sort.bitsLen x : Nat) : Int)).toNat IntKind.u64.bits = Go.Sort.bitsLen x := by
      show min _ 64 = _
      omega
    rw [e, Int.one_mul, show (2 : Int) ^ Go.Sort.bitsLen x = ((2 ^ Go.Sort.bitsLen x : Nat) : Int) by simp]
    refine wrap_u64 ⟨Int.natCast_nonneg _, ?_⟩
    have : ((2 ^ Go.Sort.bitsLen x : Nat) : Int) ≤ ((2 ^ 31 : Nat) : Int) := Int.ofNat_le.2 hp
    exact Int.le_trans this (by decide)
  generalize Go.Sort.bitsLen x = L at *
  refine LFx.mk' tt Try.func108 rfl rfl rfl (by kernel_rfl) rfl rfl fun F => ?_
  exact wk trueW trueW trueW
def rs (a l m i0 : Nat) : Nat → UInt64 × Array Nat → UInt64 × Array Nat
  | 0, st => st
  | j + 1, st => rs a l m i0 j (Go.Sort.breakStep a l m st (i0 + (3 - (j + 1))))
theorem brk_rs (d : Array Nat) {a b : Nat} (h : b - a ≥ 8) : Go.Sort.breakPatterns d a b = (rs a (b - a) (2 ^ Go.Sort.bitsLen (b - a)) (a + (b - a) / 4 * 2 - 1) 3 (UInt64.ofNat (b - a), d)).2 := by
  unfold Go.Sort.breakPatterns
  simp only [if_pos h, rs, Nat.one_shiftLeft]
  rfl
theorem pow_le2 {n : Nat} (h : 0 < n) : 2 ^ Go.Sort.bitsLen n ≤ 2 * n := by
  rw [bl_pos h, Nat.pow_succ]
  have := ((Nat.log2_eq_iff (n := n) (k := Nat.log2 n) (by omega)).1 rfl).1
  omega
def oth (l m x : Nat) : Nat := if x &&& (m - 1) ≥ l then (x &&& (m - 1)) - l else x &&& (m - 1)
theorem bs_eq (a l m idx : Nat) (r : UInt64) (S : List Nat) : Go.Sort.breakStep a l m (r, S.toArray) idx = (Go.Sort.xorNext r, ((S.set idx (S.getD (a + oth l m (xn r.toNat)) default)).set (a + oth l m (xn r.toNat)) (S.getD idx default)).toArray) := by
  unfold Go.Sort.breakStep oth
  dsimp only
  rw [swp_l, xn_next]
theorem Next_7 (r : UInt64) : LM Try.prog 109 [.p 7 0] [(7, .b [uK r.toNat])] fun o m => o = .ret (uK (xn r.toNat)) ∧ m = [(7, .b [uK (xn r.toNat)])] :=
  LM.gen [1001] [7] (by simp) (by simp) rfl (Next_ r) fun ρ hρ => by
    simp at hρ
    exact ⟨by simp [V.ren, hρ], by simp [Mem.ren, M.ren, hρ]; rfl, rfl, by simp [Mem.ren, M.ren, hρ]; rfl⟩
theorem rs_zero (a l m i0 : Nat) (st : UInt64 × Array Nat) : rs a l m i0 0 st = st := rfl
theorem rs_at {a l m i0 k : Nat} (h : k < 3) (r : UInt64) (S : List Nat) : rs a l m i0 (3 - k) (r, S.toArray) = rs a l m i0 (3 - (k + 1)) (Go.Sort.xorNext r, ((S.set (i0 + k) (S.getD (a + oth l m (xn r.toNat)) default)).set (a + oth l m (xn r.toNat)) (S.getD (i0 + k) default)).toArray) := by
  obtain ⟨j, hj⟩ : ∃ j, 3 - k = j + 1 := ⟨3 - k - 1, by omega⟩
  rw [hj, show 3 - (k + 1) = j by omega, rs, show i0 + (3 - (j + 1)) = i0 + k by omega, bs_eq]
theorem oth_lt {l m x : Nat} (h0 : 0 < m) (hm : m ≤ 2 * l) : oth l m x < l ∧ x &&& (m - 1) < m := by
  have h1 : x &&& (m - 1) ≤ m - 1 := Nat.and_le_right
  unfold oth
  split <;> omega
theorem oth_y {l m x : Nat} (h : l ≤ x &&& (m - 1)) : oth l m x = (x &&& (m - 1)) - l := if_pos h
theorem oth_n {l m x : Nat} (h : ¬ l ≤ x &&& (m - 1)) : oth l m x = x &&& (m - 1) := if_neg h
attribute [irreducible] rs oth
end Jq
end Lf
end Go.Proofs.Ytgjoecocahpfhaa

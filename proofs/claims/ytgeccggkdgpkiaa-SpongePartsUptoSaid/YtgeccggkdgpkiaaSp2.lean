/- The sponge: walks of Mix, Unmix, read, write8. -/
import Derived.Test.YtgeccggkdgpkiaaSp1
import Derived.Test.YtgeccggkdgpkiaaLz
namespace Go.Proofs.Ytgeccggkdgpkiaa
open Go.RowKit Rg
namespace Lf
namespace Sp
theorem Rotl (x : UInt64) (k : Nat) (h : k < 64) : LF Try.prog 38 [qK x, .k (.int .i64 (k : Int))] (fun _ => qK (rotl x k)) none := by
  have h1 : IntKind.u64.wrap ((k : Nat) : Int) = ((k : Nat) : Int) := wrap_u64 (by omega)
  have h2 : IntKind.u64.wrap (((BitVec.ofInt IntKind.u64.bits (k : Int) &&& BitVec.ofInt IntKind.u64.bits (63 : Int)).toNat : Nat) : Int) = ((k : Nat) : Int) := by
    have := and_u64 (a := k) (b := 63) (by omega) (by decide)
    rw [show (k &&& 63) = k from by rw [show (63 : Nat) = 2 ^ 6 - 1 from rfl, Nat.and_two_pow_sub_one_eq_mod]; exact Nat.mod_eq_of_lt h] at this
    exact this
  have h3 := x.toNat_lt
  have h4 : x.toNat * 2 ^ k % 2 ^ 64 < 18446744073709551616 := Nat.mod_lt _ (by decide)
  have h5 : x.toNat / 2 ^ (64 - k) < 18446744073709551616 := Nat.lt_of_le_of_lt (Nat.div_le_self _ _) h3
  unfold qK
  rw [rotl_toNat]
  refine LFx.mk' tt Try.func38 rfl rfl rfl (by kernel_rfl) rfl rfl fun F => ?_
  exact wk trueW trueW trueW
set_option maxHeartbeats 1000000 in
theorem Mix (s : List UInt64) (hs : s.length = 8) : LF Try.prog 17 [.a (s.map qK)] (fun _ => .a ((mixQ s).map qK)) none := by
  have c1 := Rotl
  refine LFx.mk' tt Try.func17 rfl rfl rfl (by kernel_rfl) rfl rfl fun F => ?_
  refine wk ?_ trueW trueW
  refine LC.loop2 (fun r S => [(1, .p 1 0), (2, .p 2 0), (5, .k (.int .i64 (r : Int)))]) (fun r S => [(1, .b (S.map qK)), (2, .b (List.replicate 8 (.k (.int .u64 0))))]) (fun r S => r ≤ 12 ∧ S = iter qround s r) (12 - ·) 0 s ⟨by omega, rfl⟩ ⟨rfl, rfl, rfl, trivial⟩ ⟨rfl, rfl, trivial⟩ rfl rfl (by first | exact rfl | (simp only [V.cells, refsE, refsM, V.refs, V.refs.go, refs_mapq, refs_mapb, refs_append, Bool.and_true, Bool.true_and, Bool.and_self, keysOk]; done) | (simp only [V.cells, refsE, refsM, V.refs, V.refs.go, refs_mapq, refs_mapb, refs_append, Bool.and_true, Bool.true_and, Bool.and_self]; exact rfl)) fun r S ⟨hr, hS⟩ => ?_
  have hl : S.length = 8 := hS ▸ (iter_len qround_len s r).trans hs
  rcases Nat.lt_or_ge r 12 with h | h
  · refine wk ?_ trueW trueW
    refine LC.loop2 (fun i S => [(1, .p 1 0), (2, .p 2 0), (5, .k (.int .i64 (r : Int))), (16, .k (.int .i64 (i : Int)))]) (fun i S => [(1, .b (S.map qK)), (2, .b (List.replicate 8 (.k (.int .u64 0))))]) (fun i S2 => i ≤ 8 ∧ S2 = iter qstep (qkey S r) i) (8 - ·) 0 (qkey S r) ⟨by omega, rfl⟩ ⟨rfl, rfl, rfl, rfl, trivial⟩ ⟨rfl, rfl, trivial⟩ rfl rfl (by first | exact rfl | (simp only [V.cells, refsE, refsM, V.refs, V.refs.go, refs_mapq, refs_mapb, refs_append, Bool.and_true, Bool.true_and, Bool.and_self, keysOk]; done) | (simp only [V.cells, refsE, refsM, V.refs, V.refs.go, refs_mapq, refs_mapb, refs_append, Bool.and_true, Bool.true_and, Bool.and_self]; exact rfl)) fun i S2 ⟨hi, hS2⟩ => ?_
    have hl2 : S2.length = 8 := hS2 ▸ (iter_len qstep_len _ i).trans ((qkey_len _ _).trans hl)
    rcases Nat.lt_or_ge i 8 with h2 | h2
    · have hok : i + 1 ≤ 8 ∧ qstep S2 i = iter qstep (qkey S r) (i + 1) := ⟨by omega, by rw [iter, ← hS2]⟩
      exact wk trueW trueW trueW
    · obtain rfl : i = 8 := by omega
      have hok : r + 1 ≤ 12 ∧ S2 = iter qround s (r + 1) := ⟨by omega, by rw [iter, ← hS]; exact hS2⟩
      exact wk trueW trueW trueW
  · obtain rfl : r = 12 := by omega
    have hv : V.a (S.map qK) = V.a ((mixQ s).map qK) := congrArg (fun z => V.a (List.map qK z)) (hS.trans (mixQ_eq s).symm)
    exact wk trueW trueW trueW
set_option maxHeartbeats 1000000 in
theorem Unmix (s : List UInt64) (hs : s.length = 8) : LF Try.prog 16 [.a (s.map qK)] (fun _ => .a ((unmixQ s).map qK)) none := by
  have c1 := Rotl
  refine LFx.mk' tt Try.func16 rfl rfl rfl (by kernel_rfl) rfl rfl fun F => ?_
  refine wk ?_ trueW trueW
  refine LC.loop2 (fun r S => [(1, .p 1 0), (2, .p 2 0), (3, .k (.int .i64 (r : Int)))]) (fun r S => [(1, .b (S.map qK)), (2, .b (List.replicate 8 (.k (.int .u64 0))))]) (fun r S => r ≤ 12 ∧ S = iter uround s (12 - r)) (fun r => r) 12 s ⟨by omega, by rw [Nat.sub_self]; rfl⟩ ⟨rfl, rfl, rfl, trivial⟩ ⟨rfl, rfl, trivial⟩ rfl rfl (by first | exact rfl | (simp only [V.cells, refsE, refsM, V.refs, V.refs.go, refs_mapq, refs_mapb, refs_append, Bool.and_true, Bool.true_and, Bool.and_self, keysOk]; done) | (simp only [V.cells, refsE, refsM, V.refs, V.refs.go, refs_mapq, refs_mapb, refs_append, Bool.and_true, Bool.true_and, Bool.and_self]; exact rfl)) fun r S ⟨hr, hS⟩ => ?_
  have hl : S.length = 8 := hS ▸ (iter_len uround_len s _).trans hs
  rcases Nat.eq_zero_or_pos r with h | h
  · subst h
    have hv : V.a (S.map qK) = V.a ((unmixQ s).map qK) := congrArg (fun z => V.a (List.map qK z)) (hS.trans (unmixQ_eq s).symm)
    exact wk trueW trueW trueW
  · obtain ⟨m, rfl⟩ : ∃ m, r = m + 1 := ⟨r - 1, by omega⟩
    refine wk ?_ trueW trueW
    refine LC.loop2 (fun j S => [(1, .p 1 0), (2, .p 2 0), (3, .k (.int .i64 ((m + 1 : Nat) : Int))), (4, .k (.int .i64 ((j : Int) - 1)))]) (fun j S => [(1, .b (S.map qK)), (2, .b (List.replicate 8 (.k (.int .u64 0))))]) (fun j S2 => j ≤ 8 ∧ S2 = iter ustep S (8 - j)) (fun j => j) 8 S ⟨by omega, by rw [Nat.sub_self]; rfl⟩ ⟨rfl, rfl, rfl, rfl, trivial⟩ ⟨rfl, rfl, trivial⟩ rfl rfl (by first | exact rfl | (simp only [V.cells, refsE, refsM, V.refs, V.refs.go, refs_mapq, refs_mapb, refs_append, Bool.and_true, Bool.true_and, Bool.and_self, keysOk]; done) | (simp only [V.cells, refsE, refsM, V.refs, V.refs.go, refs_mapq, refs_mapb, refs_append, Bool.and_true, Bool.true_and, Bool.and_self]; exact rfl)) fun j S2 ⟨hi, hS2⟩ => ?_
    have hl2 : S2.length = 8 := hS2 ▸ (iter_len ustep_len _ _).trans hl
    rcases Nat.eq_zero_or_pos j with h2 | h2
    · subst h2
      have hw := @wrap_u64 ((m + 1 : Nat) : Int) (by omega)
      have e0 : 12 - m = (11 - m) + 1 := by omega
      have e1 : 12 - (m + 1) = 11 - m := by omega
      have hok : m + 1 - 1 ≤ 12 ∧ qkey S2 m = iter uround s (12 - (m + 1 - 1)) := ⟨by omega, by
        rw [Nat.add_sub_cancel, e0, iter, ← e1, ← hS, hS2, e1]
        unfold uround
        rw [show 11 - (11 - m) = m from by omega]⟩
      clear e0 e1
      exact wk trueW trueW trueW
    · obtain ⟨k, rfl⟩ : ∃ k, j = k + 1 := ⟨j - 1, by omega⟩
      have e : ((k + 1 : Nat) : Int) - 1 = (k : Int) := by omega
      have hok : k ≤ 8 ∧ ustep S2 (7 - k) = iter ustep S (8 - k) := ⟨by omega, by rw [show 8 - k = (8 - (k + 1)) + 1 from by omega, iter, ← hS2]; congr 1; omega⟩
      have e7 : 7 - (7 - k) = k := by omega
      unfold ustep at hok
      rw [e7] at hok
      rw [e]
      clear e e7
      exact wk trueW trueW trueW
end Sp
end Lf
end Go.Proofs.Ytgeccggkdgpkiaa

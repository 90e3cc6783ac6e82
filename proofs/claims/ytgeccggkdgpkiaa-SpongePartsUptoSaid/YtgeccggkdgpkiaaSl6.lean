/- Grow from nil and Concat of slices of bytes. -/
import Derived.Test.YtgeccggkdgpkiaaSl5
namespace Go.Proofs.Ytgeccggkdgpkiaa
open Go.RowKit Rg
namespace Lf
abbrev bbV (l : List (List UInt8)) : V := .s none (l.map bV)
namespace Sl6
set_option maxHeartbeats 1000000 in
theorem GrowBB (n : Nat) (hn : n < 1073741824) (k : Nat) : LM Try.prog 43 [.nil, .k (.int .i64 (n : Int))] [] fun o m => o = .ret (.s (some k) []) ∧ m = [(k, .r 28 1 0)] := by
  rcases Nat.eq_zero_or_pos n with h0 | h0
  · subst h0
    refine LM.nilrow _ _ k rfl ?_
    refine LFx.mk' tt Try.func43 rfl rfl rfl (by kernel_rfl) rfl rfl fun F => ?_
    refine wk ?_ trueW trueW
    refine DR.pp rfl rfl (Does.capNil tt rfl rfl rfl rfl rfl) rfl ?_
    exact wk trueW trueW trueW
  · refine LM.row1 (k0 := 22) (fun _ => rfl) ?_ k
    refine LFx.mk' tt Try.func43 rfl rfl rfl (by kernel_rfl) rfl rfl fun F => ?_
    refine wk ?_ trueW trueW
    refine DR.pp rfl rfl (Does.capNil tt rfl rfl rfl rfl rfl) rfl ?_
    refine wk ?_ trueW trueW
    refine DR.pp rfl rfl (Does.capNil tt rfl rfl rfl rfl rfl) rfl ?_
    refine DR.pp rfl rfl (Does.cutNil tt rfl rfl rfl rfl rfl (.some rfl rfl)) rfl ?_
    refine wk ?_ trueW trueW
    refine DR.nn rfl rfl (Does.appMake (n := n) tt rfl rfl rfl rfl rfl rfl rfl rfl rfl rfl h0 (by omega) (by show n * 24 ≤ _; omega)) rfl rfl ?_
    refine wk ?_ trueW trueW
    refine DR.ww rfl rfl (Does.cutW0 tt rfl rfl rfl rfl rfl (.some rfl rfl)) rfl rfl ?_
    exact wk trueW trueW trueW
set_option maxHeartbeats 1000000 in
theorem ConcatBB (ls : List (List (List UInt8))) (h1 : ls.length < 1073741824) (h2 : ls.flatten.length < 1073741824) (k : Nat) : LM Try.prog 24 [.s none (ls.map bbV)] [] fun o m => o = .ret (.s (some k) (ls.flatten.map bV)) ∧ m = [(k, .r 28 1 ls.flatten.length)] := by
  refine LM.row1 (k0 := 24) (fun ρ => by simp [V.ren]) ?_ k
  have c1 := Sl6.GrowBB ls.flatten.length h2 24
  refine LFx.mk' tt Try.func24 rfl rfl rfl (by kernel_rfl) rfl rfl fun F => ?_
  refine wk ?_ trueW trueW
  refine LC.loopN (fun i => [(0, .s none (ls.map bbV)), (2, .nil), (3, .k (.int .i64 (((ls.take i).flatten.length : Nat) : Int))), (9, .s none (ls.map bbV)), (10, .k (.int .i64 ((ls.length : Nat) : Int))), (11, .k (.int .i64 ((i : Nat) : Int)))]) (fun i => []) (fun i => i ≤ ls.length) ((ls.length - ·)) (0) (by omega) ⟨rfl, rfl, rfl, rfl, rfl, rfl, trivial⟩ trivial rfl (by first | exact rfl | (simp only [V.cells, refsE, refsM, V.refs, V.refs.go, V.pure, V.pure.go, pure_mapq, pure_mapb, refs_mapq, refs_mapb, refs_append, Bool.and_true, Bool.true_and, Bool.and_self] <;> exact rfl) | (simp only [V.cells, refsE, refsM, V.refs, V.refs.go, V.pure, V.pure.go, pure_mapq, pure_mapb, refs_mapq, refs_mapb, refs_append, Bool.and_true, Bool.true_and, Bool.and_self, hrf] <;> exact rfl) | (simp only [V.cells, refsE, refsM, V.refs, V.refs.go, V.pure, V.pure.go, pure_mapq, pure_mapb, refs_mapq, refs_mapb, refs_append, Bool.and_true, Bool.true_and, Bool.and_self, hrf, hrg] <;> exact rfl) | exact lz) (by first | exact rfl | (simp only [V.cells, refsE, refsM, V.refs, V.refs.go, V.pure, V.pure.go, pure_mapq, pure_mapb, refs_mapq, refs_mapb, refs_append, Bool.and_true, Bool.true_and, Bool.and_self] <;> exact rfl) | (simp only [V.cells, refsE, refsM, V.refs, V.refs.go, V.pure, V.pure.go, pure_mapq, pure_mapb, refs_mapq, refs_mapb, refs_append, Bool.and_true, Bool.true_and, Bool.and_self, hrf] <;> exact rfl) | (simp only [V.cells, refsE, refsM, V.refs, V.refs.go, V.pure, V.pure.go, pure_mapq, pure_mapb, refs_mapq, refs_mapb, refs_append, Bool.and_true, Bool.true_and, Bool.and_self, hrf, hrg] <;> exact rfl) | exact lz) ?_
  intro i hi
  have q1 := flat_le (ls := ls) (i := i)
  rcases Nat.lt_or_ge i ls.length with h3 | h3
  · have hok : i + 1 ≤ ls.length := h3
    have q2 := flat_takeL h3
    have q3 := flat_le (ls := ls) (i := i + 1)
    refine wk ?_ trueW trueW
    rw [← q2]
    exact wk trueW trueW trueW
  · obtain rfl : i = ls.length := by omega
    rw [List.take_length]
    refine wk ?_ trueW trueW
    refine LC.loopN (fun j => [(2, .nil), (6, .s (some 24) ((ls.take j).flatten.map bV)), (25, .s none (ls.map bbV)), (26, .k (.int .i64 ((ls.length : Nat) : Int))), (27, .k (.int .i64 ((j : Nat) : Int)))]) (fun j => [(24, .r 28 1 (ls.take j).flatten.length)]) (fun j => j ≤ ls.length) ((ls.length - ·)) (0) (by omega) ⟨rfl, rfl, rfl, rfl, rfl, trivial⟩ ⟨rfl, trivial⟩ rfl (by first | exact rfl | (simp only [V.cells, refsE, refsM, V.refs, V.refs.go, V.pure, V.pure.go, pure_mapq, pure_mapb, refs_mapq, refs_mapb, refs_append, Bool.and_true, Bool.true_and, Bool.and_self] <;> exact rfl) | (simp only [V.cells, refsE, refsM, V.refs, V.refs.go, V.pure, V.pure.go, pure_mapq, pure_mapb, refs_mapq, refs_mapb, refs_append, Bool.and_true, Bool.true_and, Bool.and_self, hrf] <;> exact rfl) | (simp only [V.cells, refsE, refsM, V.refs, V.refs.go, V.pure, V.pure.go, pure_mapq, pure_mapb, refs_mapq, refs_mapb, refs_append, Bool.and_true, Bool.true_and, Bool.and_self, hrf, hrg] <;> exact rfl) | exact lz) (by first | exact rfl | (simp only [V.cells, refsE, refsM, V.refs, V.refs.go, V.pure, V.pure.go, pure_mapq, pure_mapb, refs_mapq, refs_mapb, refs_append, Bool.and_true, Bool.true_and, Bool.and_self] <;> exact rfl) | (simp only [V.cells, refsE, refsM, V.refs, V.refs.go, V.pure, V.pure.go, pure_mapq, pure_mapb, refs_mapq, refs_mapb, refs_append, Bool.and_true, Bool.true_and, Bool.and_self, hrf] <;> exact rfl) | (simp only [V.cells, refsE, refsM, V.refs, V.refs.go, V.pure, V.pure.go, pure_mapq, pure_mapb, refs_mapq, refs_mapb, refs_append, Bool.and_true, Bool.true_and, Bool.and_self, hrf, hrg] <;> exact rfl) | exact lz) ?_
    intro j hj
    have q1 := flat_le (ls := ls) (i := j)
    have q0 : ((ls.take j).flatten.map bV).length = (ls.take j).flatten.length := List.length_map _
    rcases Nat.lt_or_ge j ls.length with h4 | h4
    · have hok : j + 1 ≤ ls.length := h4
      have q2 := flat_takeL h4
      have q4 := flat_take h4
      have q3 := flat_le (ls := ls) (i := j + 1)
      refine wk ?_ trueW trueW
      rw [← q4]
      exact wk trueW trueW trueW
    · obtain rfl : j = ls.length := by omega
      rw [List.take_length]
      exact wk trueW trueW trueW
end Sl6
end Lf
end Go.Proofs.Ytgeccggkdgpkiaa

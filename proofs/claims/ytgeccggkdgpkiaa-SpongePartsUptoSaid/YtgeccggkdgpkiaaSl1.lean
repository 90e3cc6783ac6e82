/- Slices of bytes held against each other. -/
import Derived.Test.YtgeccggkdgpkiaaLz
namespace Go.Proofs.Ytgeccggkdgpkiaa
open Go.RowKit Rg
namespace Lf
theorem take_eq_succ {a b : List UInt8} {i : Nat} (h : a.take i = b.take i) (ha : i < a.length) (hb : i < b.length) (he : a.getD i default = b.getD i default) : a.take (i + 1) = b.take (i + 1) := by
  rw [List.take_succ_eq_append_getElem ha, List.take_succ_eq_append_getElem hb, h]
  simp [List.getD_eq_getElem?_getD, ha, hb] at he
  rw [he]
namespace Sl1
set_option maxHeartbeats 1000000 in
theorem Equal (a b : List UInt8) (ha : a.length < 1073741824) (hb : b.length < 1073741824) : LF Try.prog 19 [.s none (a.map bK), .s none (b.map bK)] (fun _ => .k (.bool (decide (a = b)))) none := by
  by_cases hl : a.length = b.length
  · by_cases h : a = b
    · subst h
      have hd : decide (a = a) = true := by simp
      rw [hd]
      refine LFx.mk' tt Try.func19 rfl rfl rfl (by kernel_rfl) rfl rfl fun F => ?_
      refine wk ?_ trueW trueW
      refine LC.loopN (fun i => [(0, .s none (a.map bK)), (1, .s none (a.map bK)), (4, .k (.bool false)), (12, .k (.int .i64 ((a.length : Nat) : Int))), (13, .k (.int .i64 ((i : Nat) : Int)))]) (fun i => []) (fun i => i ≤ a.length) ((a.length - ·)) (0) (by omega) ⟨rfl, rfl, rfl, rfl, rfl, trivial⟩ trivial rfl (by first | exact rfl | (simp only [V.cells, refsE, refsM, V.refs, V.refs.go, V.pure, V.pure.go, pure_mapq, pure_mapb, refs_mapq, refs_mapb, refs_append, Bool.and_true, Bool.true_and, Bool.and_self] <;> exact rfl) | (simp only [V.cells, refsE, refsM, V.refs, V.refs.go, V.pure, V.pure.go, pure_mapq, pure_mapb, refs_mapq, refs_mapb, refs_append, Bool.and_true, Bool.true_and, Bool.and_self, hrf] <;> exact rfl) | (simp only [V.cells, refsE, refsM, V.refs, V.refs.go, V.pure, V.pure.go, pure_mapq, pure_mapb, refs_mapq, refs_mapb, refs_append, Bool.and_true, Bool.true_and, Bool.and_self, hrf, hrg] <;> exact rfl) | exact lz) (by first | exact rfl | (simp only [V.cells, refsE, refsM, V.refs, V.refs.go, V.pure, V.pure.go, pure_mapq, pure_mapb, refs_mapq, refs_mapb, refs_append, Bool.and_true, Bool.true_and, Bool.and_self] <;> exact rfl) | (simp only [V.cells, refsE, refsM, V.refs, V.refs.go, V.pure, V.pure.go, pure_mapq, pure_mapb, refs_mapq, refs_mapb, refs_append, Bool.and_true, Bool.true_and, Bool.and_self, hrf] <;> exact rfl) | (simp only [V.cells, refsE, refsM, V.refs, V.refs.go, V.pure, V.pure.go, pure_mapq, pure_mapb, refs_mapq, refs_mapb, refs_append, Bool.and_true, Bool.true_and, Bool.and_self, hrf, hrg] <;> exact rfl) | exact lz) ?_
      intro i hi
      rcases Nat.lt_or_ge i a.length with h2 | h2
      · have hok : i + 1 ≤ a.length := h2
        exact wk trueW trueW trueW
      · obtain rfl : i = a.length := by omega
        exact wk trueW trueW trueW
    · have hd : decide (a = b) = false := by simp [h]
      rw [hd]
      refine LFx.mk' tt Try.func19 rfl rfl rfl (by kernel_rfl) rfl rfl fun F => ?_
      refine wk ?_ trueW trueW
      refine LC.loopN (fun i => [(0, .s none (a.map bK)), (1, .s none (b.map bK)), (4, .k (.bool false)), (12, .k (.int .i64 ((a.length : Nat) : Int))), (13, .k (.int .i64 ((i : Nat) : Int)))]) (fun i => []) (fun i => i ≤ a.length ∧ a.take i = b.take i) ((a.length - ·)) (0) ⟨by omega, rfl⟩ ⟨rfl, rfl, rfl, rfl, rfl, trivial⟩ trivial rfl (by first | exact rfl | (simp only [V.cells, refsE, refsM, V.refs, V.refs.go, V.pure, V.pure.go, pure_mapq, pure_mapb, refs_mapq, refs_mapb, refs_append, Bool.and_true, Bool.true_and, Bool.and_self] <;> exact rfl) | (simp only [V.cells, refsE, refsM, V.refs, V.refs.go, V.pure, V.pure.go, pure_mapq, pure_mapb, refs_mapq, refs_mapb, refs_append, Bool.and_true, Bool.true_and, Bool.and_self, hrf] <;> exact rfl) | (simp only [V.cells, refsE, refsM, V.refs, V.refs.go, V.pure, V.pure.go, pure_mapq, pure_mapb, refs_mapq, refs_mapb, refs_append, Bool.and_true, Bool.true_and, Bool.and_self, hrf, hrg] <;> exact rfl) | exact lz) (by first | exact rfl | (simp only [V.cells, refsE, refsM, V.refs, V.refs.go, V.pure, V.pure.go, pure_mapq, pure_mapb, refs_mapq, refs_mapb, refs_append, Bool.and_true, Bool.true_and, Bool.and_self] <;> exact rfl) | (simp only [V.cells, refsE, refsM, V.refs, V.refs.go, V.pure, V.pure.go, pure_mapq, pure_mapb, refs_mapq, refs_mapb, refs_append, Bool.and_true, Bool.true_and, Bool.and_self, hrf] <;> exact rfl) | (simp only [V.cells, refsE, refsM, V.refs, V.refs.go, V.pure, V.pure.go, pure_mapq, pure_mapb, refs_mapq, refs_mapb, refs_append, Bool.and_true, Bool.true_and, Bool.and_self, hrf, hrg] <;> exact rfl) | exact lz) ?_
      rintro i ⟨hi, ht⟩
      rcases Nat.lt_or_ge i a.length with h2 | h2
      · have h3 : i < b.length := by omega
        by_cases he : a.getD i default = b.getD i default
        · have hok : i + 1 ≤ a.length ∧ a.take (i + 1) = b.take (i + 1) := ⟨h2, take_eq_succ ht h2 h3 he⟩
          have he2 : ((a.getD i default).toNat : Int) = ((b.getD i default).toNat : Int) := by rw [he]
          exact wk trueW trueW trueW
        · have he2 : ¬ ((a.getD i default).toNat : Int) = ((b.getD i default).toNat : Int) := fun e => he (bK_inj _ _ e)
          exact wk trueW trueW trueW
      · exfalso
        have e1 : i = a.length := by omega
        rw [e1, List.take_length, hl, List.take_length] at ht
        exact h ht
  · have hd : decide (a = b) = false := by simp; intro e; exact hl (by rw [e])
    rw [hd]
    refine LFx.mk' tt Try.func19 rfl rfl rfl (by kernel_rfl) rfl rfl fun F => ?_
    exact wk trueW trueW trueW
end Sl1
end Lf
end Go.Proofs.Ytgeccggkdgpkiaa

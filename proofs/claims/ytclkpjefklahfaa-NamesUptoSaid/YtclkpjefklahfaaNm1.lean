/- Each constant has its value. -/
import Derived.Test.YtclkpjefklahfaaLz
namespace Go.Proofs.Ytclkpjefklahfaa
open Go.RowKit Rg
namespace Lf
def iK (z : Int) : V := .k (.int .i64 z)
def eL : List Int := [0, 1, 2, 3, 4, 5, 6, 7, 8, 9, 10, 11, 12, 13, 14, 15, 16, 17, 18, 19, 20, 21, 22, 23, 24, 25, 26, 27, 28, 29, 30, 31]
def wL : List Int := [32, 1024, 4096, 4096, 64, 1024, 8, 64, 16, 8, 0, 1, 2, 3, 1, 2, 3, 4, 5, 1, 2, 3, 4, 5, 1, 2, 1, 2, 3, 1, 2, 3, 4, 5, 1, 2, 3, 4, 0x00, 0x01, 0x02, 0x03, 0x04, 0x05, 0x06, 0x07, 0x08, 0x09, 0x0a, 0x0b, 0x10, 0x11, 0x12, 0x13, 0x14, 0x15, 0x16, 0x17, 0x18, 0x19, 0x1a, 0x1b, 0x1c, 0x1d, 0x20, 0x30, 0x31, 0x32, 0x33, 0x34, 0x35, 0x36, 0x37, 0x38, 0x39, 0x40, 0x41, 0x42, 0x50, 0x51, 0x52, 0x53, 0x54, 0x55, 0x56, 0x57, 0x58, 0x59, 0x5a, 0x5b, 0xf0, 0xf1, 0xf2, 0xf3, 0xf4, 0xfd, 0x60, 0x80, 0x90, 0xa0]
theorem eL_at : ∀ i, i < 32 → eL.getD i default = (i : Int) := by decide
theorem eL_len : eL.length = 32 := rfl
theorem wL_len : wL.length = 100 := rfl
namespace Nm
set_option maxHeartbeats 4000000 in
set_option maxRecDepth 100000 in
theorem Names : LF Try.prog 3 [] (fun _ => .k (.bool true)) none := by
  refine LFx.mk' tt Try.func3 rfl rfl rfl (by kernel_rfl) rfl rfl fun F => ?_
  refine wk ?_ trueW trueW
  refine LC.loopN (fun i => [(0, .k (.bool false)), (8, .s (some 7) (eL.map iK)), (9, .k (.int .i64 ((32 : Nat) : Int))), (10, .k (.int .i64 ((i : Nat) : Int)))]) (fun i => [(7, .r 22 1 32)]) (fun i => i ≤ 32) ((32 - ·)) (0) (by omega) ⟨rfl, rfl, rfl, rfl, trivial⟩ ⟨rfl, trivial⟩ rfl (by first | exact rfl | (simp only [V.cells, refsE, refsM, V.refs, V.refs.go, V.pure, V.pure.go, pure_mapq, pure_mapb, refs_mapq, refs_mapb, refs_append, Bool.and_true, Bool.true_and, Bool.and_self] <;> exact rfl) | (simp only [V.cells, refsE, refsM, V.refs, V.refs.go, V.pure, V.pure.go, pure_mapq, pure_mapb, refs_mapq, refs_mapb, refs_append, Bool.and_true, Bool.true_and, Bool.and_self, hrf] <;> exact rfl) | (simp only [V.cells, refsE, refsM, V.refs, V.refs.go, V.pure, V.pure.go, pure_mapq, pure_mapb, refs_mapq, refs_mapb, refs_append, Bool.and_true, Bool.true_and, Bool.and_self, hrf, hrg] <;> exact rfl) | exact lz) (by first | exact rfl | (simp only [V.cells, refsE, refsM, V.refs, V.refs.go, V.pure, V.pure.go, pure_mapq, pure_mapb, refs_mapq, refs_mapb, refs_append, Bool.and_true, Bool.true_and, Bool.and_self] <;> exact rfl) | (simp only [V.cells, refsE, refsM, V.refs, V.refs.go, V.pure, V.pure.go, pure_mapq, pure_mapb, refs_mapq, refs_mapb, refs_append, Bool.and_true, Bool.true_and, Bool.and_self, hrf] <;> exact rfl) | (simp only [V.cells, refsE, refsM, V.refs, V.refs.go, V.pure, V.pure.go, pure_mapq, pure_mapb, refs_mapq, refs_mapb, refs_append, Bool.and_true, Bool.true_and, Bool.and_self, hrf, hrg] <;> exact rfl) | exact lz) ?_
  intro i hi
  have l1 := eL_len
  have l2 := wL_len
  rcases Nat.lt_or_ge i 32 with h | h
  · have he := eL_at i h
    have hok : i + 1 ≤ 32 := h
    generalize eL = E at *
    exact wk trueW trueW trueW
  · obtain rfl : i = 32 := by omega
    clear l1
    generalize eL = E at *
    refine wk ?_ trueW trueW
    refine LC.loopN (fun i => [(0, .k (.bool false)), (4, .s (some 19) (wL.map iK)), (5, .s (some 20) (wL.map iK)), (21, .s (some 20) (wL.map iK)), (22, .k (.int .i64 ((100 : Nat) : Int))), (23, .k (.int .i64 ((i : Nat) : Int)))]) (fun i => [(19, .r 3 1 100), (20, .r 3 1 100)]) (fun i => i ≤ 100) ((100 - ·)) (0) (by omega) ⟨rfl, rfl, rfl, rfl, rfl, rfl, trivial⟩ ⟨rfl, rfl, trivial⟩ rfl (by first | exact rfl | (simp only [V.cells, refsE, refsM, V.refs, V.refs.go, V.pure, V.pure.go, pure_mapq, pure_mapb, refs_mapq, refs_mapb, refs_append, Bool.and_true, Bool.true_and, Bool.and_self] <;> exact rfl) | (simp only [V.cells, refsE, refsM, V.refs, V.refs.go, V.pure, V.pure.go, pure_mapq, pure_mapb, refs_mapq, refs_mapb, refs_append, Bool.and_true, Bool.true_and, Bool.and_self, hrf] <;> exact rfl) | (simp only [V.cells, refsE, refsM, V.refs, V.refs.go, V.pure, V.pure.go, pure_mapq, pure_mapb, refs_mapq, refs_mapb, refs_append, Bool.and_true, Bool.true_and, Bool.and_self, hrf, hrg] <;> exact rfl) | exact lz) (by first | exact rfl | (simp only [V.cells, refsE, refsM, V.refs, V.refs.go, V.pure, V.pure.go, pure_mapq, pure_mapb, refs_mapq, refs_mapb, refs_append, Bool.and_true, Bool.true_and, Bool.and_self] <;> exact rfl) | (simp only [V.cells, refsE, refsM, V.refs, V.refs.go, V.pure, V.pure.go, pure_mapq, pure_mapb, refs_mapq, refs_mapb, refs_append, Bool.and_true, Bool.true_and, Bool.and_self, hrf] <;> exact rfl) | (simp only [V.cells, refsE, refsM, V.refs, V.refs.go, V.pure, V.pure.go, pure_mapq, pure_mapb, refs_mapq, refs_mapb, refs_append, Bool.and_true, Bool.true_and, Bool.and_self, hrf, hrg] <;> exact rfl) | exact lz) ?_
    intro i hi
    generalize wL = L at *
    rcases Nat.lt_or_ge i 100 with h | h
    · have hok : i + 1 ≤ 100 := h
      exact wk trueW trueW trueW
    · obtain rfl : i = 100 := by omega
      exact wk trueW trueW trueW
end Nm
end Lf
end Go.Proofs.Ytclkpjefklahfaa

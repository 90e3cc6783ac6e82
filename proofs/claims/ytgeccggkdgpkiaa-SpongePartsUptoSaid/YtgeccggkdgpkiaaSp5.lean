/- The sponge: the sum of a text, what is filled up; what is alive; nothing is lost in mixing. -/
import Derived.Test.YtgeccggkdgpkiaaSp4
namespace Go.Proofs.Ytgeccggkdgpkiaa
open Go.RowKit Rg
namespace Lf
def padZ (b : List UInt8) (i : Nat) : List UInt8 := b ++ [1] ++ List.replicate i 0
def padB (b : List UInt8) : List UInt8 := padZ b (31 - (b.length + 1) % 32) ++ [128]
theorem padZ_len (b : List UInt8) (i : Nat) : (padZ b i).length = b.length + 1 + i := by simp [padZ]; omega
theorem padB_len (b : List UInt8) : (padB b).length = b.length + 1 + (31 - (b.length + 1) % 32) + 1 := by simp [padB, padZ_len]
theorem padZ_succ (b : List UInt8) (i : Nat) : padZ b i ++ [UInt8.ofNat 0] = padZ b (i + 1) := by
  have e : [UInt8.ofNat 0] = [(0 : UInt8)] := rfl
  unfold padZ
  rw [e, List.append_assoc _ (List.replicate i 0), ← List.replicate_succ']
theorem padZ_zero (b : List UInt8) : b ++ [UInt8.ofNat 1] = padZ b 0 := by unfold padZ; rw [List.replicate_zero, List.append_nil]; rfl
theorem padB_eq (b : List UInt8) : padZ b (31 - (b.length + 1) % 32) ++ [UInt8.ofNat 128] = padB b := rfl
attribute [irreducible] padB padZ
theorem hs0_cells : hs0.cells = (List.replicate 8 (0 : UInt64)).map qK ++ ((List.replicate 32 (0 : UInt8)).map bK ++ [.k (.int .i64 0)]) := by unfold Hs.cells; rfl
namespace Sp
set_option maxHeartbeats 1000000 in
theorem Sum (l : List UInt8) (hl : l.length < 1073741824) : LF Try.prog 22 [.s none (l.map bK)] (fun _ => .a ((sumB l).map bK)) none := by
  have c1 := Write hs0 hs0_ok l hl
  rw [hs0_cells] at c1
  have k1 := writeH_ok hs0_ok l
  have e : sumB l = sumH (writeH hs0 l) := by unfold sumB; rfl
  rw [e]
  generalize writeH hs0 l = H at c1 k1
  have l2 : (sumH H).length = 32 := by unfold sumH; exact outQ_len _
  have c2 := HSum H k1
  generalize sumH H = R at c2 l2
  have hrf := refs_cells
  have hlen := cells_len k1
  refine LFx.mk' tt Try.func22 rfl rfl rfl (by kernel_rfl) rfl rfl fun F => ?_
  exact wk trueW trueW trueW
set_option maxHeartbeats 1000000 in
theorem Pad (l : List UInt8) (hl : l.length < 1073741824) : LF Try.prog 18 [.s none (l.map bK)] (fun _ => .s none ((padB l).map bK)) none := by
  refine LFx.mk' tt Try.func18 rfl rfl rfl (by kernel_rfl) rfl rfl fun F => ?_
  refine wk ?_ trueW trueW
  rw [padZ_zero]
  refine LC.loop2 (fun i L => [(3, .s (some 4) (L.map bK))]) (fun i L => [(4, .r 5 1 L.length)]) (fun i L => i ≤ 31 - (l.length + 1) % 32 ∧ L = padZ l i) ((31 - (l.length + 1) % 32 - ·)) (0) ((padZ l 0)) ⟨by omega, rfl⟩ ⟨rfl, trivial⟩ ⟨rfl, trivial⟩ rfl (by first | exact rfl | (simp only [V.cells, refsE, refsM, V.refs, V.refs.go, V.pure, V.pure.go, pure_mapq, pure_mapb, refs_mapq, refs_mapb, refs_append, Bool.and_true, Bool.true_and, Bool.and_self] <;> exact rfl) | (simp only [V.cells, refsE, refsM, V.refs, V.refs.go, V.pure, V.pure.go, pure_mapq, pure_mapb, refs_mapq, refs_mapb, refs_append, Bool.and_true, Bool.true_and, Bool.and_self, hrf] <;> exact rfl) | (simp only [V.cells, refsE, refsM, V.refs, V.refs.go, V.pure, V.pure.go, pure_mapq, pure_mapb, refs_mapq, refs_mapb, refs_append, Bool.and_true, Bool.true_and, Bool.and_self, hrf, hrg] <;> exact rfl) | exact lz) (by first | exact rfl | (simp only [V.cells, refsE, refsM, V.refs, V.refs.go, V.pure, V.pure.go, pure_mapq, pure_mapb, refs_mapq, refs_mapb, refs_append, Bool.and_true, Bool.true_and, Bool.and_self] <;> exact rfl) | (simp only [V.cells, refsE, refsM, V.refs, V.refs.go, V.pure, V.pure.go, pure_mapq, pure_mapb, refs_mapq, refs_mapb, refs_append, Bool.and_true, Bool.true_and, Bool.and_self, hrf] <;> exact rfl) | (simp only [V.cells, refsE, refsM, V.refs, V.refs.go, V.pure, V.pure.go, pure_mapq, pure_mapb, refs_mapq, refs_mapb, refs_append, Bool.and_true, Bool.true_and, Bool.and_self, hrf, hrg] <;> exact rfl) | exact lz) ?_
  rintro i L ⟨hi, hL⟩
  have hn : L.length = l.length + 1 + i := by rw [hL, padZ_len]
  rcases Nat.lt_or_ge i (31 - (l.length + 1) % 32) with h | h
  · have hok : i + 1 ≤ 31 - (l.length + 1) % 32 ∧ L ++ [UInt8.ofNat 0] = padZ l (i + 1) := ⟨by omega, by rw [hL, padZ_succ]⟩
    clear hL
    exact wk trueW trueW trueW
  · obtain rfl : i = 31 - (l.length + 1) % 32 := by omega
    have hv : V.s none ((L ++ [UInt8.ofNat 128]).map bK) = V.s none ((padB l).map bK) := by rw [hL, padB_eq]
    clear hL
    exact wk trueW trueW trueW
theorem alive_mix : ¬ mixQ (List.replicate 8 0) = List.replicate 8 0 := by decide +kernel
theorem alive_sum : ¬ sumB [] = List.replicate 32 0 := by decide +kernel
theorem alive_pad : (padB []).length = 32 := by rw [padB_len]; rfl
set_option maxHeartbeats 1000000 in
theorem alive3 : LF Try.prog 15 [] (fun _ => .k (.bool true)) none := by
  have c1 := Mix (List.replicate 8 0) rfl
  have c2 := Sum [] (by decide)
  have c3 := Pad [] (by decide)
  have h1 := alive_mix
  have h2 := alive_sum
  have h3 := alive_pad
  have l1 : (mixQ (List.replicate 8 0)).length = 8 := by rw [mixQ_len]; rfl
  have l2 := sumB_len []
  generalize mixQ (List.replicate 8 0) = M at c1 h1 l1
  generalize sumB [] = S at c2 h2 l2
  generalize padB [] = Q at c3 h3
  refine LFx.mk' tt Try.func15 rfl rfl rfl (by kernel_rfl) rfl rfl fun F => ?_
  exact wk trueW trueW trueW
set_option maxHeartbeats 1000000 in
theorem SpongeBack (s t : List UInt64) (hs : s.length = 8) (ht : t.length = 8) : LF Try.prog 3 [.a (s.map qK), .a (t.map qK)] (fun _ => .k (.bool true)) none := by
  have c1 := alive3
  have c2 := Mix
  have c3 := Unmix
  have e1 := unmix_mix hs
  have e2 := mix_unmix hs
  have l1 := mixQ_len s
  have l2 := unmixQ_len s
  have l3 := mixQ_len t
  have l4 := mixQ_len (unmixQ s)
  have l5 := unmixQ_len (mixQ s)
  by_cases h : s = t
  · subst h
    have hm : mixQ s = mixQ s := rfl
    refine LFx.mk' tt Try.func3 rfl rfl rfl (by kernel_rfl) rfl rfl fun F => ?_
    exact wk trueW trueW trueW
  · have hm : ¬ mixQ s = mixQ t := fun e => h (by rw [← e1, e, unmix_mix ht])
    refine LFx.mk' tt Try.func3 rfl rfl rfl (by kernel_rfl) rfl rfl fun F => ?_
    exact wk trueW trueW trueW
end Sp
end Lf
end Go.Proofs.Ytgeccggkdgpkiaa

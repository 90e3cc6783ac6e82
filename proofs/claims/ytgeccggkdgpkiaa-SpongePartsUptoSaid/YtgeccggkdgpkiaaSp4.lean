/- The sponge: sums, padding; what is alive. -/
import Derived.Test.YtgeccggkdgpkiaaSp3
namespace Go.Proofs.Ytgeccggkdgpkiaa
open Go.RowKit Rg
namespace Lf
theorem wr8_len (x : UInt64) (off : Nat) (L : List UInt8) (i : Nat) : (wr8 x off L i).length = L.length := by simp [wr8]
theorem iterB_len {f : List UInt8 → Nat → List UInt8} (hf : ∀ s i, (f s i).length = s.length) (s : List UInt8) (n : Nat) : (iter f s n).length = s.length := iter_inv (p := fun t => t.length = s.length) (fun t i h => (hf t i).trans h) rfl n
def wrQ (st : List UInt64) (L : List UInt8) (j : Nat) : List UInt8 := iter (wr8 (st.getD j default) (8 * j)) L 8
theorem wrQ_len (st : List UInt64) (L : List UInt8) (j : Nat) : (wrQ st L j).length = L.length := iterB_len (wr8_len _ _) _ _
def outQ (st : List UInt64) : List UInt8 := iter (wrQ st) (List.replicate 32 0) 4
theorem outQ_eq (st : List UInt64) : outQ st = iter (wrQ st) (List.replicate 32 0) 4 := rfl
theorem wrQ_eq (st : List UInt64) (L : List UInt8) (j : Nat) : iter (wr8 (st.getD j default) (8 * j)) L 8 = wrQ st L j := rfl
theorem outQ_len (st : List UInt64) : (outQ st).length = 32 := by unfold outQ; rw [iterB_len (wrQ_len st)]; rfl
def padN (h : Hs) (i : Nat) : Hs := iter (fun h _ => takeH h 0) h i
def padH (h : Hs) : Hs := padN (takeH h 1) (31 - (takeH h 1).n)
def sumH (h : Hs) : List UInt8 := outQ (takeH (padH h) 128).st
def hs0 : Hs := ⟨List.replicate 8 0, List.replicate 32 0, 0⟩
theorem hs0_ok : hs0.ok := ⟨rfl, rfl, Nat.zero_lt_succ _⟩
def sumB (b : List UInt8) : List UInt8 := sumH (writeH hs0 b)
theorem sumB_len (b : List UInt8) : (sumB b).length = 32 := by unfold sumB sumH; exact outQ_len _
theorem padN_ok {h : Hs} (k : h.ok) (i : Nat) : (padN h i).ok := iter_inv (f := fun h _ => takeH h 0) (p := Hs.ok) (fun s _ h => takeH_ok h 0) k i
theorem cells_len {h : Hs} (k : h.ok) : h.cells.length = 41 := by simp [Hs.cells, k.st, k.pt]
theorem takeH_n {h : Hs} (x : UInt8) (hn : h.n + 1 < 32) : (takeH h x).n = h.n + 1 := by unfold takeH; rw [if_pos hn]
theorem ld_n {ti : TI} {h : Hs} (k : h.ok) (hd : ti.d.agg = false) : ti.part h.cells 40 = some (.k (.int .i64 ((h.n : Nat) : Int))) := by
  unfold TI.part Hs.cells
  rw [hd]
  simp [k.st, k.pt]
theorem ld_st {ti : TI} {h : Hs} {j : Nat} (k : h.ok) (hd : ti.d.agg = false) (hj : j < 8) : ti.part h.cells j = some (qK (h.st.getD j default)) := by
  unfold TI.part Hs.cells
  rw [hd]
  have := k.st
  simp [List.getElem?_append_left, show j < h.st.length by omega, List.getD_eq_getElem?_getD]
attribute [irreducible] outQ padN padH sumH sumB wrQ
namespace Sp
set_option maxHeartbeats 1000000 in
theorem write8 (x : UInt64) (L : List UInt8) (off n cap : Nat) (hn : 8 ≤ n) (hL : off + 8 ≤ L.length) (i : Nat) : LM Try.prog 52 [.sb i off n cap, qK x] [(i, .b (L.map bK))] fun o m => o = .ret (.t []) ∧ m = [(i, .b ((iter (wr8 x off) L 8).map bK))] := by
  refine LM.box1 (fun k => [.sb k off n cap, qK x]) (fun _ _ => rfl) (refs_mapb _ _) (refs_mapb _ _) rfl ?_ i
  refine LM.enter tt Try.func52 rfl rfl rfl (by kernel_rfl) rfl rfl rfl (fun o mo h => by rw [h.2]; rfl) fun F _ => ?_
  refine wk ?_ trueW trueW
  refine LC.loop2 (fun j M => [(0, .sb 1000 off n cap), (1, qK x), (5, .k (.int .i64 ((j : Nat) : Int)))]) (fun j M => [(1000, .b (M.map bK))]) (fun j M => j ≤ 8 ∧ M = iter (wr8 x off) L j) ((8 - ·)) (0) (L) ⟨by omega, rfl⟩ ⟨rfl, rfl, rfl, trivial⟩ ⟨rfl, trivial⟩ rfl (by first | exact rfl | (simp only [V.cells, refsE, refsM, V.refs, V.refs.go, V.pure, V.pure.go, pure_mapq, pure_mapb, refs_mapq, refs_mapb, refs_append, Bool.and_true, Bool.true_and, Bool.and_self] <;> exact rfl) | (simp only [V.cells, refsE, refsM, V.refs, V.refs.go, V.pure, V.pure.go, pure_mapq, pure_mapb, refs_mapq, refs_mapb, refs_append, Bool.and_true, Bool.true_and, Bool.and_self, hrf] <;> exact rfl) | (simp only [V.cells, refsE, refsM, V.refs, V.refs.go, V.pure, V.pure.go, pure_mapq, pure_mapb, refs_mapq, refs_mapb, refs_append, Bool.and_true, Bool.true_and, Bool.and_self, hrf, hrg] <;> exact rfl) | exact lz) (by first | exact rfl | (simp only [V.cells, refsE, refsM, V.refs, V.refs.go, V.pure, V.pure.go, pure_mapq, pure_mapb, refs_mapq, refs_mapb, refs_append, Bool.and_true, Bool.true_and, Bool.and_self] <;> exact rfl) | (simp only [V.cells, refsE, refsM, V.refs, V.refs.go, V.pure, V.pure.go, pure_mapq, pure_mapb, refs_mapq, refs_mapb, refs_append, Bool.and_true, Bool.true_and, Bool.and_self, hrf] <;> exact rfl) | (simp only [V.cells, refsE, refsM, V.refs, V.refs.go, V.pure, V.pure.go, pure_mapq, pure_mapb, refs_mapq, refs_mapb, refs_append, Bool.and_true, Bool.true_and, Bool.and_self, hrf, hrg] <;> exact rfl) | exact lz) ?_
  rintro j M ⟨hj, hM⟩
  have hl : M.length = L.length := by rw [hM, iterB_len (wr8_len _ _)]
  rcases Nat.lt_or_ge j 8 with h | h
  · have hok : j + 1 ≤ 8 ∧ wr8 x off M j = iter (wr8 x off) L (j + 1) := ⟨by omega, by rw [iter, ← hM]⟩
    clear hM
    have h3 := x.toNat_lt
    unfold qK
    exact wk trueW trueW trueW
  · obtain rfl : j = 8 := by omega
    rw [← hM]
    exact wk trueW trueW trueW
set_option maxHeartbeats 1000000 in
theorem HSum (h : Hs) (k : h.ok) : LF Try.prog 41 [.a h.cells] (fun _ => .a ((sumH h).map bK)) none := by
  have c1 := fun (h : Hs) (k : h.ok) (i : Nat) => take h k 1 i
  have c2 := fun (h : Hs) (k : h.ok) (i : Nat) => take h k 0 i
  have c3 := fun (h : Hs) (k : h.ok) (i : Nat) => take h k 128 i
  have c4 := write8
  have hrf := refs_cells
  have ld1 := @ld_n
  have ld2 := @ld_st
  have k1 := takeH_ok k 1
  generalize hs : sumH h = R
  unfold sumH padH at hs
  refine LFx.mk' tt Try.func41 rfl rfl rfl (by kernel_rfl) rfl rfl fun F => ?_
  refine wk ?_ trueW trueW
  generalize hH : takeH h 1 = H1 at hs k1
  have hn := k1.n
  refine LC.loop2 (fun i H => [(1, .p 1 0), (2, .p 2 0)]) (fun i H => [(1, .b H.cells), (2, .b ((List.replicate 32 0).map bK))]) (fun i H => i ≤ 31 - H1.n ∧ H = padN H1 i ∧ H.n = H1.n + i) ((31 - H1.n - ·)) (0) (H1) ⟨by omega, by unfold padN; rfl, rfl⟩ ⟨rfl, rfl, trivial⟩ ⟨rfl, rfl, trivial⟩ rfl (by first | exact rfl | (simp only [V.cells, refsE, refsM, V.refs, V.refs.go, V.pure, V.pure.go, pure_mapq, pure_mapb, refs_mapq, refs_mapb, refs_append, Bool.and_true, Bool.true_and, Bool.and_self] <;> exact rfl) | (simp only [V.cells, refsE, refsM, V.refs, V.refs.go, V.pure, V.pure.go, pure_mapq, pure_mapb, refs_mapq, refs_mapb, refs_append, Bool.and_true, Bool.true_and, Bool.and_self, hrf] <;> exact rfl) | (simp only [V.cells, refsE, refsM, V.refs, V.refs.go, V.pure, V.pure.go, pure_mapq, pure_mapb, refs_mapq, refs_mapb, refs_append, Bool.and_true, Bool.true_and, Bool.and_self, hrf, hrg] <;> exact rfl) | exact lz) (by first | exact rfl | (simp only [V.cells, refsE, refsM, V.refs, V.refs.go, V.pure, V.pure.go, pure_mapq, pure_mapb, refs_mapq, refs_mapb, refs_append, Bool.and_true, Bool.true_and, Bool.and_self] <;> exact rfl) | (simp only [V.cells, refsE, refsM, V.refs, V.refs.go, V.pure, V.pure.go, pure_mapq, pure_mapb, refs_mapq, refs_mapb, refs_append, Bool.and_true, Bool.true_and, Bool.and_self, hrf] <;> exact rfl) | (simp only [V.cells, refsE, refsM, V.refs, V.refs.go, V.pure, V.pure.go, pure_mapq, pure_mapb, refs_mapq, refs_mapb, refs_append, Bool.and_true, Bool.true_and, Bool.and_self, hrf, hrg] <;> exact rfl) | exact lz) ?_
  rintro i H ⟨hi, hH2, hn2⟩
  have k2 : H.ok := hH2 ▸ padN_ok k1 i
  rcases Nat.lt_or_ge i (31 - H1.n) with h2 | h2
  · have hok : i + 1 ≤ 31 - H1.n ∧ takeH H 0 = padN H1 (i + 1) ∧ (takeH H 0).n = H1.n + (i + 1) := ⟨by omega, by rw [hH2]; unfold padN; rfl, by rw [takeH_n 0 (by omega)]; omega⟩
    clear hH2
    exact wk trueW trueW trueW
  · obtain rfl : i = 31 - H1.n := by omega
    rw [← hH2] at hs
    clear hH2
    have k3 := takeH_ok k2 128
    refine wk ?_ trueW trueW
    generalize takeH H 128 = H3 at hs k3
    refine LC.loop2 (fun j L => [(1, .p 1 0), (2, .p 2 0), (3, .p 3 0), (11, .k (.int .i64 ((j : Nat) : Int)))]) (fun j L => [(1, .b H3.cells), (2, .b ((List.replicate 32 0).map bK)), (3, .b (L.map bK))]) (fun j L => j ≤ 4 ∧ L = iter (wrQ H3.st) (List.replicate 32 0) j) ((4 - ·)) (0) ((List.replicate 32 0)) ⟨by omega, rfl⟩ ⟨rfl, rfl, rfl, rfl, trivial⟩ ⟨rfl, rfl, rfl, trivial⟩ rfl (by first | exact rfl | (simp only [V.cells, refsE, refsM, V.refs, V.refs.go, V.pure, V.pure.go, pure_mapq, pure_mapb, refs_mapq, refs_mapb, refs_append, Bool.and_true, Bool.true_and, Bool.and_self] <;> exact rfl) | (simp only [V.cells, refsE, refsM, V.refs, V.refs.go, V.pure, V.pure.go, pure_mapq, pure_mapb, refs_mapq, refs_mapb, refs_append, Bool.and_true, Bool.true_and, Bool.and_self, hrf] <;> exact rfl) | (simp only [V.cells, refsE, refsM, V.refs, V.refs.go, V.pure, V.pure.go, pure_mapq, pure_mapb, refs_mapq, refs_mapb, refs_append, Bool.and_true, Bool.true_and, Bool.and_self, hrf, hrg] <;> exact rfl) | exact lz) (by first | exact rfl | (simp only [V.cells, refsE, refsM, V.refs, V.refs.go, V.pure, V.pure.go, pure_mapq, pure_mapb, refs_mapq, refs_mapb, refs_append, Bool.and_true, Bool.true_and, Bool.and_self] <;> exact rfl) | (simp only [V.cells, refsE, refsM, V.refs, V.refs.go, V.pure, V.pure.go, pure_mapq, pure_mapb, refs_mapq, refs_mapb, refs_append, Bool.and_true, Bool.true_and, Bool.and_self, hrf] <;> exact rfl) | (simp only [V.cells, refsE, refsM, V.refs, V.refs.go, V.pure, V.pure.go, pure_mapq, pure_mapb, refs_mapq, refs_mapb, refs_append, Bool.and_true, Bool.true_and, Bool.and_self, hrf, hrg] <;> exact rfl) | exact lz) ?_
    rintro j L ⟨hj, hL⟩
    have hl : L.length = 32 := by rw [hL, iterB_len (wrQ_len _)]; rfl
    rcases Nat.lt_or_ge j 4 with h4 | h4
    · have hok : j + 1 ≤ 4 ∧ iter (wr8 (H3.st.getD j default) (8 * j)) L 8 = iter (wrQ H3.st) (List.replicate 32 0) (j + 1) := ⟨by omega, (wrQ_eq _ _ _).trans (by rw [iter, ← hL])⟩
      clear hL
      exact wk trueW trueW trueW
    · obtain rfl : j = 4 := by omega
      have hv1 : V.a (L.map bK) = V.a (R.map bK) := congrArg (fun z => V.a (List.map bK z)) (hL.trans ((outQ_eq _).symm.trans hs))
      clear hL
      exact wk trueW trueW trueW
end Sp
end Lf
end Go.Proofs.Ytgeccggkdgpkiaa

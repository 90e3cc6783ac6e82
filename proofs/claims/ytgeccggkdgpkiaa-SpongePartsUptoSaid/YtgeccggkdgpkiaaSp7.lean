/- The sponge: Each; however a text is parted it comes to the same. -/
import Derived.Test.YtgeccggkdgpkiaaSp6
import Derived.Test.YtgeccggkdgpkiaaSl6
namespace Go.Proofs.Ytgeccggkdgpkiaa
open Go.RowKit Rg
namespace Lf
abbrev hV (l : List UInt8) : V := .a (l.map bK)
def outN (ps : List (List UInt8)) (i : Nat) : List (List UInt8) := (List.range i).map fun j => sumB (ps.take (j + 1)).flatten
theorem outN_len (ps : List (List UInt8)) (i : Nat) : (outN ps i).length = i := by simp [outN]
theorem outN_succ (ps : List (List UInt8)) (i : Nat) : outN ps i ++ [sumB (ps.take (i + 1)).flatten] = outN ps (i + 1) := by simp [outN, List.range_succ]
theorem outN_get (ps : List (List UInt8)) {i j : Nat} (h : j < i) : (outN ps i).getD j default = sumB (ps.take (j + 1)).flatten := by
  simp [outN, List.getD_eq_getElem?_getD, List.getElem?_range h]
theorem writeH_app (h : Hs) (a b : List UInt8) : writeH h (a ++ b) = writeH (writeH h a) b := by unfold writeH; rw [List.foldl_append]
theorem sumB_eq (b : List UInt8) : sumB b = sumH (writeH hs0 b) := by unfold sumB; rfl
theorem sumH_len (h : Hs) : (sumH h).length = 32 := by unfold sumH; exact outQ_len _
theorem outN_sz (ps : List (List UInt8)) (i : Nat) : ∀ e ∈ (outN ps i).map hV, e.cells.length = 32 := fun e he => by
  obtain ⟨l, hl, rfl⟩ := List.mem_map.1 he
  obtain ⟨j, _, rfl⟩ := List.mem_map.1 hl
  show (List.map bK _).length = 32
  rw [List.length_map, sumB_len]
namespace Sp
set_option maxHeartbeats 1000000 in
theorem EachS (h : Hs) (k : h.ok) (i : Nat) : LM Try.prog 40 [.p i 0] [(i, .b h.cells)] fun o m => o = .ret (hV (sumH h)) ∧ m = [(i, .b h.cells)] := by
  have hrf := refs_cells
  have hl := cells_len k
  have c1 := HSum h k
  have l2 := sumH_len h
  generalize sumH h = R at c1 l2
  refine LM.box1 (fun k => [.p k 0]) (fun _ _ => rfl) (refs_cells _ h) (refs_cells _ h) (by simp [V.refs, refs_mapb]) ?_ i
  refine LM.enter tt Try.func40 rfl rfl rfl (by kernel_rfl) rfl rfl rfl (fun o mo h => by rw [h.2]; rfl) fun F _ => ?_
  exact wk trueW trueW trueW
set_option maxHeartbeats 2000000 in
theorem Each (ps : List (List UInt8)) (hn : ps.length < 1073741824) (ht : ∀ t ∈ ps, t.length < 1073741824) : LF Try.prog 20 [.s none (ps.map bV)] (fun _ => .s none ((outN ps ps.length).map hV)) none := by
  have hrf := refs_cells
  refine LFx.mk' tt Try.func20 rfl rfl rfl (by kernel_rfl) rfl rfl fun F => ?_
  refine wk ?_ trueW trueW
  refine LC.nilrow 6 6 36 32 rfl rfl rfl ?_
  refine LC.loop2 (fun i cs => [(4, .f (.func 39) [.p 3 0] []), (5, .f (.func 40) [] [.p 3 0]), (6, .s (some 6) ((outN ps i).map hV)), (11, .s none (ps.map bV)), (12, .k (.int .i64 ((ps.length : Nat) : Int))), (13, .k (.int .i64 ((i : Nat) : Int)))]) (fun i cs => [(3, .b cs), (6, .r 36 32 (outN ps i).length)]) (fun i cs => i ≤ ps.length ∧ cs = (writeH hs0 (ps.take i).flatten).cells) ((ps.length - ·)) (0) (((List.replicate 8 (0 : UInt64)).map qK ++ ((List.replicate 32 (0 : UInt8)).map bK ++ [.k (.int .i64 0)]))) ⟨by omega, by rw [List.take_zero, List.flatten_nil, show writeH hs0 [] = hs0 by unfold writeH; rfl, hs0_cells]⟩ ⟨rfl, rfl, rfl, rfl, rfl, rfl, trivial⟩ ⟨rfl, rfl, trivial⟩ rfl (by first | exact rfl | (simp only [V.cells, refsE, refsM, V.refs, V.refs.go, V.pure, V.pure.go, pure_mapq, pure_mapb, refs_mapq, refs_mapb, refs_append, Bool.and_true, Bool.true_and, Bool.and_self] <;> exact rfl) | (simp only [V.cells, refsE, refsM, V.refs, V.refs.go, V.pure, V.pure.go, pure_mapq, pure_mapb, refs_mapq, refs_mapb, refs_append, Bool.and_true, Bool.true_and, Bool.and_self, hrf] <;> exact rfl) | (simp only [V.cells, refsE, refsM, V.refs, V.refs.go, V.pure, V.pure.go, pure_mapq, pure_mapb, refs_mapq, refs_mapb, refs_append, Bool.and_true, Bool.true_and, Bool.and_self, hrf, hrg] <;> exact rfl) | exact lz) (by first | exact rfl | (simp only [V.cells, refsE, refsM, V.refs, V.refs.go, V.pure, V.pure.go, pure_mapq, pure_mapb, refs_mapq, refs_mapb, refs_append, Bool.and_true, Bool.true_and, Bool.and_self] <;> exact rfl) | (simp only [V.cells, refsE, refsM, V.refs, V.refs.go, V.pure, V.pure.go, pure_mapq, pure_mapb, refs_mapq, refs_mapb, refs_append, Bool.and_true, Bool.true_and, Bool.and_self, hrf] <;> exact rfl) | (simp only [V.cells, refsE, refsM, V.refs, V.refs.go, V.pure, V.pure.go, pure_mapq, pure_mapb, refs_mapq, refs_mapb, refs_append, Bool.and_true, Bool.true_and, Bool.and_self, hrf, hrg] <;> exact rfl) | exact lz) ?_
  rintro i cs ⟨hi, rfl⟩
  have hk := writeH_ok hs0_ok (ps.take i).flatten
  have q0 : ((outN ps i).map hV).length = i := by rw [List.length_map, outN_len]
  rcases Nat.lt_or_ge i ps.length with h2 | h2
  · have hg := flat_take h2
    have e1 : writeH (writeH hs0 (ps.take i).flatten) (ps.getD i default) = writeH hs0 (ps.take (i + 1)).flatten := by rw [hg, writeH_app]
    have hmem : ps.getD i default ∈ ps := by rw [List.getD_eq_getElem?_getD, List.getElem?_eq_getElem h2]; exact List.getElem_mem h2
    have c1 := Write _ hk (ps.getD i default) (ht _ hmem)
    have e2 : outN ps i ++ [sumH (writeH hs0 (ps.take (i + 1)).flatten)] = outN ps (i + 1) := by rw [← outN_succ, sumB_eq]
    have hk2 := writeH_ok hs0_ok (ps.take (i + 1)).flatten
    rw [e1] at c1
    have c2 := EachS _ hk2
    have q3 := outN_len ps i
    have q4 := outN_sz ps i
    have q5 := sumH_len (writeH hs0 (ps.take (i + 1)).flatten)
    have q6 := outN_len ps (i + 1)
    obtain ⟨H2, hW⟩ : ∃ H2, writeH hs0 (ps.take (i + 1)).flatten = H2 := ⟨_, rfl⟩
    have hok : i + 1 ≤ ps.length ∧ H2.cells = (writeH hs0 (ps.take (i + 1)).flatten).cells := ⟨by omega, by rw [hW]⟩
    rw [hW] at c1 c2 e1 e2 hk2 q5
    clear hW
    generalize sumH H2 = R at *
    generalize writeH hs0 (ps.take i).flatten = H at *
    refine wk ?_ trueW trueW
    rw [e2]
    exact wk trueW trueW trueW
  · obtain rfl : i = ps.length := by omega
    exact wk trueW trueW trueW
end Sp
end Lf
end Go.Proofs.Ytgeccggkdgpkiaa

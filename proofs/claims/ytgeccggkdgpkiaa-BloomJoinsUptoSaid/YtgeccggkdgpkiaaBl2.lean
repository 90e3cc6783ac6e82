/- Sets of bits: walks. -/
import Derived.Test.YtgeccggkdgpkiaaBl1
namespace Go.Proofs.Ytgeccggkdgpkiaa
open Go.RowKit Rg
namespace Lf
theorem part_cut {α : Type} {f : α → V} {ti : TI} {l : List α} {n : Nat} (hd : ti.d.agg = true) (hs : ti.size = n) (h : n ≤ l.length) : ti.part (l.map f) 0 = some (.a ((l.take n).map f)) := by
  rw [part_mk hd (by rw [hs, List.length_map]; omega), hs, List.drop_zero, List.map_take]
namespace Bl
set_option maxHeartbeats 1000000 in
theorem Join (f g : List UInt8) (hf : f.length = 32) (hg : g.length = 32) : LF Try.prog 28 [.a (f.map bK), .a (g.map bK)] (fun _ => .a ((J f g).map bK)) none := by
  rw [← join_eq hf hg]
  refine LFx.mk' tt Try.func28 rfl rfl rfl (by kernel_rfl) rfl rfl fun F => ?_
  refine wk ?_ trueW trueW
  refine LC.loop2 (fun i F => [(2, .p 2 0), (4, .p 4 0), (7, .a (g.map bK)), (8, .k (.int .i64 ((i : Nat) : Int)))]) (fun i F => [(2, .b (F.map bK)), (4, .b ((List.replicate 32 0).map bK))]) (fun i F => i ≤ 32 ∧ F = iter (joinS g) f i) ((32 - ·)) (0) (f) ⟨by omega, rfl⟩ ⟨rfl, rfl, rfl, rfl, trivial⟩ ⟨rfl, rfl, trivial⟩ rfl (by first | exact rfl | (simp only [V.cells, refsE, refsM, V.refs, V.refs.go, V.pure, V.pure.go, pure_mapq, pure_mapb, refs_mapq, refs_mapb, refs_append, Bool.and_true, Bool.true_and, Bool.and_self] <;> exact rfl) | (simp only [V.cells, refsE, refsM, V.refs, V.refs.go, V.pure, V.pure.go, pure_mapq, pure_mapb, refs_mapq, refs_mapb, refs_append, Bool.and_true, Bool.true_and, Bool.and_self, hrf] <;> exact rfl) | (simp only [V.cells, refsE, refsM, V.refs, V.refs.go, V.pure, V.pure.go, pure_mapq, pure_mapb, refs_mapq, refs_mapb, refs_append, Bool.and_true, Bool.true_and, Bool.and_self, hrf, hrg] <;> exact rfl) | exact lz) (by first | exact rfl | (simp only [V.cells, refsE, refsM, V.refs, V.refs.go, V.pure, V.pure.go, pure_mapq, pure_mapb, refs_mapq, refs_mapb, refs_append, Bool.and_true, Bool.true_and, Bool.and_self] <;> exact rfl) | (simp only [V.cells, refsE, refsM, V.refs, V.refs.go, V.pure, V.pure.go, pure_mapq, pure_mapb, refs_mapq, refs_mapb, refs_append, Bool.and_true, Bool.true_and, Bool.and_self, hrf] <;> exact rfl) | (simp only [V.cells, refsE, refsM, V.refs, V.refs.go, V.pure, V.pure.go, pure_mapq, pure_mapb, refs_mapq, refs_mapb, refs_append, Bool.and_true, Bool.true_and, Bool.and_self, hrf, hrg] <;> exact rfl) | exact lz) ?_
  rintro i F ⟨hi, hF⟩
  have hl : F.length = 32 := by rw [hF, iterB_len (joinS_len g)]; exact hf
  rcases Nat.lt_or_ge i 32 with h | h
  · have hok : i + 1 ≤ 32 ∧ joinS g F i = iter (joinS g) f (i + 1) := ⟨by omega, by rw [iter, ← hF]⟩
    clear hF
    exact wk trueW trueW trueW
  · obtain rfl : i = 32 := by omega
    rw [← hF]
    exact wk trueW trueW trueW
set_option maxHeartbeats 1000000 in
theorem Within (f g : List UInt8) (hf : f.length = 32) (hg : g.length = 32) {r : Bool} (hr : decide (J f g = g) = r) : LF Try.prog 29 [.a (f.map bK), .a (g.map bK)] (fun _ => .k (.bool r)) none := by
  have c1 := Join f g hf hg
  have hl := J_len hf hg
  cases r
  · have h : ¬ J f g = g := of_decide_eq_false hr
    clear hr
    generalize J f g = M at c1 hl h
    refine LFx.mk' tt Try.func29 rfl rfl rfl (by kernel_rfl) rfl rfl fun F => ?_
    exact wk trueW trueW trueW
  · have h : J f g = g := of_decide_eq_true hr
    clear hr
    generalize J f g = M at c1 hl h
    refine LFx.mk' tt Try.func29 rfl rfl rfl (by kernel_rfl) rfl rfl fun F => ?_
    exact wk trueW trueW trueW
set_option maxHeartbeats 1000000 in
theorem bits (t : List UInt8) (ht : t.length < 1073741824) : LF Try.prog 44 [.s none (t.map bK)] (fun _ => .a (((sumB t).take 3).map bK)) none := by
  have c1 := Sp.Sum t ht
  have l2 := sumB_len t
  generalize sumB t = S at c1 l2
  have l3 : (S.take 3).length = 3 := by simp [l2]
  have ld1 := fun {ti : TI} {l : List UInt8} (hd : ti.d.agg = true) (hs : ti.size = 3) (h : 3 ≤ l.length) => part_cut (f := bK) hd hs h
  refine LFx.mk' tt Try.func44 rfl rfl rfl (by kernel_rfl) rfl rfl fun F => ?_
  exact wk trueW trueW trueW
set_option maxHeartbeats 1000000 in
theorem Of (ts : List (List UInt8)) (hn : ts.length < 1073741824) (ht : ∀ t ∈ ts, t.length < 1073741824) : LF Try.prog 26 [.s none (ts.map fun t => .s none (t.map bK))] (fun _ => .a ((ofB ts).map bK)) none := by
  have c1 := bits
  refine LFx.mk' tt Try.func26 rfl rfl rfl (by kernel_rfl) rfl rfl fun F => ?_
  refine wk ?_ trueW trueW
  refine LC.loop2 (fun i F => [(2, .p 2 0), (3, .p 3 0), (8, .s none (ts.map fun t => .s none (t.map bK))), (9, .k (.int .i64 ((ts.length : Nat) : Int))), (10, .k (.int .i64 ((i : Nat) : Int)))]) (fun i F => [(2, .b ((List.replicate 32 0).map bK)), (3, .b (F.map bK))]) (fun i F => i ≤ ts.length ∧ F = (ts.take i).foldl addT z32) ((ts.length - ·)) (0) (z32) ⟨by omega, rfl⟩ ⟨rfl, rfl, rfl, rfl, rfl, trivial⟩ ⟨rfl, rfl, trivial⟩ rfl (by first | exact rfl | (simp only [V.cells, refsE, refsM, V.refs, V.refs.go, V.pure, V.pure.go, pure_mapq, pure_mapb, refs_mapq, refs_mapb, refs_append, Bool.and_true, Bool.true_and, Bool.and_self] <;> exact rfl) | (simp only [V.cells, refsE, refsM, V.refs, V.refs.go, V.pure, V.pure.go, pure_mapq, pure_mapb, refs_mapq, refs_mapb, refs_append, Bool.and_true, Bool.true_and, Bool.and_self, hrf] <;> exact rfl) | (simp only [V.cells, refsE, refsM, V.refs, V.refs.go, V.pure, V.pure.go, pure_mapq, pure_mapb, refs_mapq, refs_mapb, refs_append, Bool.and_true, Bool.true_and, Bool.and_self, hrf, hrg] <;> exact rfl) | exact lz) (by first | exact rfl | (simp only [V.cells, refsE, refsM, V.refs, V.refs.go, V.pure, V.pure.go, pure_mapq, pure_mapb, refs_mapq, refs_mapb, refs_append, Bool.and_true, Bool.true_and, Bool.and_self] <;> exact rfl) | (simp only [V.cells, refsE, refsM, V.refs, V.refs.go, V.pure, V.pure.go, pure_mapq, pure_mapb, refs_mapq, refs_mapb, refs_append, Bool.and_true, Bool.true_and, Bool.and_self, hrf] <;> exact rfl) | (simp only [V.cells, refsE, refsM, V.refs, V.refs.go, V.pure, V.pure.go, pure_mapq, pure_mapb, refs_mapq, refs_mapb, refs_append, Bool.and_true, Bool.true_and, Bool.and_self, hrf, hrg] <;> exact rfl) | exact lz) ?_
  rintro i F ⟨hi, hF⟩
  have hl : F.length = 32 := by rw [hF, foldT_len]; rfl
  rcases Nat.lt_or_ge i ts.length with h | h
  · have hT : (ts.getD i default).length < 1073741824 := by
      rw [List.getD_eq_getElem?_getD, List.getElem?_eq_getElem h]; exact ht _ (List.getElem_mem h)
    have hstep : addT F (ts.getD i default) = (ts.take (i + 1)).foldl addT z32 := by rw [hF]; exact (foldl_take h).symm
    clear hF
    refine wk ?_ trueW trueW
    generalize ts.getD i default = T at hT hstep ⊢
    have l3 : ((sumB T).take 3).length = 3 := by simp [sumB_len]
    refine LC.loop2 (fun k G => [(2, .p 2 0), (3, .p 3 0), (8, .s none (ts.map fun t => .s none (t.map bK))), (9, .k (.int .i64 ((ts.length : Nat) : Int))), (10, .k (.int .i64 ((i : Nat) : Int))), (15, .a (((sumB T).take 3).map bK)), (16, .k (.int .i64 ((k : Nat) : Int)))]) (fun k G => [(2, .b ((List.replicate 32 0).map bK)), (3, .b (G.map bK))]) (fun k G => k ≤ 3 ∧ G = iter (fun f k => setb f ((sumB T).getD k default)) F k) ((3 - ·)) (0) (F) ⟨by omega, rfl⟩ ⟨rfl, rfl, rfl, rfl, rfl, rfl, rfl, trivial⟩ ⟨rfl, rfl, trivial⟩ rfl (by first | exact rfl | (simp only [V.cells, refsE, refsM, V.refs, V.refs.go, V.pure, V.pure.go, pure_mapq, pure_mapb, refs_mapq, refs_mapb, refs_append, Bool.and_true, Bool.true_and, Bool.and_self] <;> exact rfl) | (simp only [V.cells, refsE, refsM, V.refs, V.refs.go, V.pure, V.pure.go, pure_mapq, pure_mapb, refs_mapq, refs_mapb, refs_append, Bool.and_true, Bool.true_and, Bool.and_self, hrf] <;> exact rfl) | (simp only [V.cells, refsE, refsM, V.refs, V.refs.go, V.pure, V.pure.go, pure_mapq, pure_mapb, refs_mapq, refs_mapb, refs_append, Bool.and_true, Bool.true_and, Bool.and_self, hrf, hrg] <;> exact rfl) | exact lz) (by first | exact rfl | (simp only [V.cells, refsE, refsM, V.refs, V.refs.go, V.pure, V.pure.go, pure_mapq, pure_mapb, refs_mapq, refs_mapb, refs_append, Bool.and_true, Bool.true_and, Bool.and_self] <;> exact rfl) | (simp only [V.cells, refsE, refsM, V.refs, V.refs.go, V.pure, V.pure.go, pure_mapq, pure_mapb, refs_mapq, refs_mapb, refs_append, Bool.and_true, Bool.true_and, Bool.and_self, hrf] <;> exact rfl) | (simp only [V.cells, refsE, refsM, V.refs, V.refs.go, V.pure, V.pure.go, pure_mapq, pure_mapb, refs_mapq, refs_mapb, refs_append, Bool.and_true, Bool.true_and, Bool.and_self, hrf, hrg] <;> exact rfl) | exact lz) ?_
    rintro k G ⟨hk, hG⟩
    have hl2 : G.length = 32 := by rw [hG, iterB_len (fun s i => setb_len s _)]; exact hl
    rcases Nat.lt_or_ge k 3 with h2 | h2
    · have hb := (((sumB T).take 3).getD k default).toNat_lt
      have e3 : (sumB T).getD k default = ((sumB T).take 3).getD k default := by
        rw [List.getD_eq_getElem?_getD, List.getD_eq_getElem?_getD, List.getElem?_take, if_pos h2]
      have hok : k + 1 ≤ 3 ∧ setb G (((sumB T).take 3).getD k default) = iter (fun f k => setb f ((sumB T).getD k default)) F (k + 1) := ⟨by omega, by rw [iter, ← hG, e3]⟩
      clear hG e3
      generalize ((sumB T).take 3) = B at l3 hb hok
      unfold setb at hok
      exact wk trueW trueW trueW
    · obtain rfl : k = 3 := by omega
      have hok : i + 1 ≤ ts.length ∧ G = (ts.take (i + 1)).foldl addT z32 := ⟨by omega, by rw [hG, ← hstep]; unfold addT; rfl⟩
      clear hG hstep
      exact wk trueW trueW trueW
  · obtain rfl : i = ts.length := by omega
    rw [List.take_length] at hF
    have hv : V.a (F.map bK) = V.a ((ofB ts).map bK) := by rw [hF]; unfold ofB; rfl
    clear hF
    exact wk trueW trueW trueW
set_option maxHeartbeats 1000000 in
theorem May (f t : List UInt8) (hf : f.length = 32) (ht : t.length < 1073741824) {r : Bool} (hr : decide (J (ofB [t]) f = f) = r) : LF Try.prog 27 [.a (f.map bK), .s none (t.map bK)] (fun _ => .k (.bool r)) none := by
  have c1 := Of [t] (by simp) (by simpa using ht)
  have c2 := Within (ofB [t]) f (ofB_len _) hf hr
  clear hr
  generalize ofB [t] = B at c1 c2
  refine LFx.mk' tt Try.func27 rfl rfl rfl (by kernel_rfl) rfl rfl fun F => ?_
  exact wk trueW trueW trueW
theorem al1 : ¬ ofB [[97]] = List.replicate 32 0 := by decide +kernel
theorem al2 : decide (J (ofB [[97]]) (List.replicate 32 0) = List.replicate 32 0) = false := by decide +kernel
theorem al3 : decide (J (List.replicate 32 0) (ofB [[97]]) = ofB [[97]]) = true := by decide +kernel
set_option maxHeartbeats 1000000 in
theorem alive10 : LF Try.prog 25 [] (fun _ => .k (.bool true)) none := by
  have c1 := Of [[97]] (by decide) (by simp)
  have c2 := May (ofB [[97]]) [97] (ofB_len _) (by decide) (r := true) (by simp [J_self])
  have c3 := May (List.replicate 32 0) [97] rfl (by decide) al2
  have c4 := Within (List.replicate 32 0) (ofB [[97]]) rfl (ofB_len _) al3
  have c5 := Within (ofB [[97]]) (List.replicate 32 0) (ofB_len _) rfl al2
  have h1 := al1
  have l1 := ofB_len [[97]]
  generalize ofB [[97]] = M at c1 c2 c4 c5 h1 l1
  refine LFx.mk' tt Try.func25 rfl rfl rfl (by kernel_rfl) rfl rfl fun F => ?_
  exact wk trueW trueW trueW
end Bl
end Lf
end Go.Proofs.Ytgeccggkdgpkiaa

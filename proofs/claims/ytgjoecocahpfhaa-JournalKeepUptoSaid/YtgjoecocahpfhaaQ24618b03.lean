/- A part of the proof: texts joined. -/
import Derived.Test.YtgjoecocahpfhaaQ230c36f9
namespace Go.Proofs.Ytgjoecocahpfhaa
open Go.RowKit Rg Rp
set_option linter.unusedVariables false
set_option maxRecDepth 100000
namespace Lf
namespace Jw
open Jn
theorem okOf {a b c : List Jop} {x y : Jop} (ha : OpsOk B64 a) (hb : OpsOk B64 b) (hc : OpsOk B64 c) (hx : x.key < B64 ∧ x.val < B64) (hy : y.key < B64 ∧ y.val < B64) : OpsOk B64 (a ++ (x :: (b ++ [y])) ++ c) := fun o ho => by
  simp only [List.mem_append, List.mem_cons, List.not_mem_nil, or_false] at ho
  rcases ho with (ho | rfl | ho | rfl) | ho
  · exact ha o ho
  · exact hx
  · exact hb o ho
  · exact hy
  · exact hc o ho
theorem okTwo {a c : List Jop} (ha : OpsOk B64 a) (hc : OpsOk B64 c) : OpsOk B64 (a ++ c) := fun o ho => by
  rcases List.mem_append.1 ho with ho | ho
  · exact ha o ho
  · exact hc o ho
theorem fin_run (ops : List Jop) : (fin (jrun S0 ops).1.now).length ≤ 2 * ops.length := by
  have h := pot_run ops S0
  have h0 : pot S0 = 0 := rfl
  have h1 : pot (jrun S0 ops).1 = (jrun S0 ops).1.now.length + (jrun S0 ops).1.undo.length + (jrun S0 ops).1.marks.length := rfl
  rw [fin_len]
  omega
set_option maxHeartbeats 8000000 in
theorem JournalBack (bf bt bh : List Jop) (hl : bf.length + bt.length + bh.length < 2000000) (h1 : OpsOk B64 bf) (h2 : OpsOk B64 bt) (h3 : OpsOk B64 bh) : LF Try.prog 10 [.s none (bf.map opV), .s none (bt.map opV), .s none (bh.map opV)] (fun _ => .k (.bool true)) none := by
  have c1 := alive14_
  have c2 := inner_ bt (by omega)
  have hB : (0 : Nat) < B64 := by unfold B64; decide
  have hil := inn_len (ops := bt) (d := 0)
  have hok := okOf h1 (inn_ok hB (d := 0) h2) h3 (x := opM) (y := opB) ⟨hB, hB⟩ ⟨hB, hB⟩
  have hok2 := okTwo h1 h3
  obtain ⟨e1, e2⟩ := back_law bf bt bh
  have hR := fin_run (bf ++ bh)
  generalize inn 0 bt = I at *
  have hLl : (bf ++ (opM :: (I ++ [opB])) ++ bh).length = bf.length + I.length + 2 + bh.length := by
    simp only [List.length_append, List.length_cons, List.length_nil]; omega
  have hKl : (bf ++ bh).length = bf.length + bh.length := List.length_append
  have hf1 : ([bf, [opM], I, [opB], bh] : List (List Jop)).flatten = bf ++ (opM :: (I ++ [opB])) ++ bh := by
    simp only [List.flatten_cons, List.flatten_nil, List.append_nil, List.append_assoc, List.cons_append, List.nil_append]
  have hf2 : ([bf, bh] : List (List Jop)).flatten = bf ++ bh := by
    simp only [List.flatten_cons, List.flatten_nil, List.append_nil]
  have c3 := ConcatJ [bf, [opM], I, [opB], bh] (by simp) (by rw [hf1, hLl]; omega)
  have c4 := ConcatJ [bf, bh] (by simp) (by rw [hf2, hKl]; omega)
  rw [hf1] at c3
  rw [hf2] at c4
  simp only [List.map_cons, List.map_nil] at c3 c4
  have c5 := Play_ _ (by rw [hLl]; omega) hok
  have c6 := Play_ _ (by rw [hKl]; omega) hok2
  have hA1 := run_len (bf ++ (opM :: (I ++ [opB])) ++ bh) S0
  have hA2 := run_len (bf ++ bh) S0
  rw [e2] at c5
  rw [hLl] at hA1
  rw [hKl] at hA2 hR
  clear hf1 hf2 e2 hok hok2 h1 h2 h3
  generalize bf ++ (opM :: (I ++ [opB])) ++ bh = L at *
  generalize bf ++ bh = K at *
  generalize (jrun S0 L).2 = A1 at *
  generalize (jrun S0 K).2 = A2 at *
  generalize fin (jrun S0 K).1.now = R at *
  have hd : A1.drop (A1.length - bh.length) = A2.drop bf.length := by
    rw [← e1, hA1]
    congr 1
    omega
  have c7 : LF Try.prog 30 [.s none ((A1.drop (A1.length - bh.length)).map ansV), .s none ((A2.drop bf.length).map ansV)] (fun _ => .k (.bool true)) none := by
    rw [hd]
    exact EqualA (A2.drop bf.length) (by rw [List.length_drop]; omega)
  clear hd e1
  have c8 := EqualP R (by omega)
  have hm1 : (A1.map ansV).length = A1.length := List.length_map _
  have hm2 : (A2.map ansV).length = A2.length := List.length_map _
  have hm3 : (L.map opV).length = L.length := List.length_map _
  refine LFx.mk' tt Try.func10 rfl rfl rfl (by kernel_rfl) rfl rfl fun F => ?_
  exact wk trueW trueW trueW
end Jw
end Lf
open Go.RowKit Rg Rp
set_option linter.unusedVariables false
set_option maxRecDepth 100000
namespace Lf
namespace Jw
open Jn
set_option maxHeartbeats 8000000 in
theorem JournalKeep (bf bt bh : List Jop) (hl : bf.length + bt.length + bh.length < 2000000) (h1 : OpsOk B64 bf) (h2 : OpsOk B64 bt) (h3 : OpsOk B64 bh) : LF Try.prog 11 [.s none (bf.map opV), .s none (bt.map opV), .s none (bh.map opV)] (fun _ => .k (.bool true)) none := by
  have c1 := alive14_
  have c2 := inner_ bt (by omega)
  have hB : (0 : Nat) < B64 := by unfold B64; decide
  have hil := inn_len (ops := bt) (d := 0)
  have hok := okOf h1 (inn_ok hB (d := 0) h2) h3 (x := opM) (y := opK) ⟨hB, hB⟩ ⟨hB, hB⟩
  have hok2 := okTwo (okTwo h1 (inn_ok hB (d := 0) h2)) h3
  obtain ⟨e1, e2⟩ := keep_law bf bt bh
  have hR := fin_run (bf ++ inn 0 bt ++ bh)
  generalize inn 0 bt = I at *
  have hLl : (bf ++ (opM :: (I ++ [opK])) ++ bh).length = bf.length + I.length + 2 + bh.length := by
    simp only [List.length_append, List.length_cons, List.length_nil]; omega
  have hKl : (bf ++ I ++ bh).length = bf.length + I.length + bh.length := by rw [List.length_append, List.length_append]
  have hf1 : ([bf, [opM], I, [opK], bh] : List (List Jop)).flatten = bf ++ (opM :: (I ++ [opK])) ++ bh := by
    simp only [List.flatten_cons, List.flatten_nil, List.append_nil, List.append_assoc, List.cons_append, List.nil_append]
  have hf2 : ([bf, I, bh] : List (List Jop)).flatten = bf ++ I ++ bh := by
    simp only [List.flatten_cons, List.flatten_nil, List.append_nil, List.append_assoc]
  have c3 := ConcatJ [bf, [opM], I, [opK], bh] (by simp) (by rw [hf1, hLl]; omega)
  have c4 := ConcatJ [bf, I, bh] (by simp) (by rw [hf2, hKl]; omega)
  rw [hf1] at c3
  rw [hf2] at c4
  simp only [List.map_cons, List.map_nil] at c3 c4
  have c5 := Play_ _ (by rw [hLl]; omega) hok
  have c6 := Play_ _ (by rw [hKl]; omega) hok2
  have hA1 := run_len (bf ++ (opM :: (I ++ [opK])) ++ bh) S0
  have hA2 := run_len (bf ++ I ++ bh) S0
  rw [e2] at c5
  rw [hLl] at hA1
  rw [hKl] at hA2 hR
  clear hf1 hf2 e2 hok hok2 h1 h2 h3
  generalize bf ++ (opM :: (I ++ [opK])) ++ bh = L at *
  generalize bf ++ I ++ bh = K at *
  generalize (jrun S0 L).2 = A1 at *
  generalize (jrun S0 K).2 = A2 at *
  generalize fin (jrun S0 K).1.now = R at *
  have hd : A1.drop (A1.length - bh.length) = A2.drop (A2.length - bh.length) := by
    have ha : A1.length - bh.length = bf.length + I.length + 2 := by omega
    have hb : A2.length - bh.length = bf.length + I.length := by omega
    rw [ha, hb]
    exact e1
  have c7 : LF Try.prog 30 [.s none ((A1.drop (A1.length - bh.length)).map ansV), .s none ((A2.drop (A2.length - bh.length)).map ansV)] (fun _ => .k (.bool true)) none := by
    rw [hd]
    exact EqualA (A2.drop (A2.length - bh.length)) (by rw [List.length_drop]; omega)
  clear hd e1
  have c8 := EqualP R (by omega)
  have hm1 : (A1.map ansV).length = A1.length := List.length_map _
  have hm2 : (A2.map ansV).length = A2.length := List.length_map _
  have hm3 : (L.map opV).length = L.length := List.length_map _
  refine LFx.mk' tt Try.func11 rfl rfl rfl (by kernel_rfl) rfl rfl fun F => ?_
  exact wk trueW trueW trueW
end Jw
end Lf
end Go.Proofs.Ytgjoecocahpfhaa

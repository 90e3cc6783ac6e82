/- A part of the proof: texts joined. -/
import Derived.Test.YtgjoecocahpfhaaQ223c68b7
namespace Go.Proofs.Ytgjoecocahpfhaa
open Go.RowKit Rg Rp
set_option linter.unusedVariables false
set_option maxRecDepth 100000
namespace Lf
namespace Jw
open Jn
abbrev opsV (l : List Jop) : V := .s none (l.map opV)
set_option maxHeartbeats 1000000 in
theorem GrowJ (n : Nat) (hn : n < 100000000) (k : Nat) : LM Try.prog 46 [.nil, .k (.int .i64 (n : Int))] [] fun o m => o = .ret (.s (some k) []) ∧ m = [(k, .r 59 3 0)] := by
  rcases Nat.eq_zero_or_pos n with h0 | h0
  · subst h0
    refine LM.nilrow _ _ k rfl ?_
    refine LFx.mk' tt Try.func46 rfl rfl rfl (by kernel_rfl) rfl rfl fun F => ?_
    refine wk ?_ trueW trueW
    refine DR.pp rfl rfl (Does.capNil tt rfl rfl rfl rfl rfl) rfl ?_
    exact wk trueW trueW trueW
  · refine LM.row1 (k0 := 22) (fun _ => rfl) ?_ k
    refine LFx.mk' tt Try.func46 rfl rfl rfl (by kernel_rfl) rfl rfl fun F => ?_
    refine wk ?_ trueW trueW
    refine DR.pp rfl rfl (Does.capNil tt rfl rfl rfl rfl rfl) rfl ?_
    refine wk ?_ trueW trueW
    refine DR.pp rfl rfl (Does.capNil tt rfl rfl rfl rfl rfl) rfl ?_
    refine DR.pp rfl rfl (Does.cutNil tt rfl rfl rfl rfl rfl (.some rfl rfl)) rfl ?_
    refine wk ?_ trueW trueW
    refine DR.nn rfl rfl (Does.appMake (n := n) tt rfl rfl rfl rfl rfl rfl rfl rfl rfl rfl h0 (by omega) (by show n * 24 ≤ _; omega)) rfl rfl ?_
    refine wk ?_ trueW trueW
    refine DR.ww rfl rfl (Does.cutW0 tt rfl rfl rfl rfl rfl (.some rfl rfl)) rfl rfl ?_
    exact wk trueW trueW trueW
set_option maxHeartbeats 1000000 in
theorem ConcatJ (ls : List (List Jop)) (h1 : ls.length < 1073741824) (h2 : ls.flatten.length < 100000000) (k : Nat) : LM Try.prog 28 [.s none (ls.map opsV)] [] fun o m => o = .ret (.s (some k) (ls.flatten.map opV)) ∧ m = [(k, .r 59 3 ls.flatten.length)] := by
  refine LM.row1 (k0 := 24) (fun ρ => by simp [V.ren]) ?_ k
  have c1 := GrowJ ls.flatten.length h2 24
  refine LFx.mk' tt Try.func28 rfl rfl rfl (by kernel_rfl) rfl rfl fun F => ?_
  refine wk ?_ trueW trueW
  refine LC.loopN (fun i => [(0, .s none (ls.map opsV)), (2, .nil), (3, .k (.int .i64 (((ls.take i).flatten.length : Nat) : Int))), (9, .s none (ls.map opsV)), (10, .k (.int .i64 ((ls.length : Nat) : Int))), (11, .k (.int .i64 ((i : Nat) : Int)))]) (fun i => []) (fun i => i ≤ ls.length) ((ls.length - ·)) (0) (by omega) ⟨rfl, rfl, rfl, rfl, rfl, rfl, trivial⟩ trivial rfl rfW rfW ?_
  intro i hi
  have q1 := flat_le (ls := ls) (i := i)
  rcases Nat.lt_or_ge i ls.length with h3 | h3
  · have hok : i + 1 ≤ ls.length := h3
    have q2 := flat_takeL h3
    have q3 := flat_le (ls := ls) (i := i + 1)
    have q5 : ((ls.getD i default).map opV).length = (ls.getD i default).length := List.length_map _
    refine wk ?_ trueW trueW
    rw [← q2]
    exact wk trueW trueW trueW
  · obtain rfl : i = ls.length := by omega
    rw [List.take_length]
    refine wk ?_ trueW trueW
    refine LC.loopN (fun j => [(2, .nil), (6, .s (some 24) ((ls.take j).flatten.map opV)), (25, .s none (ls.map opsV)), (26, .k (.int .i64 ((ls.length : Nat) : Int))), (27, .k (.int .i64 ((j : Nat) : Int)))]) (fun j => [(24, .r 59 3 (ls.take j).flatten.length)]) (fun j => j ≤ ls.length) ((ls.length - ·)) (0) (by omega) ⟨rfl, rfl, rfl, rfl, rfl, trivial⟩ ⟨rfl, trivial⟩ rfl rfW rfW ?_
    intro j hj
    have q1 := flat_le (ls := ls) (i := j)
    have q0 : ((ls.take j).flatten.map opV).length = (ls.take j).flatten.length := List.length_map _
    rcases Nat.lt_or_ge j ls.length with h4 | h4
    · have hok : j + 1 ≤ ls.length := h4
      have q2 := flat_takeL h4
      have q4 := flat_take h4
      have q3 := flat_le (ls := ls) (i := j + 1)
      have q5 : ((ls.getD j default).map opV).length = (ls.getD j default).length := List.length_map _
      have hzs := ops_sz (ls.getD j default)
      have hzr := ops_sz (ls.take j).flatten
      refine wk ?_ trueW trueW
      rw [← q4]
      exact wk trueW trueW trueW
    · obtain rfl : j = ls.length := by omega
      rw [List.take_length]
      exact wk trueW trueW trueW
set_option maxHeartbeats 4000000 in
theorem EqualA (l : List Ans) (hl : l.length < 100000000) : LF Try.prog 30 [.s none (l.map ansV), .s none (l.map ansV)] (fun _ => .k (.bool true)) none := by
  have hml : (l.map ansV).length = l.length := List.length_map _
  refine LFx.mk' tt Try.func30 rfl rfl rfl (by kernel_rfl) rfl rfl fun F => ?_
  refine wk ?_ trueW trueW
  refine LC.loopN (fun i => [(0, .s none (l.map ansV)), (1, .s none (l.map ansV)), (12, .k (.int .i64 ((l.length : Nat) : Int))), (13, .k (.int .i64 ((i : Nat) : Int)))]) (fun i => []) (fun i => i ≤ l.length) ((l.length - ·)) (0) (Nat.zero_le _) ⟨rfl, rfl, rfl, rfl, trivial⟩ trivial rfl rfW rfW ?_
  intro i hi
  rcases Nat.lt_or_ge i l.length with h | h
  · have hok : i + 1 ≤ l.length := h
    exact wk trueW trueW trueW
  · exact wk trueW trueW trueW
set_option maxHeartbeats 4000000 in
theorem EqualP (l : List (Nat × Nat)) (hl : l.length < 100000000) : LF Try.prog 31 [.s none (l.map pV), .s none (l.map pV)] (fun _ => .k (.bool true)) none := by
  have hml : (l.map pV).length = l.length := List.length_map _
  refine LFx.mk' tt Try.func31 rfl rfl rfl (by kernel_rfl) rfl rfl fun F => ?_
  refine wk ?_ trueW trueW
  refine LC.loopN (fun i => [(0, .s none (l.map pV)), (1, .s none (l.map pV)), (12, .k (.int .i64 ((l.length : Nat) : Int))), (13, .k (.int .i64 ((i : Nat) : Int)))]) (fun i => []) (fun i => i ≤ l.length) ((l.length - ·)) (0) (Nat.zero_le _) ⟨rfl, rfl, rfl, rfl, trivial⟩ trivial rfl rfW rfW ?_
  intro i hi
  rcases Nat.lt_or_ge i l.length with h | h
  · have hok : i + 1 ≤ l.length := h
    exact wk trueW trueW trueW
  · exact wk trueW trueW trueW
end Jw
end Lf
open Go.RowKit Rg Rp
set_option linter.unusedVariables false
set_option maxRecDepth 100000
namespace Lf
namespace Jw
open Jn
theorem drop_at {ops : List Jop} {i : Nat} (h : i < ops.length) : ops.drop i = ops.getD i default :: ops.drop (i + 1) := by
  rw [List.drop_eq_getElem_cons h, List.getD_eq_getElem?_getD, List.getElem?_eq_getElem h]
  rfl
set_option maxHeartbeats 8000000 in
theorem inner_ (ops : List Jop) (hl : ops.length < 10000000) (k : Nat) : LM Try.prog 29 [.s none (ops.map opV)] [] fun o m => o = .ret (.s (some k) ((inn 0 ops).map opV)) ∧ m = [(k, .r 59 3 (inn 0 ops).length)] := by
  generalize hR : inn 0 ops = R
  refine LM.row1 (k0 := 60) (fun ρ => by simp [V.ren]) ?_ k
  have hml : (ops.map opV).length = ops.length := List.length_map _
  refine LFx.mk' tt Try.func29 rfl rfl rfl (by kernel_rfl) rfl rfl fun F => ?_
  refine wk ?_ trueW trueW
  refine LC.nilrow 3 60 59 3 rfl rfl rfl ?_
  refine LC.loop5 (fun i d S (_u3 : Unit) (_u4 : Unit) => [(3, .s (some 60) (S.map opV)), (4, .k (.int .i64 ((d : Nat) : Int))), (7, .s none (ops.map opV)), (8, .k (.int .i64 ((ops.length : Nat) : Int))), (9, .k (.int .i64 ((i : Nat) : Int)))]) (fun i d S (_u3 : Unit) (_u4 : Unit) => [(60, .r 59 3 S.length)]) (fun i d S (_u3 : Unit) (_u4 : Unit) => i ≤ ops.length ∧ d ≤ i ∧ S.length ≤ i ∧ S ++ inn d (ops.drop i) = R) ((ops.length - ·)) (0) (0) ([]) () () ⟨by omega, by omega, Nat.le_refl _, hR⟩ ⟨rfl, rfl, rfl, rfl, rfl, trivial⟩ ⟨rfl, trivial⟩ rfl rfW rfW ?_
  clear hR
  rintro i d S _ _ ⟨hi, hd, hSl, hS⟩
  have hsz := ops_sz S
  rcases Nat.lt_or_ge i ops.length with h | h
  · rw [drop_at h, inn] at hS
    have hz : S.map opV ++ [V.a [.k (.int .i64 (ops.getD i default).kind), V.k (.int .u64 (((ops.getD i default).key : Nat) : Int)), V.k (.int .u64 (((ops.getD i default).val : Nat) : Int))]] = (S ++ [ops.getD i default]).map opV := by rw [List.map_append]; rfl
    have hsl1 : (S ++ [ops.getD i default]).length ≤ i + 1 := by rw [List.length_append]; exact Nat.succ_le_succ hSl
    by_cases h45 : (ops.getD i default).kind = 4 ∨ (ops.getD i default).kind = 5
    · rw [if_pos h45] at hS
      by_cases hd0 : d = 0
      · rw [if_pos hd0] at hS
        subst hd0
        have hok : i + 1 ≤ ops.length ∧ 0 ≤ i + 1 ∧ S.length ≤ i + 1 ∧ S ++ inn 0 (ops.drop (i + 1)) = R := ⟨by omega, by omega, by omega, hS⟩
        clear hS
        rcases h45 with h4 | h5
        · exact wk trueW trueW trueW
        · have h4 : ¬ (ops.getD i default).kind = 4 := by omega
          exact wk trueW trueW trueW
      · rw [if_neg hd0] at hS
        have hok : i + 1 ≤ ops.length ∧ d - 1 ≤ i + 1 ∧ (S ++ [ops.getD i default]).length ≤ i + 1 ∧ (S ++ [ops.getD i default]) ++ inn (d - 1) (ops.drop (i + 1)) = R := ⟨by omega, by omega, hsl1, by rw [List.append_assoc]; exact hS⟩
        clear hS
        rcases h45 with h4 | h5
        · have h3 : ¬ (ops.getD i default).kind = 3 := by omega
          exact wk trueW trueW trueW
        · have h4 : ¬ (ops.getD i default).kind = 4 := by omega
          have h3 : ¬ (ops.getD i default).kind = 3 := by omega
          exact wk trueW trueW trueW
    · rw [if_neg h45] at hS
      have h4 : ¬ (ops.getD i default).kind = 4 := fun e => h45 (.inl e)
      have h5 : ¬ (ops.getD i default).kind = 5 := fun e => h45 (.inr e)
      clear h45
      by_cases h3 : (ops.getD i default).kind = 3
      · rw [if_pos h3] at hS
        have hok : i + 1 ≤ ops.length ∧ d + 1 ≤ i + 1 ∧ (S ++ [ops.getD i default]).length ≤ i + 1 ∧ (S ++ [ops.getD i default]) ++ inn (d + 1) (ops.drop (i + 1)) = R := ⟨by omega, by omega, hsl1, by rw [List.append_assoc]; exact hS⟩
        clear hS
        exact wk trueW trueW trueW
      · rw [if_neg h3] at hS
        have hok : i + 1 ≤ ops.length ∧ d ≤ i + 1 ∧ (S ++ [ops.getD i default]).length ≤ i + 1 ∧ (S ++ [ops.getD i default]) ++ inn d (ops.drop (i + 1)) = R := ⟨by omega, by omega, hsl1, by rw [List.append_assoc]; exact hS⟩
        clear hS
        exact wk trueW trueW trueW
  · rw [List.drop_of_length_le h, inn] at hS
    have hd2 : d < 10000000 := by omega
    have hS2 : S.length < 10000000 := by omega
    clear hd hSl
    refine wk ?_ trueW trueW
    refine LC.loop2 (fun j T => [(3, .s (some 60) (T.map opV)), (35, .k (.int .i64 ((d : Nat) : Int))), (36, .k (.int .i64 ((j : Nat) : Int)))]) (fun j T => [(60, .r 59 3 T.length)]) (fun j T => j ≤ d ∧ T.length = S.length + j ∧ T ++ List.replicate (d - j) opB = R) ((d - ·)) (0) (S) ⟨by omega, rfl, hS⟩ ⟨rfl, rfl, rfl, trivial⟩ ⟨rfl, trivial⟩ rfl rfW rfW ?_
    rintro j T ⟨hj, hTl, hT⟩
    have hsz := ops_sz T
    rcases Nat.lt_or_ge j d with h | h
    · have hok : j + 1 ≤ d ∧ (T ++ [opB]).length = S.length + (j + 1) ∧ (T ++ [opB]) ++ List.replicate (d - (j + 1)) opB = R := ⟨by omega, by rw [List.length_append, hTl]; rfl, by
        rw [List.append_assoc, ← hT, show d - j = d - (j + 1) + 1 by omega, List.replicate_succ]
        rfl⟩
      have hz : T.map opV ++ [V.a [V.k (.int .i64 4), V.k (.int .u64 0), V.k (.int .u64 0)]] = (T ++ [opB]).map opV := by rw [List.map_append]; rfl
      clear hT hS
      exact wk trueW trueW trueW
    · rw [show d - j = 0 by omega, List.replicate_zero, List.append_nil] at hT
      rw [← hT]
      clear hT hS
      exact wk trueW trueW trueW
end Jw
end Lf
end Go.Proofs.Ytgjoecocahpfhaa

/- A part of the proof: texts joined. -/
import Derived.Test.YtkbimhccaacobaaQ24dc2726
namespace Go.Proofs.Ytkbimhccaacobaa
open Go.RowKit Rg Rp Wm Ar
set_option linter.unusedVariables false
set_option maxRecDepth 100000
namespace Lf
open Tr
theorem prs_sizes (l : List Pr) : ∀ e ∈ l.map prV, e.cells.length = 2 := fun e he => by
  obtain ⟨p, _, rfl⟩ := List.mem_map.1 he
  exact prC_len p
theorem rn_ren (ρ : Nat → Nat) (x : Rn) : (rnV x).ren ρ = rnV x := by
  obtain ⟨k, p, v, ks⟩ := x
  simp only [rnV, rnC_eq]
  rfl
namespace Te
theorem Reverse_ (L : List Pr) (h0 : 0 < L.length) (hl : L.length < 1000000000) (k : Nat) : LM Try.prog 36 [.w k L.length 2 0 L.length] [(k, .w 66 2 L.length (L.map prV))] fun o m => o = .ret (.t []) ∧ m = [(k, .w 66 2 L.length (L.reverse.map prV))] :=
  LM.gen [1000] [k] (by simp) (by simp) rfl (Reverse1 L h0 hl) fun ρ hρ => by
    simp at hρ
    exact ⟨by simp [V.ren, hρ], by simp [Mem.ren, M.ren, hρ], rfl, by simp [Mem.ren, M.ren, hρ]⟩
set_option maxHeartbeats 1000000 in
theorem Reverse0 : LM Try.prog 36 [.s none []] [] fun o m => o = .ret (.t []) ∧ m = [] := by
  refine LFx.mk' tt Try.func36 rfl rfl rfl (by kernel_rfl) rfl rfl fun F => ?_
  refine wk ?_ trueW trueW
  refine LC.loopN (fun i => [(0, .s none []), (2, .k (.int .i64 0)), (3, .k (.int .i64 (-1)))]) (fun i => []) (fun i => i ≤ 0) ((0 - ·)) (0) (by omega) ⟨rfl, rfl, rfl, trivial⟩ trivial rfl rfW rfW ?_
  intro i hi
  exact wk trueW trueW trueW
theorem Pairs_buf (x : Rn) (hx : x.size < 50000000) (hr : rt x 0 = true) (h0 : 0 < (pairsOf (toN x)).length) (k : Nat) : LM Try.prog 34 [rnV x] [] fun o m => o = .ret (.t [.w k (pairsOf (toN x)).length 2 0 (pairsOf (toN x)).length, erV 0]) ∧ m = [(k, .w 66 2 (pairsOf (toN x)).length ((pairsOf (toN x)).map prV))] := by
  have h := Pairs_row0 x hx hr
  have h2 := LM.gen [1090] [k] (by simp) (by simp) rfl h (o' := .ret (.t [.s (some k) ((pairsOf (toN x)).map prV), erV 0])) (mo' := [(k, .r 66 2 (pairsOf (toN x)).length)]) (args' := [rnV x]) (mi' := []) fun ρ hρ => by
    simp at hρ
    exact ⟨by rw [List.map_cons, rn_ren]; rfl, rfl, by simp [Out.ren, V.ren, V.ren.go, hρ], by simp [Mem.ren, M.ren, hρ]⟩
  exact LM.buf (List.length_map _) h0 (fun e he => by
    obtain ⟨p, _, rfl⟩ := List.mem_map.1 he
    refine ⟨prC_len p, fun c hc => ?_⟩
    have hc : c ∈ prC p := hc
    rw [prC_eq] at hc
    simp only [List.mem_cons, List.not_mem_nil, or_false] at hc
    rcases hc with rfl | rfl
    · exact ⟨_, rfl⟩
    · exact ⟨_, rfl⟩) h2
set_option maxHeartbeats 1000000 in
theorem GrowQ (n : Nat) (hn : n < 1073741824) (k : Nat) : LM Try.prog 68 [.nil, .k (.int .i64 (n : Int))] [] fun o m => o = .ret (.s (some k) []) ∧ m = [(k, .r 66 2 0)] := by
  rcases Nat.eq_zero_or_pos n with h0 | h0
  · subst h0
    refine LM.nilrow _ _ k rfl ?_
    refine LFx.mk' tt Try.func68 rfl rfl rfl (by kernel_rfl) rfl rfl fun F => ?_
    refine wk ?_ trueW trueW
    refine DR.pp rfl rfl (Does.capNil tt rfl rfl rfl rfl rfl) rfl ?_
    exact wk trueW trueW trueW
  · refine LM.row1 (k0 := 22) (fun _ => rfl) ?_ k
    refine LFx.mk' tt Try.func68 rfl rfl rfl (by kernel_rfl) rfl rfl fun F => ?_
    refine wk ?_ trueW trueW
    refine DR.pp rfl rfl (Does.capNil tt rfl rfl rfl rfl rfl) rfl ?_
    refine wk ?_ trueW trueW
    refine DR.pp rfl rfl (Does.capNil tt rfl rfl rfl rfl rfl) rfl ?_
    refine DR.pp rfl rfl (Does.cutNil tt rfl rfl rfl rfl rfl (.some rfl rfl)) rfl ?_
    refine wk ?_ trueW trueW
    refine DR.nn rfl rfl (Does.appMake (n := n) tt rfl rfl rfl rfl rfl rfl rfl rfl rfl rfl h0 (by omega) (by show n * 48 ≤ _; omega)) rfl rfl ?_
    refine wk ?_ trueW trueW
    refine DR.ww rfl rfl (Does.cutW0 tt rfl rfl rfl rfl rfl (.some rfl rfl)) rfl rfl ?_
    exact wk trueW trueW trueW
set_option maxHeartbeats 1000000 in
theorem ConcatQ (ls : List (List Pr)) (h1 : ls.length < 1073741824) (h2 : ls.flatten.length < 1073741824) (k : Nat) : LM Try.prog 35 [.s none (ls.map prsV)] [] fun o m => o = .ret (.s (some k) (ls.flatten.map prV)) ∧ m = [(k, .r 66 2 ls.flatten.length)] := by
  refine LM.row1 (k0 := 24) (fun ρ => by simp [V.ren]) ?_ k
  have c1 := GrowQ ls.flatten.length h2 24
  have hbr := prC_bare
  refine LFx.mk' tt Try.func35 rfl rfl rfl (by kernel_rfl) rfl rfl fun F => ?_
  refine wk ?_ trueW trueW
  refine LC.loopN (fun i => [(0, .s none (ls.map prsV)), (2, .nil), (3, .k (.int .i64 (((ls.take i).flatten.length : Nat) : Int))), (9, .s none (ls.map prsV)), (10, .k (.int .i64 ((ls.length : Nat) : Int))), (11, .k (.int .i64 ((i : Nat) : Int)))]) (fun i => []) (fun i => i ≤ ls.length) ((ls.length - ·)) (0) (by omega) ⟨rfl, rfl, rfl, rfl, rfl, rfl, trivial⟩ trivial rfl rfW rfW ?_
  intro i hi
  have q1 := flat_le (ls := ls) (i := i)
  rcases Nat.lt_or_ge i ls.length with h3 | h3
  · have hok : i + 1 ≤ ls.length := h3
    have q2 := flat_takeL h3
    have q3 := flat_le (ls := ls) (i := i + 1)
    refine wk ?_ trueW trueW
    rw [← q2]
    exact wk trueW trueW trueW
  · obtain rfl : i = ls.length := by omega
    rw [List.take_length]
    refine wk ?_ trueW trueW
    refine LC.loopN (fun j => [(2, .nil), (6, .s (some 24) ((ls.take j).flatten.map prV)), (25, .s none (ls.map prsV)), (26, .k (.int .i64 ((ls.length : Nat) : Int))), (27, .k (.int .i64 ((j : Nat) : Int)))]) (fun j => [(24, .r 66 2 (ls.take j).flatten.length)]) (fun j => j ≤ ls.length) ((ls.length - ·)) (0) (by omega) ⟨rfl, rfl, rfl, rfl, rfl, trivial⟩ ⟨rfl, trivial⟩ rfl rfW rfW ?_
    intro j hj
    have q1 := flat_le (ls := ls) (i := j)
    have q0 : ((ls.take j).flatten.map prV).length = (ls.take j).flatten.length := List.length_map _
    rcases Nat.lt_or_ge j ls.length with h4 | h4
    · have hok : j + 1 ≤ ls.length := h4
      have q2 := flat_takeL h4
      have q4 := flat_take h4
      have q3 := flat_le (ls := ls) (i := j + 1)
      have z1 := prs_sizes (ls.take j).flatten
      have z2 := prs_sizes (ls.getD j default)
      refine wk ?_ trueW trueW
      rw [← q4]
      exact wk trueW trueW trueW
    · obtain rfl : j = ls.length := by omega
      rw [List.take_length]
      exact wk trueW trueW trueW
end Te
end Lf
open Go.RowKit Rg Rp Wm Ar
set_option linter.unusedVariables false
set_option maxRecDepth 100000
namespace Lf
open Tr
theorem pair_of {n : Nd} (h : Right n 0) {e : Pa × List UInt8} (he : e ∈ pairs n []) : ends e.1.length ∧ e.2.length ≤ 1024 := by
  obtain ⟨q, w⟩ := e
  obtain ⟨r, e1, e2, e3⟩ := (mem_pairs n [] 0 h q w).1 he
  rw [List.nil_append] at e1
  subst e1
  have h3 := get_ends h q (by rw [e2]; exact e3)
  have h4 := get_len h q
  rw [e2] at h4
  rw [Nat.zero_add] at h3
  exact ⟨h3, h4⟩
theorem ofP_perm {n : Nd} (h : Right n 0) {ps : List Pr} (hp : ps.Perm (pairsOf n)) : ofP ps = n := by
  have q : (ps.map pkP).Perm (pairs n []) := by rw [← pairs_back h]; exact hp.map _
  unfold ofP
  refine ofL_pairs h (fun e => q.mem_iff) ?_ fun e he => pair_of h (q.mem_iff.1 he)
  exact (List.Perm.pairwise_iff (R := fun a b : Pa × List UInt8 => a.1 ≠ b.1) (fun {x y} h => fun e => h e.symm) q).2 ((pairs_sorted n [] 0 h).imp fun {a b} h => ltP_ne h)
theorem pairs_prOk {n : Nd} (h : Right n 0) {p : Pr} (hp : p ∈ pairsOf n) : prOk p := by
  obtain ⟨e, he, rfl⟩ := List.mem_map.1 hp
  obtain ⟨h1, h2⟩ := pair_of h he
  refine ⟨?_, h2⟩
  show (keyB e.1).length ≤ 32
  have := keyP_len (keyB e.1)
  rw [keyP_B h1.1] at this
  have := h1.2
  omega
section
variable {P : Program} {o : Oper} {env : Env}
end
namespace Te
theorem Of_perm (x : Rn) (hr : rt x 0 = true) {ps : List Pr} (hp : ps.Perm (pairsOf (toN x))) (hl : ps.length < 1000000000) : LF Try.prog 33 [prsV ps] (fun _ => .t [rnV (ofN (toN x)), erV 0]) none := by
  have hR := rt_right _ x 0 (Nat.le_refl _) hr
  have hok : ∀ p ∈ ps, prOk p := fun p h => pairs_prOk hR (hp.mem_iff.1 h)
  rcases Of_ ps hl (fun p h => by have := hok p h; exact ⟨by have := this.1; omega, by have := this.2; omega⟩) with ⟨_, h⟩ | ⟨⟨p, hp', h⟩, _⟩
  · rw [ofP_perm hR hp] at h
    exact h
  · exact absurd (hok p hp') h
end Te
end Lf
end Go.Proofs.Ytkbimhccaacobaa

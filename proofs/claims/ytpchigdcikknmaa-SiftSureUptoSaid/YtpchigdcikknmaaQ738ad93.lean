/- A part of the proof: texts joined. -/
import Derived.Test.YtpchigdcikknmaaQ6b653a2
/- Sift: what is found is there. -/
namespace Go.Proofs.Ytpchigdcikknmaa
open Go.RowKit Rg Wm Ar
set_option linter.unusedVariables false
set_option maxRecDepth 100000
namespace Lf
theorem rcq_l {ti : TI} {r : Rc} (k : r.ok) (hd : ti.d.agg = false) : ti.part ((rcC r).drop 34) 0 = some (lgsV r.logs) := part_num (r := []) hd (by
  rw [List.drop_zero, rcC_eq, List.drop_succ_cons, List.drop_succ_cons]; exact drop_at (len_b _ k.bloom) 0)
theorem ahead_next {a : Nat} {b c : Int} {q : Nat × Fd} (h : a < q.1) : AheadQ (a + 1) (-1) (-1) q := by
  unfold AheadQ
  omega
theorem ahead_le {a : Nat} {b c : Int} {q : Nat × Fd} (h : AheadQ a b c q) : a ≤ q.1 := by
  unfold AheadQ at h
  omega
theorem ahead_go {a : Nat} {q q' : Nat × Fd} (h : a ≤ q.1) (h2 : ltQ q q') : AheadQ a (q.2.tx : Int) (q.2.at_ : Int) q' := by
  unfold ltQ at h2
  unfold AheadQ
  omega
namespace Sf
set_option maxHeartbeats 40000000 in
theorem sure_walk (ps : List Pg) (f : Fl) (kf : f.ok) (h : PgsOk ps) (R : List Fd) (L : List (Nat × Fd)) (hlen : L.length = R.length) (hRL : ∀ m, m < R.length → R.getD m default = (L.getD m default).2) (hat : ∀ m, m < R.length → SureAt f ps (L.getD m default)) (hnx : ∀ m, m + 1 < R.length → ltQ (L.getD m default) (L.getD (m + 1) default)) (hR : ∀ d ∈ R, d.ok) (hRl : R.length < 2000000)
    (c2 : LF Try.prog 10 [pgsV ps, flV f, .k (.int .i64 4611686018427387904)] (fun _ => fdsV R) none) :
    LF Try.prog 5 [pgsV ps, flV f] (fun _ => .k (.bool true)) none := by
  have hrf := siftRefs
  have hpl := h.len
  have c1 := alive20
  have hbr := lgV_bare
  have ld1 := @fd_n
  have ld2 := @fd_x
  have ld3 := @fd_i
  have ld4 := @fd_l
  have ld5 := @rcq_l
  refine LFx.mk' tt Try.func5 rfl rfl rfl (by kernel_rfl) rfl rfl fun F => ?_
  refine wk ?_ trueW trueW
  refine LC.loop5 (fun m A B C (_u4 : Unit) => [(0, pgsV ps), (3, .p 3 0), (5, .k (.int .i64 ((A : Nat) : Int))), (6, .p 6 0), (14, fdsV R), (15, .k (.int .i64 ((R.length : Nat) : Int))), (16, .k (.int .i64 ((m : Nat) : Int)))]) (fun m A B C (_u4 : Unit) => [(3, .b (flC f)), (6, .b [iK A, .k (.int .i64 B), .k (.int .i64 C)])]) (fun m A B C (_u4 : Unit) => m ≤ R.length ∧ (m < R.length → AheadQ A B C (L.getD m default))) ((R.length - ·)) (0) (0) (-1) (-1) () ⟨by omega, fun _ => by unfold AheadQ; omega⟩ ⟨rfl, rfl, rfl, rfl, rfl, rfl, rfl, trivial⟩ ⟨rfl, rfl, trivial⟩ rfl rfW rfW ?_
  rintro m A B C _ ⟨hm, hA⟩
  rcases Nat.lt_or_ge m R.length with hlt | hlt
  · have hxo := hR _ (getD_mem' (d := default) hlt)
    have hxa := hxo.log.addr
    have hxt := hxo.tx
    have hxi := hxo.at_
    have hxn := hxo.number
    have hll : (fdC (R.getD m default)).length = 13 := fdS_len hxa
    have hll0 : (lgC (R.getD m default).log).length = 10 := lgS_len hxa
    have hsq := hat m hlt
    have hq : (R.getD m default) = (L.getD m default).2 := hRL m hlt
    have hnext := hnx m
    refine wk ?_ trueW trueW
    refine LC.loop5 (fun a b c (_u3 : Unit) (_u4 : Unit) => [(0, pgsV ps), (3, .p 3 0), (5, .k (.int .i64 ((a : Nat) : Int))), (6, .p 6 0), (8, .p 8 0), (14, fdsV R), (15, .k (.int .i64 ((R.length : Nat) : Int))), (16, .k (.int .i64 ((m : Nat) : Int)))]) (fun a b c (_u3 : Unit) (_u4 : Unit) => [(3, .b (flC f)), (6, .b [iK a, .k (.int .i64 b), .k (.int .i64 c)]), (8, .b (fdC (R.getD m default)))]) (fun a b c (_u3 : Unit) (_u4 : Unit) => AheadQ a b c (L.getD m default)) ((ps.length - ·)) (A) (B) (C) () () (hA hlt) ⟨rfl, rfl, rfl, rfl, rfl, rfl, rfl, rfl, trivial⟩ ⟨rfl, rfl, rfl, trivial⟩ rfl rfW rfW ?_
    rintro a b c _ _ hA2
    have hle := ahead_le hA2
    have hap : a < ps.length := Nat.lt_of_le_of_lt hle hsq.pg
    have kp := h.pgs _ (getD_mem' (d := default) hap)
    have hpn := kp.number
    have hrl := kp.rl
    have good : a = (L.getD m default).1 → (R.getD m default).number = (ps.getD a default).number ∧ (R.getD m default).tx < (ps.getD a default).recs.length ∧ (R.getD m default).at_ < ((ps.getD a default).recs.getD (R.getD m default).tx default).logs.length ∧ (((ps.getD a default).recs.getD (R.getD m default).tx default).logs.getD (R.getD m default).at_ default) = (R.getD m default).log ∧ (b < ((R.getD m default).tx : Int) ∨ (b = ((R.getD m default).tx : Int) ∧ c < ((R.getD m default).at_ : Int))) := fun e => by
      rw [hq]
      unfold AheadQ at hA2
      subst e
      exact ⟨hsq.num, hsq.tx, hsq.at_, hsq.log, by omega⟩
    by_cases g1 : (ps.getD a default).number = (R.getD m default).number
    · by_cases g2 : (R.getD m default).tx < (ps.getD a default).recs.length
      · have kr := kp.recs _ (getD_mem' (d := default) g2)
        have hll1 := rcC_len kr
        have hrll := kr.ll
        by_cases g3 : (R.getD m default).at_ < ((ps.getD a default).recs.getD (R.getD m default).tx default).logs.length
        · have kl := kr.logs _ (getD_mem' (d := default) g3)
          have hll2 : (lgC (((ps.getD a default).recs.getD (R.getD m default).tx default).logs.getD (R.getD m default).at_ default)).length = 10 := lgS_len kl.addr
          have hla2 := kl.addr
          have c3 := SameL_one (((ps.getD a default).recs.getD (R.getD m default).tx default).logs.getD (R.getD m default).at_ default) (R.getD m default).log kl hxo.log
          have c4 := Through_ f (R.getD m default).log kf hxo.log
          rw [show lets f (R.getD m default).log = true from by rw [hq]; exact hsq.thr] at c4
          rcases (by omega : ((R.getD m default).tx : Int) < b ∨ (((R.getD m default).tx : Int) = b ∧ ((R.getD m default).at_ : Int) ≤ c) ∨ (((R.getD m default).tx : Int) = b ∧ ¬ ((R.getD m default).at_ : Int) ≤ c) ∨ (¬ ((R.getD m default).tx : Int) < b ∧ ¬ ((R.getD m default).tx : Int) = b)) with g4 | ⟨g4, g6⟩ | ⟨g4, g6⟩ | ⟨g4, g6⟩
          · clear c3 c4
            have hlq : a < (L.getD m default).1 := Nat.lt_of_le_of_ne hle fun e => by
              have hg := good e
              omega
            have hok : AheadQ (a + 1) (-1) (-1) (L.getD m default) := ahead_next (b := 0) (c := 0) hlq
            clear good hq hA hA2 hR hat hnx hRL hnext hsq
            exact wk trueW trueW trueW
          · clear c3 c4
            have hlq : a < (L.getD m default).1 := Nat.lt_of_le_of_ne hle fun e => by
              have hg := good e
              omega
            have hok : AheadQ (a + 1) (-1) (-1) (L.getD m default) := ahead_next (b := 0) (c := 0) hlq
            clear good hq hA hA2 hR hat hnx hRL hnext hsq
            exact wk trueW trueW trueW
          · have g7 : ¬ ((R.getD m default).tx : Int) < b := by omega
            by_cases g5 : (((ps.getD a default).recs.getD (R.getD m default).tx default).logs.getD (R.getD m default).at_ default) = (R.getD m default).log
            · rw [decide_eq_true g5] at c3
              have hok : m + 1 ≤ R.length ∧ (m + 1 < R.length → AheadQ a ((R.getD m default).tx : Int) ((R.getD m default).at_ : Int) (L.getD (m + 1) default)) := ⟨hlt, fun h9 => by rw [hq]; exact ahead_go hle (hnext h9)⟩
              clear good hq hA hA2 hR hat hnx hRL hnext hsq
              exact wk trueW trueW trueW
            · rw [decide_eq_false g5] at c3
              have hlq : a < (L.getD m default).1 := Nat.lt_of_le_of_ne hle fun e => by
                have hg := good e
                exact absurd hg.2.2.2.1 g5
              have hok : AheadQ (a + 1) (-1) (-1) (L.getD m default) := ahead_next (b := 0) (c := 0) hlq
              clear good hq hA hA2 hR hat hnx hRL hnext hsq
              exact wk trueW trueW trueW
          · skip
            by_cases g5 : (((ps.getD a default).recs.getD (R.getD m default).tx default).logs.getD (R.getD m default).at_ default) = (R.getD m default).log
            · rw [decide_eq_true g5] at c3
              have hok : m + 1 ≤ R.length ∧ (m + 1 < R.length → AheadQ a ((R.getD m default).tx : Int) ((R.getD m default).at_ : Int) (L.getD (m + 1) default)) := ⟨hlt, fun h9 => by rw [hq]; exact ahead_go hle (hnext h9)⟩
              clear good hq hA hA2 hR hat hnx hRL hnext hsq
              exact wk trueW trueW trueW
            · rw [decide_eq_false g5] at c3
              have hlq : a < (L.getD m default).1 := Nat.lt_of_le_of_ne hle fun e => by
                have hg := good e
                exact absurd hg.2.2.2.1 g5
              have hok : AheadQ (a + 1) (-1) (-1) (L.getD m default) := ahead_next (b := 0) (c := 0) hlq
              clear good hq hA hA2 hR hat hnx hRL hnext hsq
              exact wk trueW trueW trueW
        · clear hll1
          have hll1 := rcC_len kr
          have hlq : a < (L.getD m default).1 := Nat.lt_of_le_of_ne hle fun e => by
            have hg := good e
            exact absurd hg.2.2.1 g3
          have hok : AheadQ (a + 1) (-1) (-1) (L.getD m default) := ahead_next (b := 0) (c := 0) hlq
          clear good hq hA hA2 hR hat hnx hRL hnext hsq
          exact wk trueW trueW trueW
      · skip
        have hlq : a < (L.getD m default).1 := Nat.lt_of_le_of_ne hle fun e => by
          have hg := good e
          exact absurd hg.2.1 g2
        have hok : AheadQ (a + 1) (-1) (-1) (L.getD m default) := ahead_next (b := 0) (c := 0) hlq
        clear good hq hA hA2 hR hat hnx hRL hnext hsq
        exact wk trueW trueW trueW
    · skip
      have hlq : a < (L.getD m default).1 := Nat.lt_of_le_of_ne hle fun e => by
        have hg := good e
        exact absurd hg.1.symm g1
      have hok : AheadQ (a + 1) (-1) (-1) (L.getD m default) := ahead_next (b := 0) (c := 0) hlq
      clear good hq hA hA2 hR hat hnx hRL hnext hsq
      exact wk trueW trueW trueW
  · obtain rfl : m = R.length := by omega
    clear hA
    exact wk trueW trueW trueW
end Sf
end Lf
end Go.Proofs.Ytpchigdcikknmaa

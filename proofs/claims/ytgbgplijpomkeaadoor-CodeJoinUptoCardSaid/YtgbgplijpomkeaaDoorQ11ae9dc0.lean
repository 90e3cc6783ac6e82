/- A part of the proof: texts joined. -/
import Derived.Test.YtgbgplijpomkeaaDoorQ10a52428
/- Package code: read. -/
namespace Go.Proofs.YtgbgplijpomkeaaDoor
open Go.RowKit Rg Wm Ar
set_option linter.unusedVariables false
set_option maxRecDepth 100000
namespace Co
theorem hit_no {m : List UInt8} {sp : Bool} {k j : Nat} (h : hit m sp k = false) : seek m sp (j + 1) k = seek m sp j (k + 1) := by
  simp only [seek, h]
  rfl
theorem hit_yes {m : List UInt8} {sp : Bool} {k j : Nat} (h : hit m sp k = true) : seek m sp (j + 1) k = some k := by
  simp only [seek, h, if_true]
theorem fnd_at {m t : List UInt8} {sp : Bool} {k : Nat} (h : rdOp m sp = some k) (h0 : Cn.pushed k = 0) : fnd m sp t = ([UInt8.ofNat k], true, true) := by
  unfold fnd
  rw [h]
  simp only
  rw [if_pos h0]
theorem fnd_push {m t : List UInt8} {sp : Bool} {k : Nat} (h : rdOp m sp = some k) (h0 : ¬ Cn.pushed k = 0) : fnd m sp t = (UInt8.ofNat k :: (Hx.parse t).getD [], decide (((Hx.parse t).getD []).length = Cn.pushed k), decide ((Hx.parse t).isSome = true ∧ ((Hx.parse t).getD []).length ≤ Cn.pushed k)) := by
  unfold fnd
  rw [h]
  simp only
  rw [if_neg h0]
theorem fnd_no {m t : List UInt8} {sp : Bool} (h : rdOp m sp = none) : fnd m sp t = ([], false, false) := by
  unfold fnd
  rw [h]
theorem parse_len {s l : List UInt8} (h : Hx.parse s = some l) : l.length ≤ s.length := by
  rw [← Hx.print_parse h, Hx.print_len]
  omega
end Co
namespace Lf
theorem neT (a b : List UInt8) : arithS .neq ⟨a.toArray⟩ ⟨b.toArray⟩ = some (.bool (!decide (a = b))) := by
  simp only [arithS, ByteArray.toList_mk]
  by_cases h : a = b
  · subst h; simp
  · simp [h]
namespace Cw
set_option maxHeartbeats 8000000 in
theorem read_sp (s : List UInt8) (h : Co.spc s < s.length) (hl : s.length < 100000000) : LF Tryd.prog 23 [sK s] (fun _ => .t [.s none ((Co.fnd (s.take (Co.spc s)) true (s.drop (Co.spc s + 1))).1.map bK), .k (.bool (Co.fnd (s.take (Co.spc s)) true (s.drop (Co.spc s + 1))).2.1), .k (.bool (Co.fnd (s.take (Co.spc s)) true (s.drop (Co.spc s + 1))).2.2)]) none := by
  have c1 := Cut_yes s h (by omega)
  have htl : (s.drop (Co.spc s + 1)).length < 100000000 := by rw [List.length_drop]; omega
  have hml : (s.take (Co.spc s)).length < 100000000 := by rw [List.length_take]; omega
  generalize s.take (Co.spc s) = m at *
  generalize s.drop (Co.spc s + 1) = t at *
  refine LFx.mk' tt Tryd.func23 rfl rfl rfl (by kernel_rfl) rfl rfl fun F => ?_
  refine wk ?_ trueW trueW
  refine LC.loopN (fun k => [(5, sK m), (6, sK t), (7, .k (.bool true)), (40, .k (.int .i64 ((k : Nat) : Int)))]) (fun k => []) (fun k => k ≤ 256 ∧ Co.rdOp m true = Co.seek m true (256 - k) k) ((256 - ·)) (0) ⟨by omega, rfl⟩ ⟨rfl, rfl, rfl, rfl, trivial⟩ trivial rfl rfW rfW ?_
  rintro k ⟨hk, hr⟩
  rcases Nat.lt_or_ge k 256 with hk2 | hk2
  · obtain ⟨j, hj⟩ : ∃ j, 256 - k = j + 1 := ⟨255 - k, by omega⟩
    have hj2 : 256 - (k + 1) = j := by omega
    have hb : (UInt8.ofNat k).toNat = k := by rw [UInt8.toNat_ofNat']; omega
    have hw : IntKind.u8.wrap ((k : Nat) : Int) = ((UInt8.ofNat k).toNat : Int) := by rw [wrap_u8 (by omega), hb]
    have c2 := pushedB (UInt8.ofNat k)
    have c3 := NameB (UInt8.ofNat k)
    have hn1 := neT (Co.nm (UInt8.ofNat k)) m
    have he1 := eqT m []
    have hps := Co.psh_le (UInt8.ofNat k)
    have hpk : Cn.pushed k = Co.psh (UInt8.ofNat k) := by unfold Co.psh; rw [hb]
    have hnk : Cn.name k = Co.nm (UInt8.ofNat k) := by unfold Co.nm; rw [hb]
    by_cases hh : Co.hit m true k = true
    · rw [hj, Co.hit_yes hh] at hr
      obtain ⟨g1, g2, g3⟩ := Co.hit_spec.1 hh
      rw [hpk] at g2
      have g2 := of_decide_eq_true g2
      rw [hnk] at g1
      rw [g1, decide_eq_true rfl] at hn1
      rw [g1] at c3
      rw [decide_eq_false g3] at he1
      rw [Co.fnd_push hr (by omega), hpk]
      have c4 := Hw.Parse_a t (by omega)
      cases hp : Hx.parse t with
      | none =>
        rw [hp] at c4
        simp only [Option.getD_none, Option.isSome_none, Bool.false_eq_true, if_false, List.map_nil] at c4
        simp only [Option.getD_none, Option.isSome_none, Bool.false_eq_true, false_and, decide_false, List.map_cons, List.map_nil, List.length_nil]
        rw [decide_eq_false (by omega)]
        clear hr hh hpk hnk g1 hj hj2 hp
        generalize UInt8.ofNat k = b at *
        generalize Co.psh b = q at *
        exact wk trueW trueW trueW
      | some d =>
        have hdl := Co.parse_len hp
        rw [hp] at c4
        simp only [Option.getD_some, Option.isSome_some, if_true] at c4
        simp only [Option.getD_some, Option.isSome_some, true_and, List.map_cons]
        clear hr hh hpk hnk g1 hj hj2 hp
        generalize UInt8.ofNat k = b at *
        generalize Co.psh b = q at *
        by_cases e1 : d.length = q
        · rw [decide_eq_true e1, decide_eq_true (show d.length ≤ q by omega)]
          exact wk trueW trueW trueW
        · rw [decide_eq_false e1]
          by_cases e2 : d.length ≤ q
          · rw [decide_eq_true e2]
            exact wk trueW trueW trueW
          · rw [decide_eq_false e2]
            exact wk trueW trueW trueW
    · have hh := Bool.eq_false_iff.2 hh
      rw [hj, Co.hit_no hh, ← hj2] at hr
      have hok : k + 1 ≤ 256 ∧ Co.rdOp m true = Co.seek m true (256 - (k + 1)) (k + 1) := ⟨by omega, hr⟩
      have hno : ¬ (Co.nm (UInt8.ofNat k) = m ∧ 0 < Co.psh (UInt8.ofNat k) ∧ m ≠ []) := fun ⟨g1, g2, g3⟩ => by
        have this : Co.hit m true k = true := Co.hit_spec.2 ⟨hnk.trans g1, (by rw [hpk]; exact decide_eq_true g2), g3⟩
        rw [hh] at this
        cases this
      clear hr hh hpk hnk hj hj2
      generalize UInt8.ofNat k = b at *
      generalize Co.psh b = q at *
      by_cases e1 : Co.nm b = m
      · rw [decide_eq_true e1] at hn1
        by_cases e2 : 0 < q
        · have e3 : m = [] := Classical.byContradiction fun e3 => hno ⟨e1, e2, e3⟩
          rw [decide_eq_true e3] at he1
          clear hno
          rw [e1] at c3 hn1
          exact wk trueW trueW trueW
        · clear hno
          rw [e1] at c3 hn1
          exact wk trueW trueW trueW
      · rw [decide_eq_false e1] at hn1
        clear hno
        generalize Co.nm b = x at *
        exact wk trueW trueW trueW
  · obtain rfl : k = 256 := by omega
    rw [Co.fnd_no (hr.trans rfl)]
    clear hr
    exact wk trueW trueW trueW
set_option maxHeartbeats 8000000 in
theorem read_nosp (s : List UInt8) (h : ¬ Co.spc s < s.length) (h2 : Hx.parse s = none) (hl : s.length < 100000000) : LF Tryd.prog 23 [sK s] (fun _ => .t [.s none ((Co.fnd s false []).1.map bK), .k (.bool (Co.fnd s false []).2.1), .k (.bool (Co.fnd s false []).2.2)]) none := by
  have c1 := Cut_no s h (by omega)
  have c4 := Hw.Parse_no s h2 (by omega)
  clear h h2
  refine LFx.mk' tt Tryd.func23 rfl rfl rfl (by kernel_rfl) rfl rfl fun F => ?_
  refine wk ?_ trueW trueW
  refine LC.loopN (fun k => [(5, sK s), (6, sK []), (7, .k (.bool false)), (40, .k (.int .i64 ((k : Nat) : Int)))]) (fun k => []) (fun k => k ≤ 256 ∧ Co.rdOp s false = Co.seek s false (256 - k) k) ((256 - ·)) (0) ⟨by omega, rfl⟩ ⟨rfl, rfl, rfl, rfl, trivial⟩ trivial rfl rfW rfW ?_
  rintro k ⟨hk, hr⟩
  clear c1 c4
  rcases Nat.lt_or_ge k 256 with hk2 | hk2
  · obtain ⟨j, hj⟩ : ∃ j, 256 - k = j + 1 := ⟨255 - k, by omega⟩
    have hj2 : 256 - (k + 1) = j := by omega
    have hb : (UInt8.ofNat k).toNat = k := by rw [UInt8.toNat_ofNat']; omega
    have hw : IntKind.u8.wrap ((k : Nat) : Int) = ((UInt8.ofNat k).toNat : Int) := by rw [wrap_u8 (by omega), hb]
    have c2 := pushedB (UInt8.ofNat k)
    have c3 := NameB (UInt8.ofNat k)
    have hn1 := neT (Co.nm (UInt8.ofNat k)) s
    have he1 := eqT s []
    have hps := Co.psh_le (UInt8.ofNat k)
    have hpk : Cn.pushed k = Co.psh (UInt8.ofNat k) := by unfold Co.psh; rw [hb]
    have hnk : Cn.name k = Co.nm (UInt8.ofNat k) := by unfold Co.nm; rw [hb]
    by_cases hh : Co.hit s false k = true
    · rw [hj, Co.hit_yes hh] at hr
      obtain ⟨g1, g2, g3⟩ := Co.hit_spec.1 hh
      rw [hpk] at g2
      have g2 := of_decide_eq_false g2
      have g4 : Co.psh (UInt8.ofNat k) = 0 := by omega
      rw [hnk] at g1
      rw [g1, decide_eq_true rfl] at hn1
      rw [g1] at c3
      rw [decide_eq_false g3] at he1
      rw [Co.fnd_at hr (by omega)]
      rw [g4] at c2
      simp only [List.map_cons, List.map_nil]
      clear hr hh hpk hnk g1 hj hj2 g2 g4 hps
      generalize UInt8.ofNat k = b at *
      exact wk trueW trueW trueW
    · have hh := Bool.eq_false_iff.2 hh
      rw [hj, Co.hit_no hh, ← hj2] at hr
      have hok : k + 1 ≤ 256 ∧ Co.rdOp s false = Co.seek s false (256 - (k + 1)) (k + 1) := ⟨by omega, hr⟩
      have hno : ¬ (Co.nm (UInt8.ofNat k) = s ∧ ¬ 0 < Co.psh (UInt8.ofNat k) ∧ s ≠ []) := fun ⟨g1, g2, g3⟩ => by
        have this : Co.hit s false k = true := Co.hit_spec.2 ⟨hnk.trans g1, (by rw [hpk]; exact decide_eq_false g2), g3⟩
        rw [hh] at this
        cases this
      clear hr hh hpk hnk hj hj2
      generalize UInt8.ofNat k = b at *
      generalize Co.psh b = q at *
      by_cases e1 : Co.nm b = s
      · rw [decide_eq_true e1] at hn1
        by_cases e2 : 0 < q
        · clear hno
          rw [e1] at c3 hn1
          exact wk trueW trueW trueW
        · have e3 : s = [] := Classical.byContradiction fun e3 => hno ⟨e1, e2, e3⟩
          rw [decide_eq_true e3] at he1
          clear hno
          rw [e1] at c3 hn1
          exact wk trueW trueW trueW
      · rw [decide_eq_false e1] at hn1
        clear hno
        generalize Co.nm b = x at *
        exact wk trueW trueW trueW
  · obtain rfl : k = 256 := by omega
    rw [Co.fnd_no (hr.trans rfl)]
    clear hr
    exact wk trueW trueW trueW
set_option maxHeartbeats 4000000 in
theorem read_hex (s l : List UInt8) (h : ¬ Co.spc s < s.length) (h2 : Hx.parse s = some l) (hl : s.length < 100000000) : LF Tryd.prog 23 [sK s] (fun _ => .t [.s none (l.map bK), .k (.bool true), .k (.bool (decide (l.length = 1 ∧ Co.nm (l.getD 0 default) = [])))]) none := by
  have c1 := Cut_no s h (by omega)
  have c4 := Hw.Parse_a s (by omega)
  have hdl := Co.parse_len h2
  rw [h2] at c4
  simp only [Option.getD_some, Option.isSome_some, if_true] at c4
  clear h h2
  by_cases h1 : l.length = 1
  · have c2 := NameB (l.getD 0 default)
    have he := eqT (Co.nm (l.getD 0 default)) []
    by_cases h3 : Co.nm (l.getD 0 default) = []
    · rw [decide_eq_true ⟨h1, h3⟩]
      rw [h3, decide_eq_true rfl] at he
      rw [h3] at c2
      clear h3
      refine LFx.mk' tt Tryd.func23 rfl rfl rfl (by kernel_rfl) rfl rfl fun F => ?_
      exact wk trueW trueW trueW
    · rw [decide_eq_false fun e => h3 e.2]
      rw [decide_eq_false h3] at he
      clear h3
      generalize Co.nm (l.getD 0 default) = x at *
      refine LFx.mk' tt Tryd.func23 rfl rfl rfl (by kernel_rfl) rfl rfl fun F => ?_
      exact wk trueW trueW trueW
  · rw [decide_eq_false fun e => h1 e.1]
    refine LFx.mk' tt Tryd.func23 rfl rfl rfl (by kernel_rfl) rfl rfl fun F => ?_
    exact wk trueW trueW trueW
theorem read (s : List UInt8) (hl : s.length < 100000000) : LF Tryd.prog 23 [sK s] (fun _ => .t [.s none ((Co.rd s).1.map bK), .k (.bool (Co.rd s).2.1), .k (.bool (Co.rd s).2.2)]) none := by
  by_cases h : Co.spc s < s.length
  · rw [show Co.rd s = _ from if_pos h]
    exact read_sp s h hl
  · cases h2 : Hx.parse s with
    | none =>
      have e : Co.rd s = Co.fnd s false [] := (if_neg h).trans (by rw [h2])
      rw [e]
      exact read_nosp s h h2 hl
    | some l =>
      have e : Co.rd s = (l, true, decide (l.length = 1 ∧ Co.nm (l.getD 0 default) = [])) := (if_neg h).trans (by rw [h2])
      rw [e]
      exact read_hex s l h h2 hl
end Cw
end Lf
end Go.Proofs.YtgbgplijpomkeaaDoor

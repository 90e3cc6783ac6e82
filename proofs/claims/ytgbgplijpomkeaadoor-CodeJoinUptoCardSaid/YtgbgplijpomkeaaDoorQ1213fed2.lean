/- CodeJoin: the law's function answers true at every input of bulk at most 1048576, and touches no old memory; from its walk to the given statement. Conditions: the statement's own bound, nothing else. -/
import Derived.Test.YtgbgplijpomkeaaDoorCards
import Derived.Test.YtgbgplijpomkeaaDoorTie
import Derived.WalkKit
import Derived.ProofKit
import Derived.OpenShut
import Derived.Deep.DeepHandedRow
import Derived.Lib.LaidTab
import Derived.Stop.LaidErr
import Derived.Test.YtgbgplijpomkeaaDoorQ11ae9dc0
/- Package code: Assemble. -/
namespace Go.Proofs.YtgbgplijpomkeaaDoor
open Go.RowKit Rg Wm Ar
set_option linter.unusedVariables false
set_option maxRecDepth 100000
namespace Co
def tot : List (List UInt8) → Nat
  | [] => 0
  | s :: t => s.length + 1 + tot t
theorem fnd_len (m : List UInt8) (sp : Bool) (t : List UInt8) : (fnd m sp t).1.length ≤ t.length + 1 := by
  cases h : rdOp m sp with
  | none => rw [fnd_no h]; exact Nat.zero_le _
  | some k =>
    by_cases h0 : Cn.pushed k = 0
    · rw [fnd_at h h0]
      simp
    · rw [fnd_push h h0]
      simp only [List.length_cons]
      cases hp : Hx.parse t with
      | none => simp
      | some d =>
        have := parse_len hp
        simp only [Option.getD_some]
        omega
theorem rd_len (s : List UInt8) : (rd s).1.length ≤ s.length + 1 := by
  unfold rd
  split
  · have := fnd_len (s.take (spc s)) true (s.drop (spc s + 1))
    rw [List.length_drop] at this
    omega
  · split
    · rename_i b hb
      have := parse_len hb
      show b.length ≤ _
      omega
    · have := fnd_len s false []
      rw [List.length_nil] at this
      omega
theorem tot_at {l : List (List UInt8)} {i : Nat} (h : i < l.length) : tot (l.drop i) = (l.getD i default).length + 1 + tot (l.drop (i + 1)) := by
  rw [List.drop_eq_getElem_cons h, List.getD_eq_getElem?_getD, List.getElem?_eq_getElem h]
  rfl
theorem tot_ge : ∀ l, l.length ≤ tot l
  | [] => Nat.le_refl _
  | s :: t => by
    have := tot_ge t
    simp only [tot, List.length_cons]
    omega
theorem asm_go {l : List (List UInt8)} {i : Nat} {S : List UInt8} {r : Option (List UInt8)} (h : i < l.length) (hr : r = (asm (l.drop i)).map (S ++ ·)) (h1 : (rd (l.getD i default)).2.2 = true) (h2 : (rd (l.getD i default)).2.1 = true ∨ l.length = i + 1) : r = (asm (l.drop (i + 1))).map ((S ++ (rd (l.getD i default)).1) ++ ·) := by
  have e : l.drop i = l.getD i default :: l.drop (i + 1) := by
    rw [List.drop_eq_getElem_cons h, List.getD_eq_getElem?_getD, List.getElem?_eq_getElem h]
    rfl
  rw [hr, e]
  simp only [asm]
  rw [if_pos ⟨h1, h2.imp id fun k => List.drop_of_length_le (by omega)⟩, Option.map_map]
  congr 1
  funext x
  simp
theorem asm_no {l : List (List UInt8)} {i : Nat} {S : List UInt8} {r : Option (List UInt8)} (h : i < l.length) (hr : r = (asm (l.drop i)).map (S ++ ·)) (h1 : ¬ ((rd (l.getD i default)).2.2 = true ∧ ((rd (l.getD i default)).2.1 = true ∨ l.length = i + 1))) : r = none := by
  have e : l.drop i = l.getD i default :: l.drop (i + 1) := by
    rw [List.drop_eq_getElem_cons h, List.getD_eq_getElem?_getD, List.getElem?_eq_getElem h]
    rfl
  rw [hr, e]
  simp only [asm]
  rw [if_neg fun k => h1 ⟨k.1, k.2.imp id fun k2 => by
    have := congrArg List.length k2
    rw [List.length_drop, List.length_nil] at this
    omega⟩]
  rfl
theorem asm_end {l : List (List UInt8)} {S : List UInt8} {r : Option (List UInt8)} (hr : r = (asm (l.drop l.length)).map (S ++ ·)) : r = some S := by
  rw [hr, List.drop_length]
  simp [asm]
end Co
namespace Lf
abbrev asV (r : Option (List UInt8)) : V := .t [.s none ((r.getD []).map bK), erK (if r.isSome then 0 else 1)]
namespace Cw
set_option maxHeartbeats 8000000 in
theorem Assemble (l : List (List UInt8)) (hl : Co.tot l < 100000000) : LF Tryd.prog 12 [.s none (l.map sK)] (fun _ => asV (Co.asm l)) none := by
  have hll := Co.tot_ge l
  refine LFx.mk' tt Tryd.func12 rfl rfl rfl (by kernel_rfl) rfl rfl fun F => ?_
  refine wk ?_ trueW trueW
  refine LC.nilrow 4 60 5 1 rfl rfl rfl ?_
  refine LC.loop2 (fun i S => [(0, .s none (l.map sK)), (4, .s (some 60) (S.map bK)), (10, .s none (l.map sK)), (11, .k (.int .i64 ((l.length : Nat) : Int))), (12, .k (.int .i64 ((i : Nat) : Int)))]) (fun i S => [(60, .r 5 1 S.length)]) (fun i S => i ≤ l.length ∧ S.length + Co.tot (l.drop i) ≤ Co.tot l ∧ Co.asm l = (Co.asm (l.drop i)).map (S ++ ·)) ((l.length - ·)) (0) ([]) ⟨by omega, by rw [List.drop_zero]; simp, by rw [List.drop_zero]; simp⟩ ⟨rfl, rfl, rfl, rfl, rfl, trivial⟩ ⟨rfl, trivial⟩ rfl rfW rfW ?_
  rintro i S ⟨hi, hSl, hS⟩
  rcases Nat.lt_or_ge i l.length with h | h
  · rw [Co.tot_at h] at hSl
    have c1 := read (l.getD i default) (by omega)
    have hbl := Co.rd_len (l.getD i default)
    have k1 := fun a b => Co.asm_go h hS a b
    have k2 := fun a => Co.asm_no h hS a
    generalize Co.rd (l.getD i default) = x at *
    obtain ⟨b, w, ok⟩ := x
    clear hS
    simp only at c1 hbl k1 k2
    cases ok
    · rw [k2 (by simp)]
      clear k1 k2
      exact wk trueW trueW trueW
    · cases w
      · by_cases hlast : l.length = i + 1
        · have hok : i + 1 ≤ l.length ∧ (S ++ b).length + Co.tot (l.drop (i + 1)) ≤ Co.tot l ∧ Co.asm l = (Co.asm (l.drop (i + 1))).map ((S ++ b) ++ ·) := ⟨h, by rw [List.length_append]; omega, k1 rfl (.inr hlast)⟩
          clear k1 k2
          exact wk trueW trueW trueW
        · rw [k2 (by simp; omega)]
          clear k1 k2
          exact wk trueW trueW trueW
      · have hok : i + 1 ≤ l.length ∧ (S ++ b).length + Co.tot (l.drop (i + 1)) ≤ Co.tot l ∧ Co.asm l = (Co.asm (l.drop (i + 1))).map ((S ++ b) ++ ·) := ⟨h, by rw [List.length_append]; omega, k1 rfl (.inl rfl)⟩
        clear k1 k2
        exact wk trueW trueW trueW
  · obtain rfl : i = l.length := by omega
    rw [Co.asm_end hS]
    clear hS
    exact wk trueW trueW trueW
end Cw
end Lf
end Go.Proofs.YtgbgplijpomkeaaDoor

/- Slices compared; what is alive; CodeNamed. -/
namespace Go.Proofs.YtgbgplijpomkeaaDoor
open Go.RowKit Rg Wm Ar
set_option linter.unusedVariables false
set_option maxRecDepth 100000
namespace Lf
namespace Cw
theorem EqualI (a : List Nat) (hn : a.length < 1000000000) : LF Tryd.prog 17 [.s none (a.map iN), .s none (a.map iN)] (fun _ => .k (.bool true)) none := by
  refine LFx.mk' tt Tryd.func17 rfl rfl rfl (by kernel_rfl) rfl rfl fun F => ?_
  refine wk ?_ trueW trueW
  refine LC.loopN (fun i => [(0, .s none (a.map iN)), (1, .s none (a.map iN)), (12, .k (.int .i64 ((a.length : Nat) : Int))), (13, .k (.int .i64 ((i : Nat) : Int)))]) (fun i => []) (fun i => i ≤ a.length) ((a.length - ·)) (0) (by omega) ⟨rfl, rfl, rfl, rfl, trivial⟩ trivial rfl rfW rfW ?_
  intro i hi
  by_cases h : i < a.length
  · have hok : i + 1 ≤ a.length := h
    exact wk trueW trueW trueW
  · exact wk trueW trueW trueW
theorem EqualS (a : List (List UInt8)) (hn : a.length < 1000000000) : LF Tryd.prog 14 [.s none (a.map sK), .s none (a.map sK)] (fun _ => .k (.bool true)) none := by
  refine LFx.mk' tt Tryd.func14 rfl rfl rfl (by kernel_rfl) rfl rfl fun F => ?_
  refine wk ?_ trueW trueW
  refine LC.loopN (fun i => [(0, .s none (a.map sK)), (1, .s none (a.map sK)), (12, .k (.int .i64 ((a.length : Nat) : Int))), (13, .k (.int .i64 ((i : Nat) : Int)))]) (fun i => []) (fun i => i ≤ a.length) ((a.length - ·)) (0) (by omega) ⟨rfl, rfl, rfl, rfl, trivial⟩ trivial rfl rfW rfW ?_
  intro i hi
  by_cases h : i < a.length
  · have hok : i + 1 ≤ a.length := h
    have hs := neT (a.getD i default) (a.getD i default)
    rw [decide_eq_true rfl] at hs
    exact wk trueW trueW trueW
  · exact wk trueW trueW trueW
def alL : List (List UInt8) := [[112, 117, 115, 104, 50, 32, 48, 120, 53, 98, 48, 49], [108, 97, 110, 100], [48, 120, 102, 101], [112, 117, 115, 104, 52, 32, 48, 120, 48, 48]]
set_option maxHeartbeats 2000000 in
theorem alive12 : LF Tryd.prog 8 [] (fun _ => .k (.bool true)) none := by
  have c1 : LF Tryd.prog 12 [.s none [sK [112, 117, 115, 104, 50, 32, 48, 120, 53, 98, 48, 49], sK [108, 97, 110, 100], sK [48, 120, 102, 101], sK [112, 117, 115, 104, 52, 32, 48, 120, 48, 48]]] (fun _ => .t [.s none (([97, 91, 1, 91, 254, 99, 0] : List UInt8).map bK), erK 0]) none := by
    have c := Assemble alL (by decide)
    rw [show Co.asm alL = some [97, 91, 1, 91, 254, 99, 0] by kernel_rfl] at c
    exact c
  have c2 : LF Tryd.prog 10 [.s none (([97, 91, 1, 91, 254, 99, 0] : List UInt8).map bK)] (fun _ => .s none (([3] : List Nat).map iN)) none := by
    have c := Landings [97, 91, 1, 91, 254, 99, 0] (by decide)
    rw [show Co.lands [97, 91, 1, 91, 254, 99, 0] = [3] by kernel_rfl] at c
    exact c
  have c3 := EqualI [3] (by decide)
  have c4 := Name 1 (by decide)
  rw [show Cn.name 1 = [97, 100, 100] by decide] at c4
  have hs1 := eqT [97, 91, 1, 91, 254, 99, 0] [97, 91, 1, 91, 254, 99, 0]
  have hs2 := eqT [97, 100, 100] [97, 100, 100]
  rw [decide_eq_true rfl] at hs1 hs2
  refine LFx.mk' tt Tryd.func8 rfl rfl rfl (by kernel_rfl) rfl rfl fun F => ?_
  exact wk trueW trueW trueW
set_option maxHeartbeats 2000000 in
theorem CodeNamed (a b : UInt8) : LF Tryd.prog 4 [bK a, bK b] (fun _ => .k (.bool true)) none := by
  have c1 := alive12
  have c2 := NameB a
  have c3 := NameB b
  have hn := neT (Co.nm a) (Co.nm b)
  have he := eqT (Co.nm a) []
  by_cases h1 : a = b
  · subst h1
    rw [decide_eq_true rfl] at hn
    clear he
    generalize Co.nm a = x at *
    refine LFx.mk' tt Tryd.func4 rfl rfl rfl (by kernel_rfl) rfl rfl fun F => ?_
    exact wk trueW trueW trueW
  · have h2 : ¬ ((a.toNat : Int) = (b.toNat : Int)) := fun e => h1 (UInt8.toNat_inj.1 (by omega))
    by_cases h3 : Co.nm a = Co.nm b
    · have h4 : Co.nm a = [] := (Co.nm_inj (Co.toNat_lt a) (Co.toNat_lt b) h3).resolve_left fun e => h1 (UInt8.toNat_inj.1 e)
      rw [decide_eq_true h3] at hn
      rw [decide_eq_true h4] at he
      rw [← h3] at hn c3
      rw [h4] at hn c3 c2 he
      clear h3 h4
      refine LFx.mk' tt Tryd.func4 rfl rfl rfl (by kernel_rfl) rfl rfl fun F => ?_
      exact wk trueW trueW trueW
    · rw [decide_eq_false h3] at hn
      clear he h3
      generalize Co.nm a = x at *
      generalize Co.nm b = y at *
      refine LFx.mk' tt Tryd.func4 rfl rfl rfl (by kernel_rfl) rfl rfl fun F => ?_
      exact wk trueW trueW trueW
end Cw
end Lf
end Go.Proofs.YtgbgplijpomkeaaDoor

/- CodeData. -/
namespace Go.Proofs.YtgbgplijpomkeaaDoor
open Go.RowKit Rg Wm Ar
set_option linter.unusedVariables false
set_option maxRecDepth 100000
namespace Co
theorem getD_mem {l : List Nat} {i : Nat} (h : i < l.length) : l.getD i default ∈ l := by
  rw [List.getD_eq_getElem?_getD, List.getElem?_eq_getElem h]
  exact List.getElem_mem h
theorem lands_mem {c : List UInt8} {n : Nat} : n ∈ lands c ↔ n ∈ plc c 0 ∧ c.getD n default = 91 := by
  unfold lands
  rw [List.mem_filter, beq_iff_eq]
theorem lands_lt (c : List UInt8) : List.Pairwise (· < ·) (lands c) := List.Pairwise.filter _ (plc_lt 0)
theorem lands_up {c : List UInt8} {i : Nat} (h0 : 0 < i) (h : i < (lands c).length) : (lands c).getD (i - 1) default < (lands c).getD i default := by
  have hp := List.pairwise_iff_getElem.1 (lands_lt c) (i - 1) i (by omega) h (by omega)
  rw [List.getD_eq_getElem?_getD, List.getD_eq_getElem?_getD, List.getElem?_eq_getElem h, List.getElem?_eq_getElem (by omega)]
  exact hp
/-- How many of l are below i. -/
def below (l : List Nat) (i : Nat) : Nat := (l.filter fun x => decide (x < i)).length
theorem below_go {i : Nat} : ∀ {l : List Nat}, List.Pairwise (· < ·) l → below l (i + 1) = below l i + if i ∈ l then 1 else 0
  | [], _ => rfl
  | x :: l, h => by
    rw [List.pairwise_cons] at h
    have ih := below_go (i := i) h.2
    unfold below at ih ⊢
    simp only [List.filter_cons]
    by_cases h1 : x < i
    · have hm : (i ∈ x :: l) ↔ i ∈ l := by
        rw [List.mem_cons]
        exact ⟨fun k => k.resolve_left (by omega), .inr⟩
      simp only [decide_eq_true h1, decide_eq_true (show x < i + 1 by omega), if_true, List.length_cons, hm, ih]
      omega
    · by_cases h2 : x = i
      · subst h2
        have hn : x ∉ l := fun k => by
          have := h.1 x k
          omega
        rw [if_neg hn] at ih
        simp only [decide_eq_true (show x < x + 1 by omega), decide_eq_false h1, if_true, List.length_cons, List.mem_cons, true_or, ih, Bool.false_eq_true, if_false]
      · have hn : i ∉ x :: l := fun k => by
          rcases List.mem_cons.1 k with rfl | k
          · exact h2 rfl
          · have := h.1 i k
            omega
        have hn2 : i ∉ l := fun k => hn (List.mem_cons_of_mem _ k)
        rw [if_neg hn2] at ih
        simp only [decide_eq_false h1, decide_eq_false (show ¬ x < i + 1 by omega), Bool.false_eq_true, if_false, if_neg hn, ih]
theorem below_all {l : List Nat} {n : Nat} (h : ∀ x ∈ l, x < n) : below l n = l.length := by
  unfold below
  rw [List.filter_eq_self.2 fun x hx => decide_eq_true (h x hx)]
theorem below_zero (l : List Nat) : below l 0 = 0 := by
  unfold below
  rw [List.filter_eq_nil_iff.2 fun x _ => by simp]
  rfl
theorem below_le : ∀ (i : Nat) {l : List Nat}, List.Pairwise (· < ·) l → below l i ≤ i
  | 0, l, _ => Nat.le_of_eq (below_zero l)
  | i + 1, l, h => by
    have := below_le i h
    rw [below_go h]
    split <;> omega
end Co
namespace Lf
/-- A map that has 1 at places. -/
def mI (S : List Nat) : List (Value × V) := S.map fun (p : Nat) => (Value.int .i64 ((p : Nat) : Int), iN 1)
namespace Cw
theorem mapTyI : MapTy Tryd.prog 24 3 (.int .i64 0) := ⟨⟨3, by kernel_rfl, fun w => by kernel_rfl⟩, Maps.int_keyed (q := .i64) (by kernel_rfl)⟩
theorem key_I (n : Nat) (h : n < 1000000000) : ∃ l, keyOf Tryd.prog 3 (.int .i64 ((n : Nat) : Int)) = some l := ⟨_, Maps.keyOf_int_mk (q := .i64) (by kernel_rfl) (by
  have h1 : IntKind.i64.min = -9223372036854775808 := rfl
  have h2 : IntKind.i64.max = 9223372036854775807 := rfl
  simp only [Lit.wf, h1, h2, Bool.and_eq_true, decide_eq_true_eq]
  omega)⟩
theorem keyI (n : Nat) (h : n < 1000000000) : KeyV Tryd.prog 3 (iN n) (.int .i64 ((n : Nat) : Int)) := ⟨key_I n h, fun w g v hr => by cases hr; rfl⟩
theorem keysI {S : List Nat} (h : ∀ x ∈ S, x < 1000000000) : KeysV Tryd.prog 3 (mI S) := ⟨fun p hp => by
  obtain ⟨x, hx, rfl⟩ := List.mem_map.1 hp
  exact key_I x (h x hx)⟩
theorem noI {S : List Nat} {n : Nat} (h : n ∉ S) : MNo (mI S) (.int .i64 ((n : Nat) : Int)) := ⟨fun p hp e => by
  obtain ⟨x, hx, rfl⟩ := List.mem_map.1 hp
  have e1 : x = n := Int.ofNat.inj (Value.int.inj e).2
  exact h (e1 ▸ hx)⟩
theorem getI_yes {S : List Nat} {n : Nat} (h : n ∈ S) : MGet (mI S) (.int .i64 ((n : Nat) : Int)) (.k (.int .i64 0)) (iN 1) := ⟨fun h1 => absurd rfl (h1 (_, iN 1) (List.mem_map.2 ⟨n, h, rfl⟩)), fun p hp e => by
  obtain ⟨x, hx, rfl⟩ := List.mem_map.1 hp
  rfl⟩
theorem getI_no {S : List Nat} {n : Nat} (h : n ∉ S) : MGet (mI S) (.int .i64 ((n : Nat) : Int)) (.k (.int .i64 0)) (.k (.int .i64 0)) := ⟨fun _ => rfl, fun p hp e => absurd e ((noI h).no p hp)⟩
theorem mI_snoc (S : List Nat) (p : Nat) : mI S ++ [(Value.int .i64 ((p : Nat) : Int), iN 1)] = mI (S ++ [p]) := by
  unfold mI
  rw [List.map_append]
  rfl
theorem mI_len (S : List Nat) : (mI S).length = S.length := List.length_map _
set_option maxHeartbeats 8000000 in
theorem CodeData (c : List UInt8) (hl : c.length < 2000000) : LF Tryd.prog 3 [.s none (c.map bK)] (fun _ => .k (.bool true)) none := by
  have c1 := alive12
  have hM := mapTyI
  refine LFx.mk' tt Tryd.func3 rfl rfl rfl (by kernel_rfl) rfl rfl fun F => ?_
  refine wk ?_ trueW trueW
  refine LC.loop5 (fun p E (_u2 : Unit) (_u3 : Unit) (_u4 : Unit) => [(0, .s none (c.map bK)), (3, .mp 14), (4, .k (.int .i64 ((p : Nat) : Int)))]) (fun p E (_u2 : Unit) (_u3 : Unit) (_u4 : Unit) => [(14, .m E)]) (fun p E (_u2 : Unit) (_u3 : Unit) (_u4 : Unit) => p ≤ c.length ∧ ∃ S, E = mI S ∧ S.length ≤ p ∧ Co.plc c 0 = S ++ Co.plc c p ∧ (∀ x ∈ S, x < p)) ((c.length - ·)) (0) ([]) () () () ⟨by omega, [], rfl, Nat.le_refl _, rfl, fun x hx => by cases hx⟩ ⟨rfl, rfl, rfl, trivial⟩ ⟨rfl, trivial⟩ rfl rfW rfW ?_
  rintro p E _ _ _ ⟨hp, S, rfl, hSl, hS, hSp⟩
  rcases Nat.lt_or_ge p c.length with h | h
  · have c2 := Next c p h (by omega)
    have hg := Co.nxt_gt h
    have hle := Co.nxt_le c p
    have hkey := keyI p (by omega)
    have hks := keysI (S := S) fun x hx => by have := hSp x hx; omega
    have hno := noI (S := S) (n := p) fun hx => Nat.lt_irrefl _ (hSp p hx)
    have hml := mI_len S
    rw [Co.plc_at h] at hS
    have hok : Co.nxt c p ≤ c.length ∧ ∃ S', mI S ++ [(Value.int .i64 ((p : Nat) : Int), .k (.int .i64 1))] = mI S' ∧ S'.length ≤ Co.nxt c p ∧ Co.plc c 0 = S' ++ Co.plc c (Co.nxt c p) ∧ (∀ x ∈ S', x < Co.nxt c p) := ⟨hle, S ++ [p], mI_snoc S p, by rw [List.length_append, List.length_singleton]; omega, by rw [hS, List.append_assoc]; rfl, fun x hx => by
      rcases List.mem_append.1 hx with hx | hx
      · have := hSp x hx
        omega
      · have := List.mem_singleton.1 hx
        omega⟩
    clear hS hSp
    generalize Co.nxt c p = r at *
    exact wk trueW trueW trueW
  · rw [Co.plc_end h, List.append_nil] at hS
    have hPm := fun x hx => (Co.plc_mem (c := c) 0 x hx).2
    have hLm := fun n => Co.lands_mem (c := c) (n := n)
    have hLl := Co.lands_lt c
    have hLu := fun i => Co.lands_up (c := c) (i := i)
    have c2 := Landings c (by omega)
    rw [hS] at hPm hLm
    have hLL : (Co.lands c).length ≤ c.length := by
      have := Co.below_le c.length hLl
      rw [Co.below_all fun x hx => hPm x ((hLm x).1 hx).1] at this
      exact this
    clear hS hSp
    obtain rfl : p = c.length := by omega
    generalize Co.lands c = L at *
    have hks := keysI (S := S) fun x hx => by have := hPm x hx; omega
    have hml := mI_len S
    refine wk ?_ trueW trueW
    refine LC.loop5 (fun i n (_u2 : Unit) (_u3 : Unit) (_u4 : Unit) => [(0, .s none (c.map bK)), (3, .mp 14), (6, .s none (L.map iN)), (7, .k (.int .i64 ((n : Nat) : Int))), (38, .s none (c.map bK)), (39, .k (.int .i64 ((c.length : Nat) : Int))), (40, .k (.int .i64 ((i : Nat) : Int)))]) (fun i n (_u2 : Unit) (_u3 : Unit) (_u4 : Unit) => [(14, .m (mI S))]) (fun i n (_u2 : Unit) (_u3 : Unit) (_u4 : Unit) => i ≤ c.length ∧ n = Co.below L i ∧ n ≤ i) ((c.length - ·)) (0) (0) () () () ⟨by omega, (Co.below_zero L).symm, by omega⟩ ⟨rfl, rfl, rfl, rfl, rfl, rfl, rfl, trivial⟩ ⟨rfl, trivial⟩ rfl rfW rfW ?_
    rintro i n _ _ _ ⟨hi, hn, hni⟩
    rcases Nat.lt_or_ge i c.length with h2 | h2
    · have hkey := keyI i (by omega)
      have hgo := Co.below_go (i := i) hLl
      rw [← hn] at hgo
      by_cases hx : c.getD i default = 91
      · have hx2 : ((c.getD i default).toNat : Int) = 91 := by rw [hx]; rfl
        by_cases hm : i ∈ S
        · have hget := getI_yes hm
          rw [if_pos ((hLm i).2 ⟨hm, hx⟩)] at hgo
          have hok : i + 1 ≤ c.length ∧ n + 1 = Co.below L (i + 1) ∧ n + 1 ≤ i + 1 := ⟨h2, hgo.symm, by omega⟩
          clear hgo hn hLm hPm hLu hLl
          exact wk trueW trueW trueW
        · have hget := getI_no hm
          rw [if_neg fun k => hm ((hLm i).1 k).1] at hgo
          have hok : i + 1 ≤ c.length ∧ n = Co.below L (i + 1) ∧ n ≤ i + 1 := ⟨h2, hgo.symm, by omega⟩
          clear hgo hn hLm hPm hLu hLl
          exact wk trueW trueW trueW
      · have hx2 : ¬ ((c.getD i default).toNat : Int) = 91 := fun e => hx (UInt8.toNat_inj.1 (by rw [show (91 : UInt8).toNat = 91 from rfl]; omega))
        rw [if_neg fun k => hx ((hLm i).1 k).2] at hgo
        have hok : i + 1 ≤ c.length ∧ n = Co.below L (i + 1) ∧ n ≤ i + 1 := ⟨h2, hgo.symm, by omega⟩
        clear hgo hn hLm hPm hLu hLl
        exact wk trueW trueW trueW
    · obtain rfl : i = c.length := by omega
      rw [Co.below_all fun x hx => hPm x ((hLm x).1 hx).1] at hn
      subst hn
      refine wk ?_ trueW trueW
      refine LC.loopN (fun j => [(0, .s none (c.map bK)), (3, .mp 14), (6, .s none (L.map iN)), (7, .k (.int .i64 ((L.length : Nat) : Int))), (56, .s none (L.map iN)), (57, .k (.int .i64 ((L.length : Nat) : Int))), (58, .k (.int .i64 ((j : Nat) : Int)))]) (fun j => [(14, .m (mI S))]) (fun j => j ≤ L.length) ((L.length - ·)) (0) (by omega) ⟨rfl, rfl, rfl, rfl, rfl, rfl, rfl, trivial⟩ ⟨rfl, trivial⟩ rfl rfW rfW ?_
      intro j hj
      rcases Nat.lt_or_ge j L.length with h3 | h3
      · obtain ⟨hm, hx⟩ := (hLm (L.getD j default)).1 (Co.getD_mem h3)
        have hlt := hPm _ hm
        have hkey := keyI (L.getD j default) (by omega)
        have hget := getI_yes hm
        have hx2 : ((c.getD (L.getD j default) default).toNat : Int) = 91 := by rw [hx]; rfl
        have hup := hLu j
        have hok : j + 1 ≤ L.length := h3
        clear hLm hPm hLu hLl
        by_cases hj0 : 0 < j
        · have hup := hup hj0 h3
          exact wk trueW trueW trueW
        · clear hup
          exact wk trueW trueW trueW
      · exact wk trueW trueW trueW
end Cw
end Lf
end Go.Proofs.YtgbgplijpomkeaaDoor

/- CodeBack, CodeOnly. -/
namespace Go.Proofs.YtgbgplijpomkeaaDoor
open Go.RowKit Rg Wm Ar
set_option linter.unusedVariables false
set_option maxRecDepth 100000
namespace Co
theorem lineOf_len (b : UInt8) (d : List UInt8) : (lineOf b d).length ≤ 13 + 2 * d.length := by
  have := nm_len b
  unfold lineOf
  split
  · rw [Hx.print_len, List.length_singleton]
    omega
  · split
    · simp only [List.length_append, List.length_singleton, Hx.print_len]
      omega
    · omega
theorem tot_dis : ∀ n (c : List UInt8), c.length ≤ n → tot (dis c) ≤ 14 * c.length
  | _, [], _ => Nat.le_refl _
  | 0, _ :: _, h => by simp at h
  | n + 1, b :: t, h => by
    have ih := tot_dis n (t.drop (psh b)) (by rw [List.length_drop]; simp only [List.length_cons] at h; omega)
    have hl := lineOf_len b (t.take (psh b))
    rw [dis_cons]
    simp only [tot, List.length_cons]
    rw [List.length_drop] at ih
    rw [List.length_take] at hl
    omega
theorem dis_len (c : List UInt8) : (dis c).length ≤ 14 * c.length := Nat.le_trans (tot_ge _) (tot_dis _ c (Nat.le_refl _))
theorem asm_len : ∀ {l : List (List UInt8)} {x : List UInt8}, asm l = some x → x.length ≤ tot l
  | [], x, h => by
    cases h
    exact Nat.le_refl _
  | s :: t, x, h => by
    simp only [asm] at h
    split at h
    · obtain ⟨y, hy, rfl⟩ := Option.map_eq_some_iff.1 h
      have := asm_len hy
      have := rd_len s
      simp only [tot, List.length_append]
      omega
    · cases h
end Co
namespace Lf
namespace Cw
set_option maxHeartbeats 2000000 in
theorem CodeBack (c : List UInt8) (hl : c.length < 2000000) : LF Tryd.prog 5 [.s none (c.map bK)] (fun _ => .k (.bool true)) none := by
  have c1 := alive12
  have c2 := Disassemble c (by omega)
  have htd := Co.tot_dis _ c (Nat.le_refl _)
  have hdl := Co.dis_len c
  have c3 := Assemble (Co.dis c) (by omega)
  rw [Co.asm_dis _ c (Nat.le_refl _)] at c3
  simp only [asV, Option.getD_some, Option.isSome_some, if_true] at c3
  have hs := eqT c c
  rw [decide_eq_true rfl] at hs
  clear htd
  generalize Co.dis c = x at *
  refine LFx.mk' tt Tryd.func5 rfl rfl rfl (by kernel_rfl) rfl rfl fun F => ?_
  exact wk trueW trueW trueW
set_option maxHeartbeats 2000000 in
theorem CodeOnly (l : List (List UInt8)) (hl : Co.tot l < 4000000) : LF Tryd.prog 6 [.s none (l.map sK)] (fun _ => .k (.bool true)) none := by
  have c1 := alive12
  have c2 := Assemble l (by omega)
  have hll := Co.tot_ge l
  cases h : Co.asm l with
  | none =>
    rw [h] at c2
    simp only [asV, Option.getD_none, Option.isSome_none, Bool.false_eq_true, if_false, List.map_nil] at c2
    clear h
    refine LFx.mk' tt Tryd.func6 rfl rfl rfl (by kernel_rfl) rfl rfl fun F => ?_
    exact wk trueW trueW trueW
  | some x =>
    rw [h] at c2
    simp only [asV, Option.getD_some, Option.isSome_some, if_true] at c2
    have hxl := Co.asm_len h
    have c3 := Disassemble x (by omega)
    rw [Co.dis_asm h] at c3
    have c4 := EqualS l (by omega)
    clear h
    refine LFx.mk' tt Tryd.func6 rfl rfl rfl (by kernel_rfl) rfl rfl fun F => ?_
    exact wk trueW trueW trueW
end Cw
end Lf
end Go.Proofs.YtgbgplijpomkeaaDoor

/- A slice held against nil; a fresh row that a call hands back; Clone. -/
namespace Go.Proofs.YtgbgplijpomkeaaDoor
open Go.RowKit Rg
set_option linter.unusedVariables false
set_option maxRecDepth 100000
namespace Lf
section
variable {P : Program} {F : Fr0} {N : Nat} {Q : LQ} {env : Env} {mem : Mem} {ops : Array Oper} {o : Oper} {rs : List Oper} {d : Nat}
/-- Whether a slice is nil is not told: both ways are walked. -/
theorem LS.eqNil {T Y e : Nat} {x : Operand} {t : Option Nat} {es : List V} (X : TOk P) {ti : TI} (hg : gd ops env o = some true) (hds : o.dst = some d) (ho : o.op = .binOp .eql T x (.const (.slice none 0 0)) Y) (hx : evo env x = some (.s t es)) (hT : aget X.tab T = some ti) (hdt : ti.d = .sl e) (hd : Nat.blt d N = true)
    (h1 : es = [] → LS P F N ops rs Q ((d, .k (.bool true)) :: env) mem) (h2 : LS P F N ops rs Q ((d, .k (.bool false)) :: env) mem) : LS P F N ops (o :: rs) Q env mem := ⟨fun F0 hxe g a w hr => by
  have hu := (X.get hT).sl hdt
  have hgt : P.eqGuardType P.depth T = false := by
    obtain ⟨m, hm⟩ : ∃ m, P.depth = m + 1 := ⟨2 * (P.types.size + Made.depth) + 1, rfl⟩
    rw [hm]
    simp [Program.eqGuardType, hu]
  have hrun : ∀ (ad : Option Addr) (n c : Nat), a.eval x = .slice ad n c → (execOp a.eval o).run P w = .ok (.value (.bool ad.isNone)) w := fun ad n c h => by
    have q1 : (eqGuard .eql T x (.const (.slice none 0 0)) (.slice ad n c) (.slice none 0 0)).run P w = .ok () w := by
      unfold eqGuard
      simp [hgt]
    have q2 : (binOp .eql T (.slice ad n c) (.slice none 0 0)).run P w = .ok (.bool ad.isNone) w := by
      have e : Op.equal T (.slice ad n c) (.slice none 0 0) = Op.equalIn (9999 + 1) T (.slice ad n c) (.slice none 0 0) := rfl
      have q3 : (Op.equalIn (9999 + 1) T (.slice ad n c) (.slice none 0 0)).run P w = .ok ad.isNone w := by
        rw [Op.equalIn, Sem.run_bind, run_underlying hu w]
        cases ad <;> rfl
      simp only [binOp, e, Sem.run_bind, q3, Result.andThen_ok]
      rfl
    have hx2 : a.eval (.const (.slice none 0 0)) = .slice none 0 0 := rfl
    simp only [execOp, ho, h, hx2, Sem.run_bind, q1, Result.andThen_ok, q2]
    rfl
  have hdd : dok o.dst N = true := by rw [hds]; exact hd
  have hrep := hr.evo hx
  refine wpListIn_step fun K hK => ?_
  rw [gd_wanted hr hg, if_pos rfl]
  have go : ∀ b : Bool, (execOp a.eval o).run P w = .ok (.value (.bool b)) w → LS P F N ops rs Q ((d, .k (.bool b)) :: env) mem → o.wpIn F0.fz 0 P a w K (liftQ F0 N Q) := fun b hb hl => by
    refine op_in ?_ (fun c e => by rw [ho] at e; cases e)
    unfold Oper.wp
    rw [hb]
    refine hK _ _ (hl.go F0 hxe g _ w ?_)
    have := hr.put (Ev.refl g w) hr.mem hr.kept (Rep.k (w := w) (g := g) (.bool b)) hdd
    rw [hds] at this
    rw [hds]
    exact this
  generalize hv : a.eval x = v at hrep
  cases hrep with
  | s0 => exact go true (hrun _ _ _ hv) (h1 rfl)
  | se => exact go false (hrun _ _ _ hv) h2
  | s => exact go false (hrun _ _ _ hv) h2⟩
end
theorem LM.row1 {P : Program} {f : Nat} {args es : List V} {E sz n k0 : Nat} (hA : ∀ (ρ : Nat → Nat), args.map (V.ren ρ) = args) (h : LM P f args [] fun o m => o = .ret (.s (some k0) es) ∧ m = [(k0, .r E sz n)]) (k : Nat) : LM P f args [] fun o m => o = .ret (.s (some k) es) ∧ m = [(k, .r E sz n)] :=
  LM.gen [k0] [k] (by simp) (by simp) rfl h fun ρ hρ => by
    simp at hρ
    refine ⟨hA _, rfl, ?_, ?_⟩
    · simp [Out.ren, V.ren, hρ]
    · simp [Mem.ren, M.ren, hρ]
/-- A call that hands back a fresh row. -/
theorem DR.cr {P : Program} {N : Nat} {ops : Array Oper} {chk : List (Nat × Tch) → Bool} {K : Env → Mem → Prop} {acc : List (Nat × Tch)} {env : Env} {mem : Mem} {i d : Nat} {o : Oper} {rs : List (Nat × Oper)} {fx E sz n : Nat} {xs : List Operand} {ts : Array Nat} {us args es : List V}
    (ho : o.op = .call { callee := .value (.func fx), args := xs.toArray, argTypes := ts }) (hg : gd ops env o = some true) (hds : o.dst = some d) (hx : evs env xs = some us) (hc : ∀ k, LM P fx args [] fun o m => o = .ret (.s (some k) es) ∧ m = [(k, .r E sz n)]) (hu : Fits us args) (hr : V.refs.go [] args = true) (ht : aget mem d = none) (hd : Nat.blt d N = true)
    (hK : DR P N ops chk K rs ((i, callT [] [(d, .r E sz n)]) :: acc) ((d, .s (some d) es) :: env) ((d, .r E sz n) :: mem)) : DR P N ops chk K ((i, o) :: rs) acc env mem :=
  DR.cm hg hds (Does.callM (hc d) ho hx hu (by rw [hr]; rfl)) ⟨ht, trivial⟩ hd hK
end Lf
end Go.Proofs.YtgbgplijpomkeaaDoor

/- Room made ahead (append of make onto nil, cut back to nothing): slices.Grow; Concat. -/
namespace Go.Proofs.YtgbgplijpomkeaaDoor
open Go.RowKit Rg
namespace Lf
section
variable {P : Program} {o : Oper} {env : Env}
theorem run_appMake {T Tx E ty n : Nat} {kd kx : IntKind} {ei : TI} {w : World} (hu : P.underlying T = some (.slice E)) (hx : P.underlying Tx = some (.int kx)) (hE : TIok P E ei) (hn : 0 < n) (hmax : n ≤ 140737488355328) (hb : n * ei.bytes ≤ 140737488355328) :
    ∃ cs : Array Value, (Builtin.append_ #[T, Tx] ty #[.slice none 0 0, .int kd (n : Int)]).run P w = .ok (.slice (some ⟨w.heap.size, 0, none⟩) n (grownCap w n 0 E)) (w.drew.alloc (.cells cs E)) ∧ cs.size = grownCap w n 0 E * ei.size ∧ n ≤ grownCap w n 0 E ∧ grownCap w n 0 E ≤ maxLen := by
  obtain ⟨i, hi, hsz, hby, z, hz, _, hzs, _⟩ := hE.info
  rw [← hby] at hb
  rw [← hsz] at hzs ⊢
  have hge := grownCap_ge w n 0 E
  have h63 : n ≤ maxLen := by simp only [maxLen]; omega
  have hcm : grownCap w n 0 E ≤ maxLen := grownCap_le_maxLen w n 0 E h63
  have hw : IntKind.i64.wrap (n : Int) = (n : Int) := wrap_i64 (by omega)
  have hfit : Builtin.nextslicecap n 0 * i.bytes ≤ 281474976710656 := by have := growslice_fits (old := 0) (need := n) (by omega) hb; simpa using this
  have h1 : ¬ n = 0 := by omega
  have h2 : ¬ (9223372036854775807 < (n : Int)) := by omega
  have h3 : ¬ (281474976710656 < Builtin.nextslicecap n 0 * i.bytes) := by omega
  have h4 : ¬ (281474976710656 < (n : Int) * (i.bytes : Int)) := by
    have : (n : Int) * (i.bytes : Int) = ((n * i.bytes : Nat) : Int) := by rw [Int.natCast_mul]
    rw [this]; omega
  have h5 : ¬ ((n : Int) < 0) := by omega
  refine ⟨#[] ++ Builtin.zeroCells z.cells n ++ Builtin.zeroCells z.cells (grownCap w n 0 E - n), ?_, ?_, hge, hcm⟩
  · simp [Builtin.append_, run_underlying hu, run_underlying hx, sizeOf, typeInfo, zeroValue, hi, hz, asInt, asIntOf, hw, h1, h2, h3, h4, h5, Question.forced, newRow, grownCap, Builtin.firstCells]
    intro h
    have : Builtin.zeroCells z.cells n = #[] := Array.eq_empty_of_size_eq_zero (by rw [size_zeroCells, hzs]; exact h)
    rw [this]
    simp
  · simp only [Array.size_append, List.size_toArray, List.length_nil, size_zeroCells, hzs, Nat.zero_add, ← Nat.add_mul]
    congr 1
    omega
theorem drew_rel {F : Fr0} {g : Gh} {w : World} {mem : Mem} (h : RelM F g mem w) (hk : Kept F g w) : Ev g w g w.drew ∧ RelM F g mem w.drew ∧ Kept F g w.drew :=
  h.ext hk (Below.refl w.heap.size w).drew (fun _ _ _ => Iff.rfl) rfl rfl fun b o hb => h.fut b o hb
/-- append of so many noughts onto nil: room. -/
theorem Does.appMake {T Tx E i n : Nat} {kd kx : IntKind} {x y : Operand} {z : Int} (X : TOk P) {ti xi ei : TI} (ho : o.op = .call { callee := .builtin .append, args := #[x, y], argTypes := #[T, Tx] }) (hx : evo env x = some .nil) (hy : evo env y = some (.k (.int kd z))) (hz : z = ((n : Nat) : Int)) (hT : aget X.tab T = some ti) (hd : ti.d = .sl E) (hX : aget X.tab Tx = some xi) (hdx : xi.d = .int kx) (hE : aget X.tab E = some ei) (hpos : Nat.blt 0 ei.size = true)
    (hn : 0 < n) (hmax : n ≤ 140737488355328) (hb : n * ei.bytes ≤ 140737488355328) : Does P o env (.w i 0 ei.size 0 n) [(i, none, some (.w E ei.size 0 []))] := by
  subst hz
  refine ⟨fun F g a w mem h1 h2 h3 h4 _ K Q hK => ?_⟩
  have hi := h4 _ _ _ mem_one
  have hrx := h1 x (by simp [ho, Op.operands, Call.operands]) _ hx
  have hry := rep_k (h1 y (by simp [ho, Op.operands, Call.operands]) _ hy)
  have hxe : a.eval x = .slice none 0 0 := by generalize a.eval x = v at hrx; cases hrx; rfl
  obtain ⟨cs, hrun, hcs, hle, hcm⟩ := run_appMake (P := P) (ty := o.type) (kd := kd) (w := w) ((X.get hT).sl hd) ((X.get hX).int hdx) (X.get hE) hn hmax hb
  obtain ⟨d1, d2, d3⟩ := drew_rel h2 h3
  have hpos' : 0 < ei.size := Nat.le_of_ble_eq_true hpos
  have hH : w.drew.heap.size = w.heap.size := rfl
  have hrw : (g.newR i w.drew.heap.size 0 0 (grownCap w n 0 E)).rw i = some (some w.drew.heap.size, 0, grownCap w n 0 E) := by simp [Gh.newR]
  have hown : (w.drew.alloc (.cells cs E)).oRow 0 E ei.size (.slice (some ⟨w.drew.heap.size, 0, none⟩) 0 (grownCap w n 0 E)) 0 [] :=
    ⟨by simp, .inr ⟨w.drew.heap.size, grownCap w n 0 E, cs, _, rfl, Nat.zero_le _, heap_alloc_new w.drew _, Nat.zero_le _, hcm, hcs, by simp, .inl rfl⟩⟩
  obtain ⟨e1, e2, e3⟩ := d2.newR d3 (i := i) (n := 0) (l := 0) (c := grownCap w n 0 E) (m' := .w E ei.size 0 []) (o := .cells cs E) hi (.w hrw ⟨hpos', by simp, ⟨[], hown, by simp⟩, fun b hb o hS => by cases hb; have := hS.2 rfl; omega⟩) fun b o' ⟨l, c', hp'⟩ => by rw [hrw] at hp'; cases hp'; rfl
  unfold Oper.wp
  have hrun' : (execOp a.eval o).run P w = .ok (.value (.slice (some ⟨w.heap.size, 0, none⟩) n (grownCap w n 0 E))) (w.drew.alloc (.cells cs E)) := by
    simp [execOp, ho, resolve, invoke, builtin, hxe, hry, hrun]
  rw [hrun']
  exact hK _ _ _ (d1.trans e1) e2 e3 (.w ⟨_, _, _, hrw, Nat.le_refl _, fun _ => ⟨by omega, by omega, fun _ => by simp [hH]⟩⟩)
/-- Room cut back to nothing: the beginning of a row. -/
theorem Does.cutW0 {T E i n e : Nat} {x : Operand} {hi : Option Operand} {es : List V} (X : TOk P) {ti ei : TI} (ho : o.op = .slice T x none hi none) (hx : evo env x = some (.w i 0 ei.size 0 n)) (hT : aget X.tab T = some ti) (hd : ti.d = .sl e) (hE : aget X.tab e = some ei) (hhi : Bd env n hi 0) :
    Does P o env (.s (some i) []) [(i, some (.w E ei.size 0 es), some (.r E ei.size 0))] := by
  refine ⟨fun F g a w mem h1 h2 h3 h4 _ K Q hK => ?_⟩
  have hi' := h4 _ _ _ mem_one
  have hrx := h1 x (by simp [ho, Op.operands]) _ hx
  have b2 := hhi.val (a := a) (fun y hy u hu => h1 y (by subst hy; simp [ho, Op.operands]) u hu)
  obtain ⟨ao, c, hrw, hB⟩ := h2.buf hi'
  obtain ⟨xs, hown, _⟩ := hB.own
  generalize hv : a.eval x = v at hrx
  cases hrx with
  | @w _ _ _ _ _ _ ad cap h =>
    obtain ⟨a', l, c', k1, k2, k3⟩ := h
    rw [hrw] at k1; cases k1
    obtain ⟨w1, w2, w3⟩ := k3 rfl
    have hcap : cap = c := by omega
    subst hcap
    have had := w3 (.inr rfl)
    simp only [Nat.zero_mul] at had
    have hcut := run_cutG (P := P) (a := ad) (n := n) (cap := cap) ((X.get hT).sl hd) (X.get hE).run_size (.inl ⟨rfl, rfl⟩) b2 (Nat.zero_le _) (Nat.zero_le _) w
    have hres : (if cap = 0 then ad else ad.map (·.add (0 * ei.size))) = ad := by
      split
      · rfl
      · rw [had]; cases ao <;> simp [Addr.add_lit]
    have hown0 : w.oRow 0 E ei.size (.slice (ao.map fun b => ⟨b, 0, none⟩) 0 cap) 0 [] := by
      refine ⟨by simp, ?_⟩
      rcases hown.2 with ⟨hv', _⟩ | ⟨q, cp, cur, fz, hv', hb0, hq, hnc, hcm, hcs, htk, hfz⟩
      · cases ao with
        | none => simp at hv'; exact .inl ⟨by simp [hv'.2], rfl⟩
        | some b => simp at hv'
      · cases ao with
        | none => simp at hv'
        | some b =>
          simp at hv'
          obtain ⟨rfl, rfl⟩ := hv'
          exact .inr ⟨b, cap, cur, fz, rfl, hb0, hq, Nat.zero_le _, hcm, hcs, by simp, hfz⟩
    obtain ⟨k1, k2⟩ := h2.step h3 (i := i) (m' := .r E ei.size 0) (Ev.refl g w) rfl rfl rfl (fun _ _ _ _ => ⟨rfl, rfl, fun h => h⟩) (fun _ _ _ => rfl) (fun _ _ => rfl) (fun _ _ => rfl) (.r hrw ⟨hB.pos, ⟨[], hown0⟩, fun b hb o _ => hB.free b hb o⟩) (fun b o hp => .inl ⟨_, hi', hp⟩) h2.fut
    unfold Oper.wp
    have hrun' : (execOp a.eval o).run P w = .ok (.value (.slice ad 0 cap)) w := by
      rw [hres] at hcut
      simp [execOp, ho, hv, hcut]
    rw [hrun']
    refine hK _ g w (Ev.refl g w) k1 k2 ?_
    have := Rep.row (es := []) (n := 0) (i := i) rfl hB.pos hrw hown0 (fun b hb => ?_) (by simp) (by simp)
    · rw [had]; exact this
    · subst hb; exact ⟨hB.lt rfl, fun o ho => by omega⟩
end
end Lf
end Go.Proofs.YtgbgplijpomkeaaDoor

/- Grow from nil, and Concat, of bytes. -/
namespace Go.Proofs.YtgbgplijpomkeaaDoor
open Go.RowKit Rg
set_option linter.unusedVariables false
set_option maxRecDepth 100000
namespace Lf
theorem Does.capNil {P : Program} {o : Oper} {env : Env} {x : Operand} {T : Nat} {ts : Array Nat} {e : Nat} (X : TOk P) {ti : TI} (ho : o.op = .call { callee := .builtin .cap, args := #[x], argTypes := ts }) (hts : ts[0]? = some T) (hx : evo env x = some .nil) (hT : aget X.tab T = some ti) (hd : ti.d = .sl e) : Does P o env (.k (.int .i64 ((0 : Nat) : Int))) [] :=
  .pure fun F g a w mem hr _ => by
    have hr0 := hr x (by simp [ho, Op.operands, Call.operands]) _ hx
    have hxe : a.eval x = .slice none 0 0 := by generalize a.eval x = v at hr0; cases hr0; rfl
    exact ⟨.int .i64 ((0 : Nat) : Int), by simp [execOp, ho, resolve, invoke, builtin, hxe, Builtin.cap_, hts, run_underlying ((X.get hT).sl hd), goInt], .k _⟩
theorem Does.cutNil {P : Program} {o : Oper} {env : Env} {T e : Nat} {x : Operand} {hi : Option Operand} (X : TOk P) {ti ei : TI} (ho : o.op = .slice T x none hi none) (hx : evo env x = some .nil) (hT : aget X.tab T = some ti) (hd : ti.d = .sl e) (hE : aget X.tab e = some ei) (hhi : Bd env 0 hi 0) : Does P o env .nil [] :=
  .pure fun F g a w mem hr _ => by
    have hr0 := hr x (by simp [ho, Op.operands]) _ hx
    have hxe : a.eval x = .slice none 0 0 := by generalize a.eval x = v at hr0; cases hr0; rfl
    have b2 := hhi.val (a := a) (fun y hy u hu => hr y (by subst hy; simp [ho, Op.operands]) u hu)
    have := run_cutG (P := P) (a := none) (n := 0) (cap := 0) ((X.get hT).sl hd) (X.get hE).run_size (.inl ⟨rfl, rfl⟩) b2 (Nat.zero_le _) (Nat.zero_le _) w
    rw [hxe] at hr0
    refine ⟨.slice none 0 0, ?_, hr0⟩
    simp [execOp, ho, hxe, this]
/-- A contract that hands back nil hands back the beginning of a row. -/
theorem LM.nilrow {P : Program} {f : Nat} {args : List V} (E sz k : Nat) (hp : Nat.blt 0 sz = true) (h : LM P f args [] fun o m => o = .ret .nil ∧ m = []) : LM P f args [] fun o m => o = .ret (.s (some k) []) ∧ m = [(k, .r E sz 0)] :=
  ⟨h.ok, fun g w vals h1 h2 h3 => Calls.mono (h.go g w vals h1 h2 h3) fun e w' ⟨o, mo, g', ⟨ho, hm⟩, hev, hrel, hk, hat⟩ => by
    subst ho; subst hm
    have hown0 : w'.oRow 0 E sz (.slice (Option.map (fun b => (⟨b, 0, none⟩ : Addr)) none) 0 0) 0 [] := oRow_nil w' 0 E sz
    have hgi : (g'.addRow k (none, 0, 0)).rw k = some (none, 0, 0) := by simp [Gh.addRow]
    obtain ⟨he, r2, r3⟩ := hrel.nilRow hk (i := k) (m := .r E sz 0) rfl (.r hgi ⟨Nat.le_of_ble_eq_true hp, ⟨_, hown0⟩, fun _ h => by cases h⟩) fun b o ⟨l, c, hp⟩ => by rw [hgi] at hp; cases hp
    obtain ⟨x, hx, hrep⟩ := hat
    cases hrep
    exact ⟨_, _, _, ⟨rfl, rfl⟩, hev.trans he, r2, r3, ⟨_, hx, .s0 fun r hr' => by cases hr'; exact ⟨none, 0, 0, hgi, Nat.le_refl _, fun _ => .inl rfl⟩⟩⟩⟩
namespace Sl4
set_option maxHeartbeats 1000000 in
theorem GrowB (n : Nat) (hn : n < 1073741824) (k : Nat) : LM Tryd.prog 25 [.nil, .k (.int .i64 (n : Int))] [] fun o m => o = .ret (.s (some k) []) ∧ m = [(k, .r 5 1 0)] := by
  rcases Nat.eq_zero_or_pos n with h0 | h0
  · subst h0
    refine LM.nilrow _ _ k rfl ?_
    refine LFx.mk' tt Tryd.func25 rfl rfl rfl (by kernel_rfl) rfl rfl fun F => ?_
    refine wk ?_ trueW trueW
    refine DR.pp rfl rfl (Does.capNil tt rfl rfl rfl rfl rfl) rfl ?_
    exact wk trueW trueW trueW
  · refine LM.row1 (k0 := 22) (fun _ => rfl) ?_ k
    refine LFx.mk' tt Tryd.func25 rfl rfl rfl (by kernel_rfl) rfl rfl fun F => ?_
    refine wk ?_ trueW trueW
    refine DR.pp rfl rfl (Does.capNil tt rfl rfl rfl rfl rfl) rfl ?_
    refine wk ?_ trueW trueW
    refine DR.pp rfl rfl (Does.capNil tt rfl rfl rfl rfl rfl) rfl ?_
    refine DR.pp rfl rfl (Does.cutNil tt rfl rfl rfl rfl rfl (.some rfl rfl)) rfl ?_
    refine wk ?_ trueW trueW
    refine DR.nn rfl rfl (Does.appMake (n := n) tt rfl rfl rfl rfl rfl rfl rfl rfl rfl rfl h0 (by omega) (by show n * 1 ≤ _; omega)) rfl rfl ?_
    refine wk ?_ trueW trueW
    refine DR.ww rfl rfl (Does.cutW0 tt rfl rfl rfl rfl rfl (.some rfl rfl)) rfl rfl ?_
    exact wk trueW trueW trueW
end Sl4
end Lf
end Go.Proofs.YtgbgplijpomkeaaDoor

/- Concat of bytes. -/
namespace Go.Proofs.YtgbgplijpomkeaaDoor
open Go.RowKit Rg
set_option linter.unusedVariables false
set_option maxRecDepth 100000
namespace Lf
abbrev bV (l : List UInt8) : V := .s none (l.map bK)
theorem flat_take {α : Type} {ls : List (List α)} {i : Nat} (h : i < ls.length) : (ls.take (i + 1)).flatten = (ls.take i).flatten ++ ls.getD i default := by
  rw [List.take_succ_eq_append_getElem h, List.flatten_append]
  simp [List.getD, h]
theorem flat_takeL {α : Type} {ls : List (List α)} {i : Nat} (h : i < ls.length) : (ls.take (i + 1)).flatten.length = (ls.take i).flatten.length + (ls.getD i default).length := by rw [flat_take h, List.length_append]
theorem flat_le {α : Type} {ls : List (List α)} {i : Nat} : (ls.take i).flatten.length ≤ ls.flatten.length := by
  have e : ls = ls.take i ++ ls.drop i := (List.take_append_drop i ls).symm
  have : ls.flatten.length = (ls.take i).flatten.length + (ls.drop i).flatten.length := by
    rw [← List.length_append, ← List.flatten_append, List.take_append_drop]
  omega
namespace Sl5
set_option maxHeartbeats 1000000 in
theorem ConcatB (ls : List (List UInt8)) (h1 : ls.length < 1073741824) (h2 : ls.flatten.length < 1073741824) (k : Nat) : LM Tryd.prog 16 [.s none (ls.map bV)] [] fun o m => o = .ret (.s (some k) (ls.flatten.map bK)) ∧ m = [(k, .r 5 1 ls.flatten.length)] := by
  refine LM.row1 (k0 := 24) (fun ρ => by simp [V.ren]) ?_ k
  have c1 := Sl4.GrowB ls.flatten.length h2 24
  refine LFx.mk' tt Tryd.func16 rfl rfl rfl (by kernel_rfl) rfl rfl fun F => ?_
  refine wk ?_ trueW trueW
  refine LC.loopN (fun i => [(0, .s none (ls.map bV)), (2, .nil), (3, .k (.int .i64 (((ls.take i).flatten.length : Nat) : Int))), (9, .s none (ls.map bV)), (10, .k (.int .i64 ((ls.length : Nat) : Int))), (11, .k (.int .i64 ((i : Nat) : Int)))]) (fun i => []) (fun i => i ≤ ls.length) ((ls.length - ·)) (0) (by omega) ⟨rfl, rfl, rfl, rfl, rfl, rfl, trivial⟩ trivial rfl rfW rfW ?_
  intro i hi
  have q1 := flat_le (ls := ls) (i := i)
  rcases Nat.lt_or_ge i ls.length with h3 | h3
  · have hok : i + 1 ≤ ls.length := h3
    have q2 := flat_takeL h3
    have q3 := flat_le (ls := ls) (i := i + 1)
    refine wk ?_ trueW trueW
    rw [← q2]
    exact wk trueW trueW trueW
  · obtain rfl : i = ls.length := by omega
    rw [List.take_length]
    refine wk ?_ trueW trueW
    refine LC.loopN (fun j => [(2, .nil), (6, .s (some 24) ((ls.take j).flatten.map bK)), (25, .s none (ls.map bV)), (26, .k (.int .i64 ((ls.length : Nat) : Int))), (27, .k (.int .i64 ((j : Nat) : Int)))]) (fun j => [(24, .r 5 1 (ls.take j).flatten.length)]) (fun j => j ≤ ls.length) ((ls.length - ·)) (0) (by omega) ⟨rfl, rfl, rfl, rfl, rfl, trivial⟩ ⟨rfl, trivial⟩ rfl rfW rfW ?_
    intro j hj
    have q1 := flat_le (ls := ls) (i := j)
    have q0 : ((ls.take j).flatten.map bK).length = (ls.take j).flatten.length := List.length_map _
    rcases Nat.lt_or_ge j ls.length with h4 | h4
    · have hok : j + 1 ≤ ls.length := h4
      have q2 := flat_takeL h4
      have q4 := flat_take h4
      have q3 := flat_le (ls := ls) (i := j + 1)
      refine wk ?_ trueW trueW
      rw [← q4]
      exact wk trueW trueW trueW
    · obtain rfl : j = ls.length := by omega
      rw [List.take_length]
      exact wk trueW trueW trueW
end Sl5
end Lf
end Go.Proofs.YtgbgplijpomkeaaDoor

/- Grow and Concat of texts; Clone of bytes. -/
namespace Go.Proofs.YtgbgplijpomkeaaDoor
open Go.RowKit Rg
set_option linter.unusedVariables false
set_option maxRecDepth 100000
namespace Lf
abbrev ssV (l : List (List UInt8)) : V := .s none (l.map sK)
namespace Sl7
set_option maxHeartbeats 1000000 in
theorem GrowS (n : Nat) (hn : n < 1073741824) (k : Nat) : LM Tryd.prog 26 [.nil, .k (.int .i64 (n : Int))] [] fun o m => o = .ret (.s (some k) []) ∧ m = [(k, .r 9 1 0)] := by
  rcases Nat.eq_zero_or_pos n with h0 | h0
  · subst h0
    refine LM.nilrow _ _ k rfl ?_
    refine LFx.mk' tt Tryd.func26 rfl rfl rfl (by kernel_rfl) rfl rfl fun F => ?_
    refine wk ?_ trueW trueW
    refine DR.pp rfl rfl (Does.capNil tt rfl rfl rfl rfl rfl) rfl ?_
    exact wk trueW trueW trueW
  · refine LM.row1 (k0 := 22) (fun _ => rfl) ?_ k
    refine LFx.mk' tt Tryd.func26 rfl rfl rfl (by kernel_rfl) rfl rfl fun F => ?_
    refine wk ?_ trueW trueW
    refine DR.pp rfl rfl (Does.capNil tt rfl rfl rfl rfl rfl) rfl ?_
    refine wk ?_ trueW trueW
    refine DR.pp rfl rfl (Does.capNil tt rfl rfl rfl rfl rfl) rfl ?_
    refine DR.pp rfl rfl (Does.cutNil tt rfl rfl rfl rfl rfl (.some rfl rfl)) rfl ?_
    refine wk ?_ trueW trueW
    refine DR.nn rfl rfl (Does.appMake (n := n) tt rfl rfl rfl rfl rfl rfl rfl rfl rfl rfl h0 (by omega) (by show n * 16 ≤ _; omega)) rfl rfl ?_
    refine wk ?_ trueW trueW
    refine DR.ww rfl rfl (Does.cutW0 tt rfl rfl rfl rfl rfl (.some rfl rfl)) rfl rfl ?_
    exact wk trueW trueW trueW
set_option maxHeartbeats 1000000 in
theorem ConcatS (ls : List (List (List UInt8))) (h1 : ls.length < 1073741824) (h2 : ls.flatten.length < 1073741824) (k : Nat) : LM Tryd.prog 18 [.s none (ls.map ssV)] [] fun o m => o = .ret (.s (some k) (ls.flatten.map sK)) ∧ m = [(k, .r 9 1 ls.flatten.length)] := by
  refine LM.row1 (k0 := 24) (fun ρ => by simp [V.ren]) ?_ k
  have c1 := Sl7.GrowS ls.flatten.length h2 24
  refine LFx.mk' tt Tryd.func18 rfl rfl rfl (by kernel_rfl) rfl rfl fun F => ?_
  refine wk ?_ trueW trueW
  refine LC.loopN (fun i => [(0, .s none (ls.map ssV)), (2, .nil), (3, .k (.int .i64 (((ls.take i).flatten.length : Nat) : Int))), (9, .s none (ls.map ssV)), (10, .k (.int .i64 ((ls.length : Nat) : Int))), (11, .k (.int .i64 ((i : Nat) : Int)))]) (fun i => []) (fun i => i ≤ ls.length) ((ls.length - ·)) (0) (by omega) ⟨rfl, rfl, rfl, rfl, rfl, rfl, trivial⟩ trivial rfl rfW rfW ?_
  intro i hi
  have q1 := flat_le (ls := ls) (i := i)
  rcases Nat.lt_or_ge i ls.length with h3 | h3
  · have hok : i + 1 ≤ ls.length := h3
    have q2 := flat_takeL h3
    have q3 := flat_le (ls := ls) (i := i + 1)
    refine wk ?_ trueW trueW
    rw [← q2]
    exact wk trueW trueW trueW
  · obtain rfl : i = ls.length := by omega
    rw [List.take_length]
    refine wk ?_ trueW trueW
    refine LC.loopN (fun j => [(2, .nil), (6, .s (some 24) ((ls.take j).flatten.map sK)), (25, .s none (ls.map ssV)), (26, .k (.int .i64 ((ls.length : Nat) : Int))), (27, .k (.int .i64 ((j : Nat) : Int)))]) (fun j => [(24, .r 9 1 (ls.take j).flatten.length)]) (fun j => j ≤ ls.length) ((ls.length - ·)) (0) (by omega) ⟨rfl, rfl, rfl, rfl, rfl, trivial⟩ ⟨rfl, trivial⟩ rfl rfW rfW ?_
    intro j hj
    have q1 := flat_le (ls := ls) (i := j)
    have q0 : ((ls.take j).flatten.map sK).length = (ls.take j).flatten.length := List.length_map _
    rcases Nat.lt_or_ge j ls.length with h4 | h4
    · have hok : j + 1 ≤ ls.length := h4
      have q2 := flat_takeL h4
      have q4 := flat_take h4
      have q3 := flat_le (ls := ls) (i := j + 1)
      refine wk ?_ trueW trueW
      rw [← q4]
      exact wk trueW trueW trueW
    · obtain rfl : j = ls.length := by omega
      rw [List.take_length]
      exact wk trueW trueW trueW
end Sl7
namespace Sl7
theorem CloneB (es : List V) (hs : ∀ e ∈ es, e.cells.length = 1) (hl : es.length < 1073741824) (k : Nat) : LM Tryd.prog 15 [.s none es] [] fun o m => o = .ret (.s (some k) es) ∧ m = [(k, .r 5 1 es.length)] := by
  refine LM.row1 (k0 := 5) (fun _ => rfl) ?_ k
  refine LFx.mk' tt Tryd.func15 rfl rfl rfl (by kernel_rfl) rfl rfl fun F => ?_
  refine LC.seq (LC.region (LS.pp rfl rfl (Does.assign rfl rfl) rfl (LS.nil ?_)))
  refine LC.seq (LC.seq (LC.region (LS.pp rfl rfl (Does.move rfl rfl) rfl (LS.eqNil tt rfl rfl rfl rfl rfl rfl rfl (fun he => LS.nil ?_) (LS.nil ?_)))))
  · subst he
    refine LC.condT rfl (LC.seq (LC.region (LS.pp rfl rfl (Does.assign rfl rfl) rfl (LS.nil ?_))))
    refine LC.nilrow 2 5 5 1 rfl rfl rfl ?_
    exact wk trueW trueW trueW
  · refine LC.condF rfl ?_
    exact wk trueW trueW trueW
end Sl7
end Lf
end Go.Proofs.YtgbgplijpomkeaaDoor

/- append of make onto a row. -/
namespace Go.Proofs.YtgbgplijpomkeaaDoor
open Go.RowKit Rg
namespace Lf
section
variable {P : Program} {o : Oper} {env : Env}
/-- A slice of no room: nil, as append sees it. -/
theorem run_app_ad {T Tx E ty k : Nat} {kd kx : IntKind} {ei : TI} (hu : P.underlying T = some (.slice E)) (hx : P.underlying Tx = some (.int kx)) (hE : TIok P E ei) (hp : 0 < ei.size) {ad : Option Addr} {w : World} (hk : 0 < k) (hmax : k ≤ 140737488355328) (hb : k * ei.bytes ≤ 140737488355328) :
    (Builtin.append_ #[T, Tx] ty #[.slice ad 0 0, .int kd (k : Int)]).run P w = (Builtin.append_ #[T, Tx] ty #[.slice none 0 0, .int kd (k : Int)]).run P w := by
  obtain ⟨i, hi, hsz, hby, z, hz, hzl, hzs, hzz, _⟩ := hE.info
  rw [← hsz] at hzs hp
  rw [← hby] at hb
  have hw : IntKind.i64.wrap (k : Int) = (k : Int) := wrap_i64 (by omega)
  have h4 : ¬ (281474976710656 < (k : Int) * (i.bytes : Int)) := by
    have : (k : Int) * (i.bytes : Int) = ((k * i.bytes : Nat) : Int) := by rw [Int.natCast_mul]
    rw [this]; omega
  have h5 : ¬ ((k : Int) < 0) := by omega
  have hks : ¬ (k * i.size = 0) := by have := Nat.mul_pos hk hp; omega
  have hks2 : ¬ (k = 0 ∨ i.size = 0) := by omega
  have hroom : ¬ k = 0 := by omega
  have h63' : ¬ (9223372036854775807 < (k : Int)) := by omega
  have hfit : Builtin.nextslicecap k 0 * i.bytes ≤ 281474976710656 := by have := growslice_fits (old := 0) (need := k) (by omega) hb; simpa using this
  have h48' : ¬ (281474976710656 < Builtin.nextslicecap k 0 * i.bytes) := by omega
  cases ad with
  | none => rfl
  | some b =>
    have hfc : ∀ w' : World, (Builtin.firstCells i.size 0 (.slice (some b) 0 0)).run P w' = .ok #[] w' := fun w' => run_firstCells_some w' i.size 0 b 0 0 [] (by simp) (fun j u hj => by simp at hj)
    have hfn : ∀ w' : World, (Builtin.firstCells i.size 0 (.slice none 0 0)).run P w' = .ok #[] w' := fun w' => by simp [Builtin.firstCells]
    simp [Builtin.append_, run_underlying hu, run_underlying hx, sizeOf, typeInfo, zeroValue, hi, hz, asInt, asIntOf, hw, h4, h5, hks2, hroom, h63', h48', Question.forced, hfc, hfn, newRow, grownCap]
/-- append of so many noughts onto a row. -/
theorem Does.appMakeR {T Tx E i k n sz : Nat} {kd kx : IntKind} {x y : Operand} {z : Int} {es : List V} {zv : V} (X : TOk P) {ti xi ei : TI} (ho : o.op = .call { callee := .builtin .append, args := #[x, y], argTypes := #[T, Tx] }) (hx : evo env x = some (.s (some i) es)) (hy : evo env y = some (.k (.int kd z))) (hz : z = ((k : Nat) : Int)) (hT : aget X.tab T = some ti) (hd : ti.d = .sl E) (hX : aget X.tab Tx = some xi) (hdx : xi.d = .int kx) (hE : aget X.tab E = some ei) (hsz : ei.size = sz)
    (hes : ∀ e ∈ es, e.cells.length = sz) (hk : 0 < k) (hn : es.length + k = n) (hmax : n ≤ 140737488355328) (hb : n * ei.bytes ≤ 140737488355328) (hzv : zv.cells = ei.zero.map Z.v) : Does P o env (.s (some i) (es ++ List.replicate k zv)) [(i, some (.r E sz es.length), some (.r E sz n))] := by
  subst hz; subst hsz; subst hn
  refine ⟨fun F g a w mem h1 h2 h3 h4 _ K Q hK => ?_⟩
  have hi := h4 _ _ _ mem_one
  have hrx := h1 x (by simp [ho, Op.operands, Call.operands]) _ hx
  have hry := rep_k (h1 y (by simp [ho, Op.operands, Call.operands]) _ hy)
  obtain ⟨_, _, _, _, z0, _, hzl, hzs, _⟩ := (X.get hE).info
  have hzc : zv.cells.length = ei.size := by rw [hzv, List.length_map, hzl, hzs]
  have hz1 : ∀ e ∈ List.replicate k zv, e.cells.length = ei.size ∧ ∀ u ∈ e.cells, u.one = true := fun e he => by
    rw [List.eq_of_mem_replicate he]
    refine ⟨hzc, fun u hu => ?_⟩
    rw [hzv] at hu
    obtain ⟨zz, _, rfl⟩ := List.mem_map.1 hu
    exact Z.one zz
  have core : ∃ (ao : Option Nat) (c : Nat) (zs : List Value), g.rw i = some (ao, es.length, c) ∧ (Builtin.append_ #[T, Tx] o.type #[a.eval x, .int kd (k : Int)]).run P w = (Builtin.append_ #[T, Tx] o.type #[.slice (ao.map fun b => ⟨b, 0, none⟩) es.length c, .int kd (k : Int)]).run P w ∧ w.oRow 0 E ei.size (.slice (ao.map fun b => ⟨b, 0, none⟩) es.length c) es.length zs ∧ 0 < ei.size ∧ (∀ e ∈ es, ∀ u ∈ e.cells, u.one = true) ∧
      (∀ (j : Nat) u z, (es.flatMap V.cells)[j]? = some u → zs[j]? = some z → Rep w g.bare u z) := by
    rcases rep_tip h2 hrx hi hes with ⟨ao, c, zs, e1, e2, hown, hp, hone, hrep⟩ | ⟨rfl, e1, hp, ad, e2⟩
    · exact ⟨ao, c, zs, e1, by rw [e2], hown, hp, hone, hrep⟩
    · simp only [List.length_nil, Nat.zero_add] at hmax hb
      exact ⟨none, 0, [], e1, by rw [e2, run_app_ad ((X.get hT).sl hd) ((X.get hX).int hdx) (X.get hE) hp hk hmax hb]; rfl, oRow_nil w 0 E ei.size, hp, (fun e he => by cases he), (fun j u z hj hz => by simp at hj)⟩
  obtain ⟨ao, c, zs, e1, e2, hown, hp, hone, hrep⟩ := core
  obtain ⟨v', w', news, hrun, hown', hg, hv, hnz, hnone⟩ := run_appZ (P := P) (ty := o.type) (kd := kd) ((X.get hT).sl hd) ((X.get hX).int hdx) (X.get hE) hp hown hk hmax hb
  obtain ⟨g', a', c', rfl, k1, k2, k3, k4, k5⟩ := h2.grow h3 hi e1 hown hown' hg hv
  unfold Oper.wp
  have hrun' : (execOp a.eval o).run P w = .ok (.value (.slice (Option.map (fun b => ⟨b, 0, none⟩) a') (es.length + k) c')) w' := by
    rw [← e2] at hrun
    simp [execOp, ho, resolve, invoke, builtin, hry, hrun]
  rw [hrun']
  refine hK _ g' w' k2 k3 k4 (Rep.row (by simp) hp k1 hown' k5 (fun e he => ?_) (fun j u z hj hz => ?_))
  · rcases List.mem_append.1 he with he | he
    · exact ⟨hes e he, hone e he⟩
    · exact hz1 e he
  · have hfe : (es.flatMap V.cells).length = zs.length := by rw [flat_len hes, hown.1]
    rw [List.flatMap_append] at hj
    rcases Nat.lt_or_ge j zs.length with hlt | hge
    · rw [List.getElem?_append_left (by omega)] at hj
      rw [List.getElem?_append_left hlt] at hz
      exact (hrep j u z hj hz).mono k2.bare
    · rw [List.getElem?_append_right (by omega), hfe] at hj
      rw [List.getElem?_append_right hge] at hz
      obtain ⟨zz, hq1, hq2⟩ := hnz _ _ hz
      have hu := flat_rep hzc hp hj
      rw [hzv, List.getElem?_map, hq1] at hu
      cases hu
      exact Z.rep hq2
end
end Lf
end Go.Proofs.YtgbgplijpomkeaaDoor

/- CodeJoin. -/
namespace Go.Proofs.YtgbgplijpomkeaaDoor
open Go.RowKit Rg Wm Ar
set_option linter.unusedVariables false
set_option maxRecDepth 100000
namespace Co
theorem lands_len (c : List UInt8) : (lands c).length ≤ c.length := by
  have := below_le c.length (lands_lt c)
  rw [below_all fun x hx => ((plc_mem (c := c) 0 x (lands_mem.1 hx).1)).2] at this
  exact this
theorem lands_in {c : List UInt8} {i : Nat} (h : i < (lands c).length) : (lands c).getD i default < c.length := (plc_mem (c := c) 0 _ (lands_mem.1 (getD_mem h)).1).2
end Co
namespace Lf
theorem bare_bL : ∀ l : List UInt8, V.bare.go (l.map bK) = some (l.map bK)
  | [] => rfl
  | x :: l => by
    simp only [List.map_cons, V.bare.go, bare_bL l]
    rfl
theorem bK_one (l : List UInt8) : ∀ e ∈ l.map bK, e.cells.length = 1 := fun e he => by obtain ⟨x, _, rfl⟩ := List.mem_map.1 he; rfl
theorem iN_one (l : List Nat) : ∀ e ∈ l.map iN, e.cells.length = 1 := fun e he => by obtain ⟨x, _, rfl⟩ := List.mem_map.1 he; rfl
namespace Cw
set_option maxHeartbeats 2000000 in
theorem LandingsR (c : List UInt8) (hl : c.length < 1000000000) (k : Nat) : LM Tryd.prog 10 [.s none (c.map bK)] [] fun o m => o = .ret (.s (some k) ((Co.lands c).map iN)) ∧ m = [(k, .r 3 1 (Co.lands c).length)] := by
  refine LM.row1 (k0 := 60) (fun _ => rfl) ?_ k
  refine LFx.mk' tt Tryd.func10 rfl rfl rfl (by kernel_rfl) rfl rfl fun F => ?_
  refine wk ?_ trueW trueW
  refine LC.nilrow 3 60 3 1 rfl rfl rfl ?_
  refine LC.loop2 (fun p S => [(0, .s none (c.map bK)), (3, .s (some 60) (S.map iN)), (4, .k (.int .i64 ((p : Nat) : Int)))]) (fun p S => [(60, .r 3 1 S.length)]) (fun p S => p ≤ c.length ∧ S.length ≤ p ∧ Co.lands c = S ++ (Co.plc c p).filter (fun p => c.getD p default == 91)) ((c.length - ·)) (0) ([]) ⟨Nat.zero_le _, Nat.le_refl _, rfl⟩ ⟨rfl, rfl, rfl, trivial⟩ ⟨rfl, trivial⟩ rfl rfW rfW ?_
  rintro p S ⟨hp, hSl, hS⟩
  rcases Nat.lt_or_ge p c.length with h | h
  · have c1 := Next c p h hl
    have hg := Co.nxt_gt h
    have hle := Co.nxt_le c p
    rw [Co.plc_at h, List.filter_cons] at hS
    by_cases hx : c.getD p default = 91
    · rw [hx, if_pos (by decide)] at hS
      have hok : Co.nxt c p ≤ c.length ∧ (S ++ [p]).length ≤ Co.nxt c p ∧ Co.lands c = (S ++ [p]) ++ (Co.plc c (Co.nxt c p)).filter (fun p => c.getD p default == 91) := ⟨hle, by rw [List.length_append, List.length_singleton]; omega, by rw [hS, List.append_assoc]; rfl⟩
      have hx2 : ((c.getD p default).toNat : Int) = 91 := by rw [hx]; rfl
      clear hS
      generalize Co.nxt c p = r at *
      exact wk trueW trueW trueW
    · rw [if_neg (by rw [beq_iff_eq]; exact hx)] at hS
      have hok : Co.nxt c p ≤ c.length ∧ S.length ≤ Co.nxt c p ∧ Co.lands c = S ++ (Co.plc c (Co.nxt c p)).filter (fun p => c.getD p default == 91) := ⟨hle, by omega, hS⟩
      have hx2 : ¬ ((c.getD p default).toNat : Int) = 91 := fun e => hx (UInt8.toNat_inj.1 (by rw [show (91 : UInt8).toNat = 91 from rfl]; omega))
      clear hS
      generalize Co.nxt c p = r at *
      exact wk trueW trueW trueW
  · rw [Co.plc_end h, List.filter_nil, List.append_nil] at hS
    rw [hS]
    clear hS
    exact wk trueW trueW trueW
set_option maxHeartbeats 8000000 in
theorem CodeJoin (a b : List UInt8) (ha : a.length < 2000000) (hb : b.length < 2000000) : LF Tryd.prog 7 [.s none (a.map bK), .s none (b.map bK)] (fun _ => .k (.bool true)) none := by
  have c1 := alive12
  have hz1 := bK_one a
  have c2 := Sl7.CloneB (a.map bK) hz1 (by rw [List.length_map]; omega)
  have hpl : (Co.pad a).length = a.length + 32 := by unfold Co.pad; rw [List.length_append, List.length_replicate]
  have hpe : a.map bK ++ List.replicate 32 (bK 0) = (Co.pad a).map bK := by unfold Co.pad; rw [List.map_append, List.map_replicate]
  have c3 : ∀ k, LM Tryd.prog 16 [.s none [.s none ((Co.pad a).map bK), .s none (b.map bK)]] [] fun o m => o = .ret (.s (some k) ((Co.pad a ++ b).map bK)) ∧ m = [(k, .r 5 1 (Co.pad a ++ b).length)] := fun k => by
    have h := Sl5.ConcatB [Co.pad a, b] (show 2 < 1073741824 by decide) (by simp only [List.flatten_cons, List.flatten_nil, List.length_append, List.length_nil]; omega) k
    rw [show [Co.pad a, b].flatten = Co.pad a ++ b by simp] at h
    exact h
  have c4 := LandingsR (Co.pad a) (by omega)
  have hll := Co.lands_len (Co.pad a)
  have hll2 := Co.lands_len b
  have c5 := Landings b (by omega)
  have hab : (Co.pad a ++ b).length = (Co.pad a).length + b.length := List.length_append
  have c6 := Landings (Co.pad a ++ b) (by omega)
  rw [Co.lands_join] at c6
  have c7 := Disassemble (Co.pad a) (by omega)
  have c8 := Disassemble b (by omega)
  have c9 := Disassemble (Co.pad a ++ b) (by omega)
  rw [Co.dis_join] at c9
  have hd1 := Co.dis_len (Co.pad a)
  have hd2 := Co.dis_len b
  have c10 : ∀ k, LM Tryd.prog 18 [.s none [.s none ((Co.dis (Co.pad a)).map sK), .s none ((Co.dis b).map sK)]] [] fun o m => o = .ret (.s (some k) ((Co.dis (Co.pad a) ++ Co.dis b).map sK)) ∧ m = [(k, .r 9 1 (Co.dis (Co.pad a) ++ Co.dis b).length)] := fun k => by
    have h := Sl7.ConcatS [Co.dis (Co.pad a), Co.dis b] (show 2 < 1073741824 by decide) (by simp only [List.flatten_cons, List.flatten_nil, List.length_append, List.length_nil]; omega) k
    rw [show [Co.dis (Co.pad a), Co.dis b].flatten = Co.dis (Co.pad a) ++ Co.dis b by simp] at h
    exact h
  have c11 := EqualI (Co.lands (Co.pad a) ++ (Co.lands b).map ((Co.pad a).length + ·)) (by rw [List.length_append, List.length_map]; omega)
  have c12 := EqualS (Co.dis (Co.pad a) ++ Co.dis b) (by rw [List.length_append]; omega)
  have hin := fun i => Co.lands_in (c := b) (i := i)
  generalize hA : Co.pad a = A at *
  generalize Co.dis A = D1 at *
  generalize Co.dis b = D2 at *
  generalize Co.lands A = L1 at *
  generalize Co.lands b = L2 at *
  have hbb1 := bare_bL A
  have hbb2 := bare_bL b
  refine LFx.mk' tt Tryd.func7 rfl rfl rfl (by kernel_rfl) rfl rfl fun F => ?_
  refine wk ?_ trueW trueW
  refine DR.ww rfl rfl (Does.appMakeR (k := 32) (n := A.length) (zv := bK 0) tt rfl rfl rfl rfl rfl rfl rfl rfl rfl rfl hz1 (by decide) (by rw [List.length_map]; omega) (by omega) (by show A.length * 1 ≤ _; omega) rfl) rfl rfl ?_
  rw [hpe]
  clear hpe hz1
  refine wk ?_ trueW trueW
  clear c1 c2 c3 c4 c5
  have hbl := hab
  refine LC.loop2 (fun i S => [(0, .s (some 14) (A.map bK)), (1, .s none (b.map bK)), (5, .s (some 19) ((A ++ b).map bK)), (6, .s (some 21) (S.map iN)), (23, .s none (L2.map iN)), (24, .k (.int .i64 ((L2.length : Nat) : Int))), (25, .k (.int .i64 ((i : Nat) : Int)))]) (fun i S => [(14, .r 5 1 A.length), (19, .r 5 1 (A ++ b).length), (21, .r 3 1 S.length)]) (fun i S => i ≤ L2.length ∧ S = L1 ++ (L2.take i).map (A.length + ·)) ((L2.length - ·)) (0) (L1) ⟨by omega, by rw [List.take_zero]; simp⟩ ⟨rfl, rfl, rfl, rfl, rfl, rfl, rfl, trivial⟩ ⟨rfl, rfl, rfl, trivial⟩ rfl rfW rfW ?_
  rintro i S ⟨hi, hS⟩
  have hSl : S.length = L1.length + i := by rw [hS, List.length_append, List.length_map, List.length_take]; omega
  rcases Nat.lt_or_ge i L2.length with h | h
  · have hn := hin i h
    have hok : i + 1 ≤ L2.length ∧ S ++ [L2.getD i default + A.length] = L1 ++ (L2.take (i + 1)).map (A.length + ·) := ⟨h, by
      rw [hS, List.take_succ_eq_append_getElem h, List.map_append, List.getD_eq_getElem?_getD, List.getElem?_eq_getElem h, List.append_assoc]
      simp [Nat.add_comm]⟩
    clear hS hin c6 c7 c8 c9 c10 c11 c12
    exact wk trueW trueW trueW
  · obtain rfl : i = L2.length := by omega
    rw [List.take_length] at hS
    subst hS
    have hdl : (D1 ++ D2).length = D1.length + D2.length := List.length_append
    exact wk trueW trueW trueW
end Cw
end Lf
end Go.Proofs.YtgbgplijpomkeaaDoor

/- What the given statement tells of an argument: a lifted value by a datum of one's own, and a bound of its bulk. -/
namespace Go.Proofs.YtgbgplijpomkeaaDoor
open Go.RowKit Rg Rp Go.WideShapes Go.ChangeShapes
namespace Lf
/-- Cells and what they read. -/
def RO (W : World) : List V → List Value → Prop
  | [], [] => True
  | u :: us, c :: cs => (u.one = true ∧ Rep W allS u c) ∧ RO W us cs
  | _, _ => False
theorem RO.append {W : World} : ∀ {us : List V} {cs : List Value} {vs : List V} {ds : List Value}, RO W us cs → RO W vs ds → RO W (us ++ vs) (cs ++ ds)
  | [], [], _, _, _, h => h
  | _u :: _us, _c :: _cs, _, _, h, k => ⟨h.1, RO.append h.2 k⟩
  | [], _ :: _, _, _, h, _ => h.elim
  | _ :: _, [], _, _, h, _ => h.elim
theorem RO.spec {W : World} : ∀ {us : List V} {cs : List Value}, RO W us cs → us.length = cs.length ∧ ∀ (j : Nat) u c, us[j]? = some u → cs[j]? = some c → u.one = true ∧ Rep W allS u c
  | [], [], _ => ⟨rfl, fun j u c h => by simp at h⟩
  | u :: us, c :: cs, h => by
    obtain ⟨h1, h2⟩ := RO.spec h.2
    refine ⟨by simp [h1], fun j a b ha hb => ?_⟩
    cases j with
    | zero => simp at ha hb; subst ha; subst hb; exact h.1
    | succ j => simp at ha hb; exact h2 j a b ha hb
  | [], _ :: _, h => h.elim
  | _ :: _, [], h => h.elim
theorem RO.flatten {W : World} : ∀ {uss : List (List V)} {css : List (List Value)}, uss.length = css.length → (∀ (j : Nat) us cs, uss[j]? = some us → css[j]? = some cs → RO W us cs) → RO W uss.flatten css.flatten
  | [], [], _, _ => trivial
  | us :: uss, cs :: css, hl, h => by
    rw [List.flatten_cons, List.flatten_cons]
    exact (h 0 us cs rfl rfl).append (RO.flatten (by simpa using hl) fun j a b ha hb => h (j + 1) a b (by simpa using ha) (by simpa using hb))
  | [], _ :: _, hl, _ => by simp at hl
  | _ :: _, [], hl, _ => by simp at hl
theorem mapM_some {α β : Type} {f : α → Option β} : ∀ {l : List α} {r : List β}, l.mapM f = some r → r.length = l.length ∧ ∀ (j : Nat) a, l[j]? = some a → ∃ b, r[j]? = some b ∧ f a = some b
  | [], r, h => by simp at h; subst h; simp
  | a :: l, r, h => by
    simp only [List.mapM_cons, Option.bind_eq_bind, Option.pure_def] at h
    obtain ⟨b, hb, h⟩ := Option.bind_eq_some_iff.1 h
    obtain ⟨bs, hbs, h⟩ := Option.bind_eq_some_iff.1 h
    cases h
    obtain ⟨h1, h2⟩ := mapM_some hbs
    refine ⟨by simp [h1], fun j x hj => ?_⟩
    cases j with
    | zero => simp at hj; subst hj; exact ⟨b, rfl, hb⟩
    | succ j => simp at hj; exact h2 j x hj
theorem list_choose {α : Type} {p : Nat → α → Prop} : ∀ (n : Nat), (∀ j, j < n → ∃ x, p j x) → ∃ xs : List α, xs.length = n ∧ ∀ j x, xs[j]? = some x → p j x
  | 0, _ => ⟨[], rfl, by simp⟩
  | n + 1, h => by
    obtain ⟨xs, hl, hx⟩ := list_choose n fun j hj => h j (by omega)
    obtain ⟨x, hp⟩ := h n (by omega)
    refine ⟨xs ++ [x], by simp [hl], fun j y hj => ?_⟩
    rcases Nat.lt_or_ge j xs.length with hlt | hge
    · rw [List.getElem?_append_left hlt] at hj; exact hx j y hj
    · rw [List.getElem?_append_right hge] at hj
      have : j - xs.length = 0 := by
        rcases Nat.eq_zero_or_pos (j - xs.length) with h0 | h0
        · exact h0
        · rw [List.getElem?_eq_none (by simp; omega)] at hj; cases hj
      rw [this] at hj
      simp at hj; subst hj
      obtain rfl : j = n := by omega
      exact hp
theorem range_flatten {s : Nat} : ∀ {n : Nat} {cs : List Value}, cs.length = n * s → ((List.range n).map fun i => (cs.drop (i * s)).take s).flatten = cs
  | 0, cs, h => by simp at h; subst h; rfl
  | n + 1, cs, h => by
    rw [List.range_succ_eq_map, List.map_cons, List.flatten_cons, List.map_map, Nat.zero_mul, List.drop_zero]
    have e := range_flatten (s := s) (n := n) (cs := cs.drop s) (by rw [List.length_drop, h, Nat.succ_mul]; omega)
    have e2 : ((List.range n).map ((fun i => (cs.drop (i * s)).take s) ∘ Nat.succ)) = (List.range n).map fun i => ((cs.drop s).drop (i * s)).take s := by
      refine List.map_congr_left fun i _ => ?_
      simp only [Function.comp, List.drop_drop, Nat.succ_mul]
      rw [Nat.add_comm]
    rw [e2, e]
    exact List.take_append_drop _ _
theorem flat_inv {α : Type} {f : α → List V} {k : Nat} (hk : 0 < k) : ∀ {l : List α} {J : Nat} {u : V}, (∀ a ∈ l, (f a).length = k) → (l.flatMap f)[J]? = some u → ∃ a, l[J / k]? = some a ∧ (f a)[J % k]? = some u
  | [], J, u, _, h => by simp at h
  | a :: l, J, u, hf, h => by
    rw [List.flatMap_cons] at h
    have ha := hf a (by simp)
    rcases Nat.lt_or_ge J k with hlt | hge
    · rw [List.getElem?_append_left (by omega)] at h
      exact ⟨a, by rw [Nat.div_eq_of_lt hlt]; rfl, by rw [Nat.mod_eq_of_lt hlt]; exact h⟩
    · rw [List.getElem?_append_right (by omega), ha] at h
      obtain ⟨b, h1, h2⟩ := flat_inv hk (fun a ha => hf a (by simp [ha])) h
      obtain ⟨J', rfl⟩ : ∃ J', J = J' + k := ⟨J - k, by omega⟩
      rw [Nat.add_sub_cancel] at h1 h2
      exact ⟨b, by rw [Nat.add_div_right _ hk]; exact h1, by rw [Nat.add_mod_right]; exact h2⟩
theorem sum_le {α β : Type} {f : α → Nat} {g : β → Nat} : ∀ {l : List α} {m : List β}, l.length = m.length → (∀ (j : Nat) a b, l[j]? = some a → m[j]? = some b → f a ≤ g b) → (l.map f).sum ≤ (m.map g).sum
  | [], [], _, _ => Nat.le_refl _
  | a :: l, b :: m, hl, h => by
    simp only [List.map_cons, List.sum_cons]
    exact Nat.add_le_add (h 0 a b rfl rfl) (sum_le (by simpa using hl) fun j x y hx hy => h (j + 1) x y (by simpa using hx) (by simpa using hy))
  | [], _ :: _, hl, _ => by simp at hl
  | _ :: _, [], hl, _ => by simp at hl
section
variable {H : Type} {enc : TypeId × Value → H} {P : Program} {W : World}
theorem sum_bulk (xs : List (DataW H × List MemPlace)) : (xs.map fun x => Rows.uptoBulk x.1).sum = Rows.uptoBulkAll (xs.map (·.1)) := by
  induction xs with
  | nil => simp [Rows.uptoBulkAll]
  | cons x r ih => simp [Rows.uptoBulkAll, ih]
/-- Cells of a type, as the given reader takes them: lifted by a datum of one's own. -/
structure Opn (enc : TypeId × Value → H) (P : Program) (W : World) (n T : Nat) {α : Type} (f : α → List V) (ok : α → Prop) (sz : α → Nat) : Prop where
  go : ∀ cs x, DataW.trod enc P W 0 (fun _ => true) true n T cs = some x → ∃ a, RO W (f a) cs ∧ ok a ∧ sz a ≤ Rows.uptoBulk x.1
theorem Opn.zero {T : Nat} {α : Type} {f : α → List V} {ok : α → Prop} {sz : α → Nat} : Opn enc P W 0 T f ok sz := ⟨fun cs x h => by simp [DataW.trod] at h⟩
theorem Opn.map {n T : Nat} {α β : Type} {f : α → List V} {ok : α → Prop} {sz : α → Nat} {f' : β → List V} {ok' : β → Prop} {sz' : β → Nat} (g : α → β) (h : Opn enc P W n T f ok sz) (hf : ∀ a, ok a → f' (g a) = f a) (hok : ∀ a, ok a → ok' (g a)) (hs : ∀ a, ok a → sz' (g a) ≤ sz a) : Opn enc P W n T f' ok' sz' :=
  ⟨fun cs x hx => by
    obtain ⟨a, h1, h2, h3⟩ := h.go cs x hx
    exact ⟨g a, by rw [hf a h2]; exact h1, hok a h2, Nat.le_trans (hs a h2) h3⟩⟩
theorem Opn.bool {n T : Nat} (hT : P.underlying T = some .bool) : Opn enc P W n T (fun b : Bool => [.k (.bool b)]) (fun _ => True) (fun _ => 1) := ⟨fun cs x h => by
  cases n with
  | zero => simp [DataW.trod] at h
  | succ n =>
    unfold DataW.trod at h
    rw [hT] at h
    split at h <;> rename_i hu <;> first | (cases hu; done) | skip
    all_goals first | (cases h; exact ⟨_, ⟨⟨rfl, .k _⟩, trivial⟩, trivial, by simp [Rows.uptoBulk]⟩) | cases h⟩
theorem Opn.int {n T : Nat} {k : IntKind} (hT : P.underlying T = some (.int k)) : Opn enc P W n T (fun z : Int => [.k (.int k z)]) (fun z => k.min ≤ z ∧ z ≤ k.max) (fun _ => 1) := ⟨fun cs x h => by
  cases n with
  | zero => simp [DataW.trod] at h
  | succ n =>
    unfold DataW.trod at h
    rw [hT] at h
    split at h <;> rename_i hu <;> first | (cases hu; done) | skip
    all_goals first | cases h | skip
    cases hu
    split at h
    · rename_i hw
      cases h
      obtain ⟨rfl, hw⟩ := hw
      exact ⟨_, ⟨⟨rfl, .k _⟩, trivial⟩, by simpa [Lit.wf] using hw, by simp [Rows.uptoBulk]⟩
    · cases h⟩
theorem Opn.str {n T : Nat} (hT : P.underlying T = some .string) : Opn enc P W n T (fun s : ByteArray => [.k (.string s)]) (fun s => s.size ≤ maxLen) (fun s => s.size + 1) := ⟨fun cs x h => by
  cases n with
  | zero => simp [DataW.trod] at h
  | succ n =>
    unfold DataW.trod at h
    rw [hT] at h
    split at h <;> rename_i hu <;> first | (cases hu; done) | skip
    all_goals first | cases h | skip
    split at h
    · rename_i hw
      cases h
      exact ⟨_, ⟨⟨rfl, .k _⟩, trivial⟩, hw, by simp [Rows.uptoBulk]⟩
    · cases h⟩
/-- A slice. -/
theorem Opn.sl {n T e k : Nat} {α : Type} {f : α → List V} {ok : α → Prop} {sz : α → Nat} (p : α → V) (hT : P.underlying T = some (.slice e)) (hc : P.cellsOf e = k) (hk : 0 < k) (hp : ∀ a, (p a).cells = f a) (h : Opn enc P W (n - 1) e f ok sz) :
    Opn enc P W n T (fun l : List α => [.s none (l.map p)]) (fun l => ∀ a ∈ l, ok a) (fun l => (l.map sz).sum + 1) := ⟨fun cs x hx => by
  cases n with
  | zero => simp [DataW.trod] at hx
  | succ n =>
    unfold DataW.trod at hx
    rw [hT] at hx
    split at hx <;> rename_i hu <;> first | (cases hu; done) | skip
    all_goals first | (cases hx; exact ⟨[], ⟨⟨rfl, .s0 (fun _ h => by cases h)⟩, trivial⟩, by simp, by simp [Rows.uptoBulk]⟩) | skip
    all_goals first | cases hx | skip
    cases hu
    rename_i a len cap
    simp only [hc] at hx
    split at hx
    · rename_i hb
      obtain ⟨_, hlc, hcm⟩ := hb
      obtain ⟨elems, he, hx⟩ := Option.bind_eq_some_iff.1 hx
      obtain ⟨rest, hr, hx⟩ := Option.map_eq_some_iff.1 hx
      subst hx
      obtain ⟨e1, e2⟩ := mapM_some he
      rw [List.length_range] at e1
      have key : ∀ j, j < len → ∃ y : α, (∃ b, elems[j]? = some b ∧ ok y ∧ sz y ≤ Rows.uptoBulk b.1) ∧ (f y).length = k ∧ ∀ i, i < k → ∃ u c, (f y)[i]? = some u ∧ W.cell? ((a.add (j * k)).add i) = some c ∧ u.one = true ∧ Rep W allS u c := fun j hj => by
        obtain ⟨b, h1, h2⟩ := e2 j j (by rw [List.getElem?_range hj])
        obtain ⟨ds, h3, h4⟩ := Option.bind_eq_some_iff.1 h2
        obtain ⟨y, k1, k2, k3⟩ := h.go ds b h4
        unfold World.cells? at h3
        split at h3
        · obtain ⟨m1, m2⟩ := mapM_some h3
          rw [List.length_range] at m1
          obtain ⟨l1, l2⟩ := k1.spec
          refine ⟨y, ⟨b, h1, k2, k3⟩, by omega, fun i hi => ?_⟩
          obtain ⟨c, c1, c2⟩ := m2 i i (by rw [List.getElem?_range hi])
          have hu : (f y)[i]? = some (f y)[i] := List.getElem?_eq_getElem (by omega)
          exact ⟨_, c, hu, c2, l2 i _ c hu c1⟩
        · cases h3
      obtain ⟨ys, hyl, hys⟩ := list_choose len key
      have hspot : 0 < cap → a.spot = none := fun h0 => by
        have : ∃ v : DataW H × List MemPlace, ((W.cells? 0 (a.add (0 * k)) k).bind (DataW.trod enc P W 0 (fun _ => true) true n e)) = some v := by
          rcases Nat.eq_zero_or_pos len with hl | hl
          · subst hl
            simp only [if_true] at hr
            obtain ⟨_, r2⟩ := mapM_some hr
            obtain ⟨v, _, hv⟩ := r2 0 0 (by rw [List.getElem?_range (by omega)])
            exact ⟨v, by simpa using hv⟩
          · obtain ⟨v, _, hv⟩ := e2 0 0 (by rw [List.getElem?_range hl])
            exact ⟨v, hv⟩
        obtain ⟨v, hv⟩ := this
        obtain ⟨ds, h3, _⟩ := Option.bind_eq_some_iff.1 hv
        unfold World.cells? at h3
        split at h3
        · obtain ⟨_, m2⟩ := mapM_some h3
          obtain ⟨c, _, c2⟩ := m2 0 0 (by rw [List.getElem?_range hk])
          obtain ⟨b, o, s⟩ := a
          cases s with
          | none => rfl
          | some s =>
            exfalso
            simp only [Addr.add, Nat.zero_mul] at c2
            simp [World.cell?] at c2
            split at c2 <;> simp at c2
        · cases h3
      refine ⟨ys, ⟨⟨rfl, ?_⟩, trivial⟩, fun y hy => ?_, ?_⟩
      · rcases Nat.eq_zero_or_pos cap with h0 | h0
        · obtain rfl : len = 0 := by omega
          subst h0
          have : ys = [] := List.eq_nil_of_length_eq_zero hyl
          subst this
          exact .se a (fun _ h => by cases h)
        · have hsp := hspot h0
          obtain ⟨b, o, s⟩ := a
          simp only at hsp
          subst hsp
          have hfl : ∀ y ∈ ys, (f y).length = k := fun y hy => by
            obtain ⟨j, hj⟩ := List.getElem?_of_mem hy
            exact (hys j y hj).2.1
          have hfe : (ys.map p).flatMap V.cells = ys.flatMap f := by
            rw [List.flatMap_map]
            congr 1
            funext y; exact hp y
          have hat : ∀ (J : Nat) u, (ys.flatMap f)[J]? = some u → ∃ c, W.cell? ⟨b, o + J, none⟩ = some c ∧ u.one = true ∧ Rep W allS u c := fun J u hu => by
            obtain ⟨y, h1, h2⟩ := flat_inv hk hfl hu
            obtain ⟨_, _, h3⟩ := hys _ y h1
            obtain ⟨u', c, k1, k2, k3⟩ := h3 (J % k) (Nat.mod_lt _ hk)
            rw [k1] at h2; cases h2
            rw [Addr.add_lit, Addr.add_lit, Nat.add_assoc, Nat.mul_comm, Nat.div_add_mod] at k2
            exact ⟨c, k2, k3⟩
          have hlen : (ys.map p).length = len := by simpa using hyl
          rw [← hlen]
          refine .s (size := k) (fun J => (W.cell? ⟨b, o + J, none⟩).getD undef) (by omega) hcm hk (fun v hv => ?_) (fun J u hu => ?_) (fun J u hu => ?_) (fun _ h => by cases h)
          · obtain ⟨y, hy, rfl⟩ := List.mem_map.1 hv
            rw [hp]
            refine ⟨hfl y hy, fun u hu => ?_⟩
            obtain ⟨J, hJ⟩ := List.getElem?_of_mem (List.mem_flatMap.2 ⟨y, hy, hu⟩)
            obtain ⟨_, _, h1, _⟩ := hat J u hJ
            exact h1
          · rw [hfe] at hu
            obtain ⟨c, h1, _⟩ := hat J u hu
            exact ⟨World.block_lt_of_cell? W ⟨b, o + J, none⟩ (by rw [h1]), trivial, by rw [h1]; rfl⟩
          · rw [hfe] at hu
            obtain ⟨c, h1, _, h2⟩ := hat J u hu
            rw [h1]
            exact h2
      · obtain ⟨j, hj⟩ := List.getElem?_of_mem hy
        obtain ⟨⟨b, _, h1, _⟩, _⟩ := hys j y hj
        exact h1
      · have := sum_le (f := sz) (g := fun x : DataW H × List MemPlace => Rows.uptoBulk x.1) (l := ys) (m := elems) (by omega) fun j y b hy hb => by
          obtain ⟨⟨b', hb', _, h1⟩, _⟩ := hys j y hy
          rw [hb] at hb'; cases hb'
          exact h1
        rw [sum_bulk] at this
        simp only [Rows.uptoBulk]
        omega
    · cases hx⟩
/-- A struct's fields, from a place on. -/
def tileB (P : Program) (total : Nat) : Nat → List Field → Bool
  | off, [] => Nat.beq off total
  | off, f :: r => Nat.beq f.offset off && tileB P total (off + P.cellsOf f.type) r
structure OpnFs (enc : TypeId × Value → H) (P : Program) (W : World) (n : Nat) (fs : List Field) {α : Type} (f : α → List V) (ok : α → Prop) (sz : α → Nat) : Prop where
  go : ∀ (total off : Nat) (cs : List Value) (xs : List (DataW H × List MemPlace)), tileB P total off fs = true → cs.length = total → (fs.mapM fun fl => DataW.trod enc P W 0 (fun _ => true) true n fl.type ((cs.drop fl.offset).take (P.cellsOf fl.type))) = some xs → ∃ a, RO W (f a) (cs.drop off) ∧ ok a ∧ sz a ≤ Rows.uptoBulkAll (xs.map (·.1))
theorem OpnFs.nil {n : Nat} : OpnFs enc P W n [] (fun _ : Unit => []) (fun _ => True) (fun _ => 0) := ⟨fun total off cs xs ht hl hx => by
  have : off = total := Nat.eq_of_beq_eq_true ht
  refine ⟨(), ?_, trivial, Nat.zero_le _⟩
  rw [List.drop_of_length_le (by omega)]
  trivial⟩
theorem OpnFs.cons {n : Nat} {fl : Field} {fs : List Field} {α β : Type} {f : α → List V} {ok : α → Prop} {sz : α → Nat} {f' : β → List V} {ok' : β → Prop} {sz' : β → Nat} (h : Opn enc P W n fl.type f ok sz) (k : OpnFs enc P W n fs f' ok' sz') :
    OpnFs enc P W n (fl :: fs) (fun x : α × β => f x.1 ++ f' x.2) (fun x => ok x.1 ∧ ok' x.2) (fun x => sz x.1 + sz' x.2) := ⟨fun total off cs xs ht hl hx => by
  simp only [tileB, Bool.and_eq_true] at ht
  have ho : fl.offset = off := Nat.eq_of_beq_eq_true ht.1
  simp only [List.mapM_cons, Option.bind_eq_bind, Option.pure_def] at hx
  obtain ⟨b, hb, hx⟩ := Option.bind_eq_some_iff.1 hx
  obtain ⟨bs, hbs, hx⟩ := Option.bind_eq_some_iff.1 hx
  cases hx
  obtain ⟨a, a1, a2, a3⟩ := h.go _ _ hb
  obtain ⟨c, c1, c2, c3⟩ := k.go _ _ _ _ ht.2 hl hbs
  refine ⟨(a, c), ?_, ⟨a2, c2⟩, by simp only [List.map_cons, Rows.uptoBulkAll]; omega⟩
  have := a1.append c1
  rw [ho, ← List.drop_drop, List.take_append_drop] at this
  exact this⟩
theorem Opn.st {n T : Nat} {fs : Array Field} {α : Type} {f : α → List V} {ok : α → Prop} {sz : α → Nat} (hT : P.underlying T = some (.struct fs)) (ht : tileB P (P.cellsOf T) 0 fs.toList = true) (h : OpnFs enc P W (n - 1) fs.toList f ok sz) :
    Opn enc P W n T f ok (fun a => sz a + 1) := ⟨fun cs x hx => by
  cases n with
  | zero => simp [DataW.trod] at hx
  | succ n =>
    have hx : (if cs.length = P.cellsOf T then (fs.toList.mapM fun fl => DataW.trod enc P W 0 (fun _ => true) true n fl.type ((cs.drop fl.offset).take (P.cellsOf fl.type))).map fun xs => (DataW.agg (xs.map (·.1)), xs.flatMap (·.2)) else none) = some x := by
      unfold DataW.trod at hx
      rw [hT] at hx
      exact hx
    split at hx
    · rename_i hl
      obtain ⟨xs, hxs, hx⟩ := Option.map_eq_some_iff.1 hx
      subst hx
      obtain ⟨a, h1, h2, h3⟩ := h.go _ _ _ _ ht hl hxs
      rw [List.drop_zero] at h1
      exact ⟨a, h1, h2, by simp only [Rows.uptoBulk]; omega⟩
    · cases hx⟩
/-- An array. -/
theorem Opn.ar {n T m e : Nat} {α : Type} {f : α → List V} {ok : α → Prop} {sz : α → Nat} (hT : P.underlying T = some (.array m e)) (hc : P.cellsOf T = m * P.cellsOf e) (h : Opn enc P W (n - 1) e f ok sz) :
    Opn enc P W n T (fun l : List α => l.flatMap f) (fun l => l.length = m ∧ ∀ a ∈ l, ok a) (fun l => (l.map sz).sum + 1) := ⟨fun cs x hx => by
  cases n with
  | zero => simp [DataW.trod] at hx
  | succ n =>
    have hx : (if cs.length = P.cellsOf T then ((List.range m).mapM fun i => DataW.trod enc P W 0 (fun _ => true) true n e ((cs.drop (i * P.cellsOf e)).take (P.cellsOf e))).map fun xs => (DataW.agg (xs.map (·.1)), xs.flatMap (·.2)) else none) = some x := by
      unfold DataW.trod at hx
      rw [hT] at hx
      exact hx
    split at hx
    · rename_i hl
      obtain ⟨xs, hxs, hx⟩ := Option.map_eq_some_iff.1 hx
      subst hx
      obtain ⟨e1, e2⟩ := mapM_some hxs
      rw [List.length_range] at e1
      obtain ⟨ys, hyl, hys⟩ := list_choose (p := fun j (y : α) => (∃ b, xs[j]? = some b ∧ ok y ∧ sz y ≤ Rows.uptoBulk b.1) ∧ RO W (f y) ((cs.drop (j * P.cellsOf e)).take (P.cellsOf e))) m fun j hj => by
        obtain ⟨b, h1, h2⟩ := e2 j j (by rw [List.getElem?_range hj])
        obtain ⟨y, k1, k2, k3⟩ := h.go _ b h2
        exact ⟨y, ⟨b, h1, k2, k3⟩, k1⟩
      refine ⟨ys, ?_, ⟨hyl, fun y hy => ?_⟩, ?_⟩
      · have hrf := range_flatten (s := P.cellsOf e) (n := m) (cs := cs) (by rw [hl, hc])
        rw [← hrf, List.flatMap]
        refine RO.flatten (by simp [hyl]) fun j us ds h1 h2 => ?_
        rw [List.getElem?_map] at h1 h2
        obtain ⟨y, hy, rfl⟩ := Option.map_eq_some_iff.1 h1
        obtain ⟨i, hi, rfl⟩ := Option.map_eq_some_iff.1 h2
        have hjl : j < m := by have := (List.getElem?_eq_some_iff.1 hy).1; omega
        rw [List.getElem?_range hjl] at hi
        cases hi
        exact (hys j y hy).2
      · obtain ⟨j, hj⟩ := List.getElem?_of_mem hy
        obtain ⟨⟨b, _, h1, _⟩, _⟩ := hys j y hj
        exact h1
      · have := sum_le (f := sz) (g := fun x : DataW H × List MemPlace => Rows.uptoBulk x.1) (l := ys) (m := xs) (by omega) fun j y b hy hb => by
          obtain ⟨⟨b', hb', _, h1⟩, _⟩ := hys j y hy
          rw [hb] at hb'; cases hb'
          exact h1
        rw [sum_bulk] at this
        simp only [Rows.uptoBulk]
        omega
    · cases hx⟩
/-! ### Arguments -/
/-- A struct or an array. -/
def aggT (P : Program) (t : Nat) : Bool :=
  match P.underlying t with
  | some (.struct _) | some (.array _ _) => true
  | _ => false
theorem Opn.argA {T base : Nat} {α : Type} {f : α → List V} {ok : α → Prop} {sz : α → Nat} {v : Value} {d : DataW H} {ps : List MemPlace} (h : ∀ n, Opn enc P W n T f ok sz) (ha : aggT P T = true) (hv : Value.okWide P W .any base T v) (ht : DataW.Trod enc P W 0 (fun _ => true) true T v d ps) :
    ∃ a, Rep W allS (.a (f a)) v ∧ ok a ∧ sz a ≤ Rows.uptoBulk d := by
  obtain ⟨n, hn⟩ := ht
  obtain ⟨a, h1, h2, h3⟩ := (h n).go _ _ hn
  obtain ⟨cs, rfl⟩ : ∃ cs, v = .agg cs := by
    unfold Value.okWide at hv
    unfold aggT at ha
    split at hv
    · obtain ⟨cs, rfl, _⟩ := hv; exact ⟨cs, rfl⟩
    · obtain ⟨cs, rfl, _⟩ := hv; exact ⟨cs, rfl⟩
    · rename_i k1 k2
      split at ha
      · rename_i fs hu; exact absurd hu (k1 fs)
      · rename_i m e hu; exact absurd hu (k2 m e)
      · cases ha
  obtain ⟨l1, l2⟩ := h1.spec
  refine ⟨a, .a (by simpa [Value.cells] using l1) (fun u hu => ?_) (fun j u x hj hx => ?_), h2, h3⟩
  · obtain ⟨j, hj⟩ := List.getElem?_of_mem hu
    have hjl := (List.getElem?_eq_some_iff.1 hj).1
    have hx : (Value.cells (.agg cs)).toList[j]? = some (Value.cells (.agg cs)).toList[j] := List.getElem?_eq_getElem (by omega)
    exact (l2 j u _ hj hx).1
  · exact (l2 j u x hj (by simpa [Value.cells] using hx)).2
theorem ro_one {u : V} {cs : List Value} (h : RO W [u] cs) : ∃ c, cs = [c] ∧ Rep W allS u c := by
  match cs, h with
  | [c], h => exact ⟨c, rfl, h.1.2⟩
theorem Opn.arg1 {T base : Nat} {α : Type} {p : α → V} {ok : α → Prop} {sz : α → Nat} {v : Value} {d : DataW H} {ps : List MemPlace} (h : ∀ n, Opn enc P W n T (fun a => [p a]) ok sz) (ha : (match P.underlying T with | some .bool | some (.int _) | some .string | some (.slice _) => true | _ => false) = true) (hv : Value.okWide P W .any base T v) (ht : DataW.Trod enc P W 0 (fun _ => true) true T v d ps) :
    ∃ a, Rep W allS (p a) v ∧ ok a ∧ sz a ≤ Rows.uptoBulk d := by
  obtain ⟨n, hn⟩ := ht
  obtain ⟨a, h1, h2, h3⟩ := (h n).go _ _ hn
  have hc : v.cells = #[v] := by
    split at ha
    · rename_i hu; obtain ⟨b, rfl⟩ := okWide_bool hu hv; rfl
    · rename_i k hu; obtain ⟨b, rfl⟩ := okWide_int hu hv; rfl
    · rename_i hu; obtain ⟨b, rfl⟩ := okWide_string hu hv; rfl
    · rename_i e hu; obtain ⟨x, y, z, rfl⟩ := okWide_slice hu hv; rfl
    · cases ha
  rw [hc] at h1
  obtain ⟨c, hc', hr⟩ := ro_one h1
  simp at hc'
  subst hc'
  exact ⟨a, hr, h2, h3⟩
/-! ### Plain types -/
theorem Opn.u8 {n T : Nat} (hT : P.underlying T = some (.int .u8)) : Opn enc P W n T (fun b : UInt8 => [bK b]) (fun _ => True) (fun _ => 1) :=
  (Opn.int hT).map (fun z => UInt8.ofNat z.toNat) (fun z hz => by
    have h0 : IntKind.u8.min = 0 := rfl
    have h1 : IntKind.u8.max = 255 := rfl
    have e : (UInt8.ofNat z.toNat).toNat = z.toNat := UInt8.toNat_ofNat_of_lt (by show _ < 256; omega)
    have : ((z.toNat : Nat) : Int) = z := by omega
    simp only [bK, e, this]) (fun _ _ => trivial) fun _ _ => Nat.le_refl _
theorem Opn.u64 {n T : Nat} (hT : P.underlying T = some (.int .u64)) : Opn enc P W n T (fun b : UInt64 => [qK b]) (fun _ => True) (fun _ => 1) :=
  (Opn.int hT).map (fun z => UInt64.ofNat z.toNat) (fun z hz => by
    have h0 : IntKind.u64.min = 0 := rfl
    have h1 : IntKind.u64.max = 18446744073709551615 := rfl
    have e : (UInt64.ofNat z.toNat).toNat = z.toNat := UInt64.toNat_ofNat_of_lt (by show _ < 18446744073709551616; omega)
    have : ((z.toNat : Nat) : Int) = z := by omega
    simp only [qK, e, this]) (fun _ _ => trivial) fun _ _ => Nat.le_refl _
theorem Opn.i64 {n T : Nat} (hT : P.underlying T = some (.int .i64)) : Opn enc P W n T (fun z : Int => [.k (.int .i64 z)]) (fun z => -9223372036854775808 ≤ z ∧ z ≤ 9223372036854775807) (fun _ => 1) :=
  (Opn.int hT).map id (fun _ _ => rfl) (fun _ hz => hz) fun _ _ => Nat.le_refl _
theorem sum_map_one {α : Type} (l : List α) : (l.map fun _ => 1).sum = l.length := by induction l with
  | nil => rfl
  | cons a l ih => simp [ih]; omega
theorem flatMap_one {α : Type} (g : α → V) (l : List α) : l.flatMap (fun a => [g a]) = l.map g := by
  induction l with
  | nil => rfl
  | cons a l ih => rw [List.flatMap_cons, List.map_cons, ih]; rfl
/-- Bytes. -/
theorem Opn.bytes {n T e : Nat} (hT : P.underlying T = some (.slice e)) (hE : P.underlying e = some (.int .u8)) (hc : P.cellsOf e = 1) : Opn enc P W n T (fun l : List UInt8 => [.s none (l.map bK)]) (fun _ => True) (fun l => l.length + 1) :=
  (Opn.sl bK hT hc (by decide) (fun _ => rfl) (Opn.u8 hE)).map id (fun _ _ => rfl) (fun _ _ => trivial) fun l _ => by rw [sum_map_one]; exact Nat.le_refl _
theorem Opn.u64s {n T e : Nat} (hT : P.underlying T = some (.slice e)) (hE : P.underlying e = some (.int .u64)) (hc : P.cellsOf e = 1) : Opn enc P W n T (fun l : List UInt64 => [.s none (l.map qK)]) (fun _ => True) (fun l => l.length + 1) :=
  (Opn.sl qK hT hc (by decide) (fun _ => rfl) (Opn.u64 hE)).map id (fun _ _ => rfl) (fun _ _ => trivial) fun l _ => by rw [sum_map_one]; exact Nat.le_refl _
/-- An array of bytes, or of numbers. -/
theorem Opn.arr8 {n T e m : Nat} (hT : P.underlying T = some (.array m e)) (hE : P.underlying e = some (.int .u8)) (hc : P.cellsOf T = m * P.cellsOf e) : Opn enc P W n T (fun l : List UInt8 => l.map bK) (fun l => l.length = m) (fun l => l.length + 1) :=
  (Opn.ar hT hc (Opn.u8 hE)).map id (fun l _ => (flatMap_one bK l).symm) (fun _ h => h.1) fun l _ => by rw [sum_map_one]; exact Nat.le_refl _
theorem Opn.arr64 {n T e m : Nat} (hT : P.underlying T = some (.array m e)) (hE : P.underlying e = some (.int .u64)) (hc : P.cellsOf T = m * P.cellsOf e) : Opn enc P W n T (fun l : List UInt64 => l.map qK) (fun l => l.length = m) (fun l => l.length + 1) :=
  (Opn.ar hT hc (Opn.u64 hE)).map id (fun l _ => (flatMap_one qK l).symm) (fun _ h => h.1) fun l _ => by rw [sum_map_one]; exact Nat.le_refl _
end
end Lf
end Go.Proofs.YtgbgplijpomkeaaDoor

/- CodeJoin: the law's function answers true at every input of bulk at most 1048576, and touches no old memory; from its walk to the given statement. Conditions: the statement's own bound, nothing else. -/
namespace Go.Proofs.YtgbgplijpomkeaaDoor.lawCodeJoin
open Go.ChangeShapes Go.WideShapes Go.ChangeAt Go.RowKit Rp
set_option linter.unusedVariables false

theorem own : ownKnob Tryd.prog.godebug = none := by kernel_rfl
theorem laid : laidOutB Tryd.prog = true := by kernel_rfl
theorem rd_x0 : Tryd.prog.readableRec 22 = true ∧ 22 < Tryd.prog.types.size := ⟨by kernel_rfl, of_decide_eq_true (by kernel_rfl)⟩
theorem rds : ∀ t ∈ ([22, 22] : List Nat), Tryd.prog.readableRec t = true ∧ t < Tryd.prog.types.size := by
  intro t ht
  rcases List.mem_cons.1 ht with rfl | ht
  · exact rd_x0
  rcases List.mem_cons.1 ht with rfl | ht
  · exact rd_x0
  cases ht

theorem tabs (W : World) (hL : laidMet Tryd.prog Rows.codeJoinUptoRow.laid W) : Lf.TabAt W fun _ _ => True := by
  have hL := laidMet.tail hL
  have h0 : Lib.TabIs Tryd.prog W "math/bits.deBruijn64tab" .u8 [0, 1, 56, 2, 57, 49, 28, 3, 61, 58, 42, 50, 38, 29, 17, 4, 62, 47, 59, 36, 45, 43, 51, 22, 53, 39, 33, 30, 24, 18, 12, 5, 63, 55, 48, 27, 60, 41, 37, 16, 46, 35, 44, 21, 52, 32, 23, 11, 54, 26, 40, 15, 34, 20, 31, 10, 25, 14, 19, 9, 13, 8, 7, 6] := Lib.tabIs_of_head (g := 3) (t := 80) (e := 5) (n := 64) (by kernel_rfl) (by kernel_rfl) (by kernel_rfl) (by kernel_rfl) (by kernel_rfl) (by kernel_rfl) hL
  intro n xs hn j x hx
  have hn' : (n, xs) ∈ [(3, ([0, 1, 56, 2, 57, 49, 28, 3, 61, 58, 42, 50, 38, 29, 17, 4, 62, 47, 59, 36, 45, 43, 51, 22, 53, 39, 33, 30, 24, 18, 12, 5, 63, 55, 48, 27, 60, 41, 37, 16, 46, 35, 44, 21, 52, 32, 23, 11, 54, 26, 40, 15, 34, 20, 31, 10, 25, 14, 19, 9, 13, 8, 7, 6] : List Int).map fun z => Value.int .u8 z)] := hn
  rw [List.mem_singleton] at hn'
  obtain ⟨rfl, rfl⟩ := Prod.mk.inj hn'
  have hj := (List.getElem?_eq_some_iff.1 hx).1
  rw [List.length_map] at hj
  have hc := h0.cell (g := 3) (by kernel_rfl) j hj
  have e : x = Value.int .u8 (([0, 1, 56, 2, 57, 49, 28, 3, 61, 58, 42, 50, 38, 29, 17, 4, 62, 47, 59, 36, 45, 43, 51, 22, 53, 39, 33, 30, 24, 18, 12, 5, 63, 55, 48, 27, 60, 41, 37, 16, 46, 35, 44, 21, 52, 32, 23, 11, 54, 26, 40, 15, 34, 20, 31, 10, 25, 14, 19, 9, 13, 8, 7, 6] : List Int).getD j 0) := by
    rw [List.getElem?_map, List.getElem?_eq_getElem hj] at hx
    rw [List.getD_eq_getElem?_getD, List.getElem?_eq_getElem hj]
    exact (Option.some.inj hx).symm
  rw [e]
  exact ⟨World.block_lt_of_cell? W ⟨3, j, none⟩ (by rw [hc]), trivial, hc⟩
set_option maxRecDepth 100000 in
theorem contract (H : Type) (enc : TypeId × Value → H) (W : World) (base : Nat) (args : Array Value) (ds gs : List (DataW H)) (before : List MemPlace)
    (hval : ∀ (j : Nat) t v, Tryd.f7.params[j]? = some t → args[j]? = some v → Value.okWide Tryd.prog W .any base t v)
    (hW : DataW.Whole enc Tryd.prog Tryd.f7.params.toList Rows.codeJoinSpec.vars false W args.toList ds gs before) (hk : Rows.uptoSmall H (ds ++ gs) = true) (hL : laidMet Tryd.prog Rows.codeJoinUptoRow.laid W) :
    Calls Tryd.prog 7 args W fun e W' => ∃ v, e = .returned v ∧ Rows.codeJoinSpec.post enc Tryd.prog Tryd.f7 false true false false W args v W' := by
  have hW0 := hW
  obtain ⟨p, q, hA0, hV, rfl, hfz, hnd⟩ := hW
  have hA : DataW.TrodAll enc Tryd.prog W 0 (fun _ => true) true Tryd.f7.params.toList args.toList ds p := hA0
  rw [Tryd.params7] at hA hval
  obtain ⟨v0, vs0, d0, ds0, p0, q0, hargs, rfl, rfl, h0, r0⟩ := trodAll_cons hA
  obtain ⟨v1, vs1, d1, ds1, p1, q1, rfl, rfl, rfl, h1, r1⟩ := trodAll_cons r0
  obtain ⟨rfl, rfl, rfl⟩ := trodAll_nil r1
  obtain rfl : args = #[v0, v1] := by cases args; simp_all
  obtain ⟨rfl, rfl⟩ := trodVars_none hV
  have hbulk : Rows.uptoBulkAll [d0, d1] ≤ 1048576 := by simpa only [List.append_nil] using of_decide_eq_true hk
  simp only [Rows.uptoBulkAll] at hbulk
  obtain ⟨x0, hr0, hk0, hs0⟩ := Lf.Opn.arg1 (fun m => Lf.Opn.bytes (e := 5) (by kernel_rfl) (by kernel_rfl) (by kernel_rfl)) (by kernel_rfl) (hval 0 22 v0 rfl rfl) h0
  obtain ⟨x1, hr1, hk1, hs1⟩ := Lf.Opn.arg1 (fun m => Lf.Opn.bytes (e := 5) (by kernel_rfl) (by kernel_rfl) (by kernel_rfl)) (by kernel_rfl) (hval 1 22 v1 rfl rfl) h1
  refine (Lf.LF.holds (Lf.Cw.CodeJoin x0 x1 (by omega) (by omega)) W [v0, v1] ⟨hr0, hr1, trivial⟩ (tabs W hL)).mono fun e W' ⟨he, hx⟩ => ⟨_, he, Fr.post_of_below laid hW0 rfl rfl (by rw [Tryd.params7]; exact rds) (tb := 4) rfl (by kernel_rfl) hx⟩

abbrev witA : Array Value := #[.slice none 0 0, .slice none 0 0]
noncomputable def laidWorld (os : Os) : World :=
  { World.holding Tryd.prog os ⟨#[], #[], []⟩ with heap := ((((World.holding Tryd.prog os ⟨#[], #[], []⟩).heap.modify 2 fun | .cells _ t frozen => .cells #[.int .u8 0, .int .u8 1, .int .u8 28, .int .u8 2, .int .u8 29, .int .u8 14, .int .u8 24, .int .u8 3, .int .u8 30, .int .u8 22, .int .u8 20, .int .u8 15, .int .u8 25, .int .u8 17, .int .u8 4, .int .u8 8, .int .u8 31, .int .u8 27, .int .u8 13, .int .u8 23, .int .u8 21, .int .u8 19, .int .u8 16, .int .u8 7, .int .u8 26, .int .u8 12, .int .u8 18, .int .u8 6, .int .u8 11, .int .u8 5, .int .u8 10, .int .u8 9] t frozen | o => o).modify 3 fun | .cells _ t frozen => .cells #[.int .u8 0, .int .u8 1, .int .u8 56, .int .u8 2, .int .u8 57, .int .u8 49, .int .u8 28, .int .u8 3, .int .u8 61, .int .u8 58, .int .u8 42, .int .u8 50, .int .u8 38, .int .u8 29, .int .u8 17, .int .u8 4, .int .u8 62, .int .u8 47, .int .u8 59, .int .u8 36, .int .u8 45, .int .u8 43, .int .u8 51, .int .u8 22, .int .u8 53, .int .u8 39, .int .u8 33, .int .u8 30, .int .u8 24, .int .u8 18, .int .u8 12, .int .u8 5, .int .u8 63, .int .u8 55, .int .u8 48, .int .u8 27, .int .u8 60, .int .u8 41, .int .u8 37, .int .u8 16, .int .u8 46, .int .u8 35, .int .u8 44, .int .u8 21, .int .u8 52, .int .u8 32, .int .u8 23, .int .u8 11, .int .u8 54, .int .u8 26, .int .u8 40, .int .u8 15, .int .u8 34, .int .u8 20, .int .u8 31, .int .u8 10, .int .u8 25, .int .u8 14, .int .u8 19, .int .u8 9, .int .u8 13, .int .u8 8, .int .u8 7, .int .u8 6] t frozen | o => o).modify 0 fun | .cells _ t frozen => .cells #[.int .u64 1, .int .u64 10, .int .u64 100, .int .u64 1000, .int .u64 10000, .int .u64 100000, .int .u64 1000000, .int .u64 10000000, .int .u64 100000000, .int .u64 1000000000, .int .u64 10000000000, .int .u64 100000000000, .int .u64 1000000000000, .int .u64 10000000000000, .int .u64 100000000000000, .int .u64 1000000000000000, .int .u64 10000000000000000, .int .u64 100000000000000000, .int .u64 1000000000000000000, .int .u64 10000000000000000000] t frozen | o => o) }
theorem laid_met (os : Os) : laidMet Tryd.prog Rows.codeJoinUptoRow.laid ((laidWorld os).forCall (fun _ _ => 0) ⟨#[], witA, []⟩).memory :=
  laidMet_of_run' 8 (by kernel_rfl) (by kernel_rfl)
theorem reads (os : Os) {H : Type} (enc : TypeId × Value → H) : ∃ places, DataW.whole enc Tryd.prog ((laidWorld os).forCall (fun _ _ => 0) ⟨#[], witA, []⟩).memory Tryd.f7.params.toList Rows.codeJoinSpec.vars false (witA : Array Value).toList 8 = some ([.nil, .nil], [], places) :=
  ⟨[], by kernel_rfl⟩
set_option maxRecDepth 100000 in
theorem lifted (os : Os) (started : os.Started) (H : Type) (enc : TypeId × Value → H) (F : Stop.Interp) :
    ReturnsInHanded {} Tryd.checked os 7 .any ((Rows.OpenSpec.upto Rows.codeJoinSpec).preRow enc Tryd.prog Tryd.f7 Rows.codeJoinUptoRow.domain false Rows.codeJoinUptoRow.laid) (((Rows.OpenSpec.upto Rows.codeJoinSpec).at F).post enc Tryd.prog Tryd.f7 false true false false) := by
  obtain ⟨places, hx⟩ := reads os enc
  refine returnsInHanded_of_row (C := Tryd.checked) (s := Rows.OpenSpec.upto Rows.codeJoinSpec) own started (by kernel_rfl) Tryd.func7
    (witness_row_at (enc := enc) (C := Tryd.checked) false (laidWorld os) witA rfl (by kernel_rfl) (by kernel_rfl) (by kernel_rfl)
      (OpenSpec.preRow_of_cond 8 hx (by kernel_rfl) (fun k hk => by cases hk; kernel_rfl) (by kernel_rfl) (laid_met os))) ?_
  intro W base args ds gs before hval hW _ hcond _ hL _ _
  exact contract H enc W base args ds gs before hval hW (hcond _ rfl) hL
theorem said : Rows.CodeJoinUptoSaid :=
  OpenClaim.holds_of_cond 7 Tryd.f7 rfl rfl rfl rfl rfl rfl rfl ⟨rfl, rfl, rfl, rfl, rfl⟩ rfl rfl rfl rfl rfl (by kernel_rfl) Tryd.func7 (by kernel_rfl)
    (of_decide_eq_true (by kernel_rfl)) (by unfold Func.isWrapper; first | (rw [if_pos (by decide +kernel)]; kernel_rfl) | (rw [if_neg (by decide +kernel)]; exact ⟨rfl, rfl⟩))
    (fun os started H enc _ F => by rw [OpenClaim.pre_eq_preRow]; exact lifted os started H enc F)
theorem plain (f : FuncId) (fn : Func) (hf : Tryd.pinned.checked.prog.funcNamed "lampbearer/lampbearerkeep.CodeJoin" = some f) (hfn : Tryd.pinned.checked.prog.funcs[f]? = some fn) :
    false = Tryd.pinned.checked.prog.looks [] ∧ ∀ (j : Nat) t, fn.params[j]? = some t → Tryd.pinned.checked.prog.wantsStandIn t = false := by
  obtain rfl : f = 7 := Option.some.inj ((show Tryd.prog.funcNamed "lampbearer/lampbearerkeep.CodeJoin" = some 7 by kernel_rfl).symm.trans hf) |>.symm
  obtain rfl : fn = Tryd.f7 := (Option.some.inj (Tryd.func7.symm.trans hfn)).symm
  refine ⟨by kernel_rfl, fun j t ht => ?_⟩
  rw [Tryd.params7] at ht
  have hm : t ∈ [22, 22] := by simpa using Array.mem_of_getElem? ht
  have ha : ∀ t ∈ ([22, 22] : List Nat), Tryd.prog.wantsStandIn t = false := by
    intro t ht
    rcases List.mem_cons.1 ht with rfl | ht
    · exact (show Tryd.prog.wantsStandIn 22 = false by kernel_rfl)
    rcases List.mem_cons.1 ht with rfl | ht
    · exact (show Tryd.prog.wantsStandIn 22 = false by kernel_rfl)
    cases ht
  exact ha t hm
/-- The card. -/
theorem proved : Rows.CodeJoinUptoCardSaid :=
  Claim7.holds_tied_plain_at .later [] _ _ _ _ said (fun _ h => by cases h) (by kernel_rfl) (fun _ h => by cases h) codeJoinUpto_row_tie rfl ⟨rfl, rfl⟩ (by kernel_rfl) rfl plain (by kernel_rfl)
end Go.Proofs.YtgbgplijpomkeaaDoor.lawCodeJoin

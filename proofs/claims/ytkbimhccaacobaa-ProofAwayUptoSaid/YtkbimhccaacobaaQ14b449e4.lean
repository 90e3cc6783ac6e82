/- A part of the proof: texts joined. -/
import Derived.Shelf.Bits.Mul64
import Derived.Test.YtkbimhccaacobaaQ13b837b7
namespace Go.Proofs.Ytkbimhccaacobaa
open Go.RowKit Rg Wm Ar
set_option linter.unusedVariables false
set_option maxRecDepth 100000
namespace Lf
open Tr Ro
namespace Te
set_option maxHeartbeats 1000000 in
theorem wrongB_ (p : List UInt8) (hp : p.length < 1000000000) : LF Try.prog 100 [bV p] (fun _ => .k (.bool (!halvesB p))) none := by
  refine LFx.mk' tt Try.func100 rfl rfl rfl (by kernel_rfl) rfl rfl fun F => ?_
  refine wk ?_ trueW trueW
  refine LC.loopN (fun i => [(5, bV p), (6, .k (.int .i64 ((p.length : Nat) : Int))), (7, .k (.int .i64 ((i : Nat) : Int)))]) (fun i => []) (fun i => i ≤ p.length ∧ ∀ j, j < i → (p.getD j default).toNat ≤ 15) ((p.length - ·)) (0) ⟨by omega, fun j hj => by omega⟩ ⟨rfl, rfl, rfl, trivial⟩ trivial rfl rfW rfW ?_
  rintro i ⟨hi, hall⟩
  rcases Nat.lt_or_ge i p.length with h | h
  · by_cases hb : (p.getD i default).toNat ≤ 15
    · have hok : i + 1 ≤ p.length ∧ ∀ j, j < i + 1 → (p.getD j default).toNat ≤ 15 := ⟨h, fun j hj => by
        by_cases e : j = i
        · subst e; exact hb
        · exact hall j (by omega)⟩
      clear hall
      exact wk trueW trueW trueW
    · have hF : halvesB p = false := by
        rw [← Bool.not_eq_true]
        exact fun hh => hb (of_decide_eq_true (getD_lt hh h))
      rw [hF, Bool.not_false]
      clear hall hF
      exact wk trueW trueW trueW
  · obtain rfl : i = p.length := by omega
    have hT : halvesB p = true := all_getD fun i hi => decide_eq_true (hall i hi)
    rw [hT, Bool.not_true]
    clear hall hT
    exact wk trueW trueW trueW
set_option maxHeartbeats 1000000 in
theorem Tag_no (p : List UInt8) (leaf : Bool) (hp : p.length < 1000000000) (h : halvesB p = false) : LF Try.prog 85 [bV p, .k (.bool leaf)] (fun _ => .t [bV [], .k (.int .i64 1)]) none := by
  have c1 := wrongB_ p hp
  rw [h, Bool.not_false] at c1
  clear h
  refine LFx.mk' tt Try.func85 rfl rfl rfl (by kernel_rfl) rfl rfl fun F => ?_
  exact wk trueW trueW trueW
theorem or2_0 : IntKind.u8.wrap (((BitVec.ofInt IntKind.u8.bits ((0 : Nat) : Int) ||| BitVec.ofInt IntKind.u8.bits 2).toNat : Nat) : Int) = ((UInt8.ofNat 2).toNat : Int) := by decide
theorem or2_1 : IntKind.u8.wrap (((BitVec.ofInt IntKind.u8.bits ((1 : Nat) : Int) ||| BitVec.ofInt IntKind.u8.bits 2).toNat : Nat) : Int) = ((UInt8.ofNat 3).toNat : Int) := by decide
theorem tag_head (p : Pa) (leaf : Bool) : pB (tagPa p leaf) = UInt8.ofNat (p.length % 2 + (if leaf then 2 else 0)) :: (if p.length % 2 = 0 then [UInt8.ofNat 0] ++ pB p else pB p) := by
  unfold tagPa
  split <;> rfl
set_option maxHeartbeats 1000000 in
theorem Tag_ (p : Pa) (leaf : Bool) (hp : p.length < 100000000) : LF Try.prog 85 [bV (pB p), .k (.bool leaf)] (fun _ => .t [bV (tag p leaf), .k (.int .i64 0)]) none := by
  have hpl := pB_len p
  have c1 := wrong_ p (by omega)
  have c2 := Join_ (tagPa p leaf) (by have := tagPa_len p leaf; omega) (tagPa_even p leaf)
  rw [show keyB (tagPa p leaf) = tag p leaf from rfl, tag_head] at c2
  have o0 := or2_0
  have o1 := or2_1
  generalize tag p leaf = T at *
  rcases Nat.mod_two_eq_zero_or_one p.length with h | h
  · have ht : ((pB p).length : Int).tmod 2 = ((0 : Nat) : Int) := by
      show (((pB p).length % 2 : Nat) : Int) = ((0 : Nat) : Int)
      omega
    rw [if_pos h, h] at c2
    cases leaf
    · replace c2 : LF Try.prog 67 [.s none ([.k (.int .u8 ((0 : Nat) : Int))] ++ [.k (.int .u8 0)] ++ (pB p).map bK)] (fun _ => .t [bV T, .k (.int .i64 0)]) none := c2
      refine LFx.mk' tt Try.func85 rfl rfl rfl (by kernel_rfl) rfl rfl fun F => ?_
      exact wk trueW trueW trueW
    · replace c2 : LF Try.prog 67 [.s none ([bK (UInt8.ofNat 2)] ++ [.k (.int .u8 0)] ++ (pB p).map bK)] (fun _ => .t [bV T, .k (.int .i64 0)]) none := c2
      refine LFx.mk' tt Try.func85 rfl rfl rfl (by kernel_rfl) rfl rfl fun F => ?_
      exact wk trueW trueW trueW
  · have ht : ((pB p).length : Int).tmod 2 = ((1 : Nat) : Int) := by
      show (((pB p).length % 2 : Nat) : Int) = ((1 : Nat) : Int)
      omega
    rw [h, if_neg (show ¬ (1 : Nat) = 0 by decide)] at c2
    cases leaf
    · replace c2 : LF Try.prog 67 [.s none ([.k (.int .u8 ((1 : Nat) : Int))] ++ (pB p).map bK)] (fun _ => .t [bV T, .k (.int .i64 0)]) none := c2
      refine LFx.mk' tt Try.func85 rfl rfl rfl (by kernel_rfl) rfl rfl fun F => ?_
      exact wk trueW trueW trueW
    · replace c2 : LF Try.prog 67 [.s none ([bK (UInt8.ofNat 3)] ++ (pB p).map bK)] (fun _ => .t [bV T, .k (.int .i64 0)]) none := c2
      refine LFx.mk' tt Try.func85 rfl rfl rfl (by kernel_rfl) rfl rfl fun F => ?_
      exact wk trueW trueW trueW
end Te
end Lf
open Go.RowKit Rg Wm Ar
set_option linter.unusedVariables false
set_option maxRecDepth 100000
namespace Lf
open Tr Ro
namespace Te
set_option maxHeartbeats 1000000 in
theorem Untag_in (b L : List UInt8) (x : Nat) (hx : x < 16) (hb : b.length < 1000000000) (hl : 2 ≤ L.length) (hm : L.length < 4000000000) (c1 : LF Try.prog 60 [bV b] (fun _ => bV L) none) (f0 : ((L.getD 0 default).toNat : Int) = ((x : Nat) : Int)) (f1 : ((L.getD 0 default &&& UInt8.ofNat 1).toNat : Int) = ((x % 2 : Nat) : Int)) (f2 : ((L.getD 0 default &&& UInt8.ofNat 2).toNat : Int) = ((x / 2 % 2 * 2 : Nat) : Int)) :
    (3 < x → LF Try.prog 90 [bV b] (fun _ => .t [bV [], .k (.bool false), .k (.int .i64 1)]) none) ∧
    (x ≤ 3 → x % 2 = 0 → (L.getD 1 default).toNat ≠ 0 → LF Try.prog 90 [bV b] (fun _ => .t [bV [], .k (.bool false), .k (.int .i64 1)]) none) ∧
    (x ≤ 3 → x % 2 = 0 → (L.getD 1 default).toNat = 0 → LF Try.prog 90 [bV b] (fun _ => .t [bV (L.drop 2), .k (.bool (decide (2 ≤ x))), .k (.int .i64 0)]) none) ∧
    (x ≤ 3 → x % 2 = 1 → LF Try.prog 90 [bV b] (fun _ => .t [bV (L.drop 1), .k (.bool (decide (2 ≤ x))), .k (.int .i64 0)]) none) := by
  refine ⟨fun h1 => ?_, fun h1 h2 h3 => ?_, fun h1 h2 h3 => ?_, fun h1 h2 => ?_⟩
  · refine LFx.mk' tt Try.func90 rfl rfl rfl (by kernel_rfl) rfl rfl fun F => ?_
    exact wk trueW trueW trueW
  · refine LFx.mk' tt Try.func90 rfl rfl rfl (by kernel_rfl) rfl rfl fun F => ?_
    exact wk trueW trueW trueW
  · by_cases h4 : 2 ≤ x
    · rw [decide_eq_true h4]
      refine LFx.mk' tt Try.func90 rfl rfl rfl (by kernel_rfl) rfl rfl fun F => ?_
      exact wk trueW trueW trueW
    · rw [decide_eq_false h4]
      refine LFx.mk' tt Try.func90 rfl rfl rfl (by kernel_rfl) rfl rfl fun F => ?_
      exact wk trueW trueW trueW
  · by_cases h4 : 2 ≤ x
    · rw [decide_eq_true h4]
      refine LFx.mk' tt Try.func90 rfl rfl rfl (by kernel_rfl) rfl rfl fun F => ?_
      exact wk trueW trueW trueW
    · rw [decide_eq_false h4]
      refine LFx.mk' tt Try.func90 rfl rfl rfl (by kernel_rfl) rfl rfl fun F => ?_
      exact wk trueW trueW trueW
set_option maxHeartbeats 1000000 in
theorem Untag_nil : LF Try.prog 90 [bV []] (fun _ => .t [bV [], .k (.bool false), .k (.int .i64 1)]) none := by
  have c1 := Halves_ [] (by decide)
  rw [show pB (keyP []) = [] from rfl] at c1
  refine LFx.mk' tt Try.func90 rfl rfl rfl (by kernel_rfl) rfl rfl fun F => ?_
  exact wk trueW trueW trueW
theorem half_and (x : Fin 16) : ((UInt8.ofNat x.val &&& UInt8.ofNat 1).toNat : Int) = ((x.val % 2 : Nat) : Int) ∧ ((UInt8.ofNat x.val &&& UInt8.ofNat 2).toNat : Int) = ((x.val / 2 % 2 * 2 : Nat) : Int) := by
  have h : ∀ x : Fin 16, (UInt8.ofNat x.val &&& UInt8.ofNat 1).toNat = x.val % 2 ∧ (UInt8.ofNat x.val &&& UInt8.ofNat 2).toNat = x.val / 2 % 2 * 2 := by decide
  exact ⟨congrArg Int.ofNat (h x).1, congrArg Int.ofNat (h x).2⟩
theorem Untag_ (b : List UInt8) (hb : b.length < 1000000000) : (untag b = none → LF Try.prog 90 [bV b] (fun _ => .t [bV [], .k (.bool false), .k (.int .i64 1)]) none) ∧
    ∀ q leaf, untag b = some (q, leaf) → LF Try.prog 90 [bV b] (fun _ => .t [bV (pB q), .k (.bool leaf), .k (.int .i64 0)]) none := by
  have c1 := Halves_ b hb
  have hlen := keyP_len b
  unfold untag
  cases b with
  | nil => exact ⟨fun _ => Untag_nil, fun q leaf h => (by cases h)⟩
  | cons a r =>
    match hk : keyP (a :: r), hlen with
    | [], hlen => simp at hlen
    | [_], hlen => simp at hlen; omega
    | x :: y :: s, hlen =>
      rw [hk] at c1
      obtain ⟨g1, g2⟩ := half_and x
      have hg0 : ((pB (x :: y :: s)).getD 0 default).toNat = x.val := half_byte x
      have hg1 : ((pB (x :: y :: s)).getD 1 default).toNat = y.val := half_byte y
      obtain ⟨u1, u2, u3, u4⟩ := Untag_in (a :: r) (pB (x :: y :: s)) x.val x.isLt hb (by rw [pB_len]; simp) (by rw [pB_len, hlen]; omega) c1 (by rw [hg0]) g1 g2
      rw [untagPa_cons]
      by_cases h3 : 3 < x.val
      · rw [if_pos h3]; exact ⟨fun _ => u1 h3, fun q leaf h => (by cases h)⟩
      · rw [if_neg h3]
        by_cases h4 : x.val % 2 = 0
        · rw [if_pos h4]
          by_cases h5 : y.val = 0
          · rw [if_pos h5]; exact ⟨fun h => (by cases h), fun q leaf h => (by cases h; exact u3 (by omega) h4 (by rw [hg1, h5]))⟩
          · rw [if_neg h5]; exact ⟨fun _ => u2 (by omega) h4 (by rw [hg1]; exact h5), fun q leaf h => (by cases h)⟩
        · rw [if_neg h4]; exact ⟨fun h => (by cases h), fun q leaf h => (by cases h; exact u4 (by omega) (by omega))⟩
end Te
end Lf
open Go.RowKit
namespace Rf
open Rg (noCall noCall_spec np wp_monoQ wpOp_monoQ Closed Closed.step waits waitsB waits_listed nth pick freeW chkS chkT chk planSize nth_of)
structure Ext (F : Nat → Prop) (w w' : World) : Prop where
  size : w.heap.size ≤ w'.heap.size
  block : ∀ k, k < w.heap.size → F k → w'.heap[k]? = w.heap[k]?
theorem Ext.refl {F : Nat → Prop} (w : World) : Ext F w w := ⟨Nat.le_refl _, fun _ _ _ => rfl⟩
theorem Ext.trans {F : Nat → Prop} {a b c : World} (h : Ext F a b) (k : Ext F b c) : Ext F a c := ⟨Nat.le_trans h.size k.size, fun i hi hF => (k.block i (Nat.lt_of_lt_of_le hi h.size) hF).trans (h.block i hi hF)⟩
theorem Ext.of {F : Nat → Prop} {w w' : World} (h : Rg.Ext w w') : Ext F w w' := ⟨h.size, fun k hk _ => h.block k hk⟩
theorem Ext.setCell {F : Nat → Prop} (w : World) (p : Addr) (u : Value) (h : ¬ F p.block) : Ext F w (w.setCell p u) :=
  ⟨by simp, fun k _ hF => Below.heap_setCell w p u k (fun e => h (e ▸ hF))⟩
theorem Ext.setRow {F : Nat → Prop} (w : World) (g : Nat) (cs : Array Value) (h : ¬ F g) : Ext F w (w.setRow g cs) :=
  ⟨by simp, fun k _ hF => setRow_other w g k cs (fun e => h (e ▸ hF))⟩
structure Lt (F : Nat → Prop) (w : World) where
  v : World
  ext : Ext F w v
instance (F : Nat → Prop) (w : World) : Nonempty (Lt F w) := ⟨⟨w, Ext.refl w⟩⟩
def Cls (F : Nat → Prop) (w : World) (w' : World) : Prop := ∃ x : Lt F w, w' = x.v
theorem Cls.mk {F : Nat → Prop} {w w' : World} (h : Ext F w w') : Cls F w w' := ⟨⟨w', h⟩, rfl⟩
theorem Ext.cell {F : Nat → Prop} {w w' : World} (h : Ext F w w') {a : Addr} {v : Value} (hc : w.cell? a = some v) (hF : F a.block) : w'.cell? a = some v := by
  rw [World.cell?_of_block (w := w) (h.block a.block (World.block_lt_of_cell? w a hc) hF)]; exact hc
theorem later {F : Nat → Prop} {w : World} {a : Addr} {v : Value} (hc : w.cell? a = some v) (hF : F a.block) : ∀ x : Lt F w, x.v.cell? a = some v := fun x => x.ext.cell hc hF
section
variable {F : Nat → Prop} {P : Program} {ops : Array Oper} {Q : Exit → Act → World → Prop} {md : Region.Mode}
def Yld (F : Nat → Prop) (P : Program) (ops : Array Oper) (w : World) (o : Oper) (v : Value) (a : Act) : Prop :=
  (Region.wanted o (yielded ops a.tmps) = true ∧ ∀ w', Ext F w w' → (execOp a.eval o).run P w' = .ok (.value v) w' ∨ ((execOp a.eval o).run P w' = .ok .skip w' ∧ v = undef)) ∨
  (Region.wanted o (yielded ops a.tmps) = false ∧ v = undef)
theorem Yld.later {w w1 : World} {o : Oper} {v : Value} {a : Act} (h : Yld F P ops w o v a) (he : Ext F w w1) : Yld F P ops w1 o v a := by
  rcases h with ⟨hw, h⟩ | h
  · exact .inl ⟨hw, fun w' hw' => h w' (he.trans hw')⟩
  · exact .inr h
theorem Yld.of_same {w : World} {o : Oper} {v : Value} {a a' : Act} (hy : Yld F P ops w o v a) (he : execOp a'.eval o = execOp a.eval o)
    (hw : Region.wanted o (yielded ops a'.tmps) = Region.wanted o (yielded ops a.tmps)) : Yld F P ops w o v a' := by
  unfold Yld at *
  rw [he, hw]
  exact hy
theorem Yld.wpOp {w : World} {i : Nat} {o : Oper} {v : Value} {a : Act} (hi : ops[i]? = some o) (hy : Yld F P ops w o v a) {K : Act → World → Prop} (h : K (a.put o.dst v) w) : wpOp P ops Q i K a w := by
  unfold Go.wpOp
  simp only [hi]
  rcases hy with ⟨hw, hv⟩ | ⟨hw, rfl⟩
  · rw [if_pos hw]
    refine .inl ?_
    unfold Oper.wp
    rcases hv w (Ext.refl w) with hx | ⟨hx, rfl⟩
    · rw [hx]; exact h
    · rw [hx]; exact h
  · simp only [hw, Bool.false_eq_true, if_false]; exact h
theorem yld_of_quiet {w : World} {o : Oper} {a : Act} {K : Act → Prop} (hn : noCall o.op = true)
    (h : if Region.wanted o (yielded ops a.tmps) then o.quiet P a (Cls F w) K else K (a.put o.dst undef)) : ∃ v, Yld F P ops w o v a ∧ K (a.put o.dst v) := by
  by_cases hw : Region.wanted o (yielded ops a.tmps) = true
  · simp only [hw, if_true] at h
    obtain ⟨v, h1, h2⟩ := h
    refine ⟨v, .inl ⟨hw, fun w' hw' => ?_⟩, h2⟩
    have h3 := h1 w' (Cls.mk hw')
    unfold Oper.quietAt at h3
    have hne := fun f args w'' => noCall_spec (P := P) hn a.eval w' f args w''
    generalize (execOp a.eval o).run P w' = r at *
    cases r with
    | halt x w'' => simp only [Oper.quietUpon] at h3
    | ok n w'' =>
      cases n <;> simp only [Oper.quietUpon] at h3
      case value u => obtain ⟨rfl, rfl⟩ := h3; exact .inl rfl
      case skip => obtain ⟨rfl, rfl⟩ := h3; exact .inr ⟨rfl, rfl⟩
      case enter f args => exact absurd rfl (hne f args w'')
  · simp only [hw] at h
    exact ⟨undef, .inr ⟨by simpa using hw, rfl⟩, h⟩
def anyE (F : Nat → Prop) (P : Program) (md : Region.Mode) (ops : Array Oper) (Q : Exit → Act → World → Prop) (tl : List Nat) (wb : World) : Nat → Array Bool → Act → World → Prop
  | 0, listed, a, w => Region.ready md ops listed = [] ∧ Q .normal a w
  | fuel + 1, listed, a, w =>
    (Region.ready md ops listed = [] → Q .normal a w) ∧
    ∀ i ∈ Region.ready md ops listed, wpOp P ops (if tl.contains i then Q else np Q) i (fun a' w' => (tl.contains i = false → Ext F wb w') ∧ anyE F P md ops Q tl wb fuel (listed.setIfInBounds i true) a' w') a w
theorem anyE_any {tl : List Nat} {wb : World} : ∀ (fuel : Nat) (listed : Array Bool) (a : Act) (w : World), anyE F P md ops Q tl wb fuel listed a w → wpAny P md ops Q fuel listed a w
  | 0, _, _, _, h => h
  | fuel + 1, _, _, _, h => ⟨h.1, fun i hi => wpOp_monoQ (fun c a w hq => by split at hq; exact hq; exact hq.2) (fun a w hq => by split at hq; exact hq; exact hq.2) (wpOp_mono (fun a' w' h' => anyE_any fuel _ a' w' h'.2) (h.2 i hi))⟩
theorem anyE_base {tl : List Nat} {wb wb' : World} (he : Ext F wb wb') : ∀ (fuel : Nat) (listed : Array Bool) (a : Act) (w : World), anyE F P md ops Q tl wb' fuel listed a w → anyE F P md ops Q tl wb fuel listed a w
  | 0, _, _, _, h => h
  | fuel + 1, _, _, _, h => ⟨h.1, fun i hi => wpOp_mono (fun a' w' h' => ⟨fun ht => he.trans (h'.1 ht), anyE_base he fuel _ a' w' h'.2⟩) (h.2 i hi)⟩
theorem anyE_first {tl : List Nat} {wb : World} {i : Nat} {oi : Oper} {v : Value} {W : Array Nat} (hW : waitsB md ops W = true) (hi : ops[i]? = some oi)
    (hsel : ∀ (j : Nat) (o : Oper) cs b, ops[j]? = some o → o.op ≠ .select cs b) :
    ∀ (fuel : Nat) (listed : Array Bool) (a : Act) (w : World), Closed md ops listed → Ext F wb w →
      (∀ j oj, ops[j]? = some oj → j ≠ i → listed.getD j true = false → waits W j i = true ∨ (oi.apart ops oj = true ∧ tl.contains j = false)) →
      i ∈ Region.ready md ops listed → Yld F P ops wb oi v a →
      anyE F P md ops Q tl wb fuel (listed.setIfInBounds i true) (a.put oi.dst v) w → anyE F P md ops Q tl wb (fuel + 1) listed a w := by
  intro fuel
  induction fuel with
  | zero =>
    intro listed a w hc hwb hfree hr hy H
    refine ⟨fun h => (by rw [h] at hr; cases hr), fun j hj => ?_⟩
    by_cases hji : j = i
    · subst hji; exact (hy.later hwb).wpOp hi ⟨fun _ => hwb, H⟩
    · have := ready_mono hj hji
      rw [H.1] at this
      cases this
  | succ fuel ih =>
    intro listed a w hc hwb hfree hr hy H
    refine ⟨fun h => (by rw [h] at hr; cases hr), fun j hj => ?_⟩
    by_cases hji : j = i
    · subst hji; exact (hy.later hwb).wpOp hi ⟨fun _ => hwb, H⟩
    · have h1 := H.2 j (ready_mono hj hji)
      obtain ⟨hjun, oj, hoj, hall⟩ := mem_ready.1 hj
      have hilt : i < ops.size := (Array.getElem?_eq_some_iff.1 hi).1
      have hiun : listed.getD i false = false := by
        have h0 := (mem_ready.1 hr).1
        rcases Nat.lt_or_ge i listed.size with h' | h'
        · simpa [h'] using h0
        · simp [Array.getElem?_eq_none h']
      have hap : oi.apart ops oj = true ∧ tl.contains j = false := by
        rcases hfree j oj hoj hji hjun with hw | h
        · have := waits_listed hW hc hilt j j oj (Nat.le_refl _) hoj hall hw
          rw [hiun] at this
          cases this
        · exact h
      obtain ⟨p1, p2, p3⟩ := Oper.apart_spec hap.1
      have hsi := fun cs b => hsel i oi cs b hi
      have hsj := fun cs b => hsel j oj cs b hoj
      have keep : ∀ (a : Act), Yld F P ops wb oi v a → ∀ u, Yld F P ops wb oi v (a.put oj.dst u) := fun a hy u =>
        hy.of_same (execOp_put oi hsi a oj.dst u p3) (wanted_put oi a oj.dst u p3)
      have keepD : ∀ d, Yld F P ops wb oi v { a with defers := d :: a.defers } := fun d => hy.of_same rfl rfl
      have hfree' : ∀ k ok, ops[k]? = some ok → k ≠ i → (listed.setIfInBounds j true).getD k true = false → waits W k i = true ∨ (oi.apart ops ok = true ∧ tl.contains k = false) := fun k ok hk hki hun => by
        refine hfree k ok hk hki ?_
        by_cases hjk : j = k
        · subst hjk; exact hjun
        · rw [getD_set_ne true hjk] at hun; exact hun
      have fin : ∀ (a' : Act) (w' : World), Yld F P ops wb oi v a' → Ext F wb w' → anyE F P md ops Q tl wb fuel ((listed.setIfInBounds i true).setIfInBounds j true) (a'.put oi.dst v) w' →
          (True → Ext F wb w') ∧ anyE F P md ops Q tl wb (fuel + 1) (listed.setIfInBounds j true) a' w' := fun a' w' hy' he' h' =>
        ⟨fun _ => he', ih _ a' w' (hc.step hj) he' hfree' (ready_mono hr (Ne.symm hji)) hy' (by rw [Array.setIfInBounds_comm _ _ hji]; exact h')⟩
      rw [hap.2] at h1 ⊢
      simp only [Bool.false_eq_true, if_false] at h1 ⊢
      unfold wpOp at *
      simp only [hoj] at *
      rw [wanted_put oj a oi.dst v p1] at h1
      split
      · rename_i hw
        simp only [hw, if_true] at h1
        rcases h1 with h1 | ⟨hasks, hlets⟩
        case inr => exact .inr ⟨by unfold Oper.asks at *; rw [execOp_put oj hsj a oi.dst v p1] at hasks; exact hasks, hlets⟩
        refine .inl ?_
        unfold Oper.wp at *
        rw [execOp_put oj hsj a oi.dst v p1] at h1
        generalize (execOp a.eval oj).run P w = r at *
        cases r with
        | ok n w' =>
          cases n <;> simp only [Oper.upon] at h1 ⊢
          case value u => exact fin _ _ (keep a hy u) (h1.1 trivial) (by rw [← Act.put_comm a v u p2]; exact h1.2)
          case skip => exact fin _ _ (keep a hy _) (h1.1 trivial) (by rw [← Act.put_comm a v undef p2]; exact h1.2)
          case defer d =>
            refine fin _ _ (keep _ (keepD d) _) (h1.1 trivial) ?_
            rw [← Act.put_comm _ v undef p2, ← Act.put_defers]
            exact h1.2
          case enter f args =>
            refine Calls.mono h1 fun e w'' he => ?_
            cases e with
            | returned u => exact fin _ _ (keep a hy u) (he.1 trivial) (by rw [← Act.put_comm a v u p2]; exact he.2)
            | panicked c => exact absurd rfl (he.1 c)
            | outgrown => exact he
          case row row args => exact Rows.mono h1 fun u w'' he => fin _ _ (keep a hy u) (he.1 trivial) (by rw [← Act.put_comm a v u p2]; exact he.2)
        | halt x w' =>
          cases x <;> simp only [Oper.upon] at h1 ⊢
          case panic u => exact absurd rfl (h1.1 _)
      · rename_i hw
        simp only [hw] at h1
        exact fin _ _ (keep a hy _) (h1.1 trivial) (by rw [← Act.put_comm a v undef p2]; exact h1.2)
def walk (F : Nat → Prop) (P : Program) (ops : Array Oper) (Q : Exit → Act → World → Prop) (tail : List Oper) : List (List Oper × Oper) → List Oper → World → Act → Prop
  | [], last, w, a => wpQuiet P ops (Cls F w) (fun a' => wpList P ops Q tail a' w) last a
  | (S, oc) :: t, last, w, a => wpQuiet P ops (Cls F w) (fun a' => wpList P ops (Exit.then (fun a'' w'' => Ext F w w'' ∧ walk F P ops Q tail t last w'' a'') (fun _ _ _ => False)) [oc] a' w) S a
theorem tail_sound {tl : List Nat} {wb : World} : ∀ (l : List Nat) (listed : Array Bool) (a : Act) (w : World), chkT md ops tl l listed = true → wpList P ops Q (pick ops.toList l) a w →
    anyE F P md ops Q tl wb l.length listed a w
  | [], listed, a, w, hc, h => ⟨by simpa [chkT] using hc, by simpa [pick, wpList] using h⟩
  | i :: l, listed, a, w, hc, h => by
    simp only [chkT, Bool.and_eq_true, beq_iff_eq] at hc
    obtain ⟨⟨hr, ht⟩, hc⟩ := hc
    refine ⟨fun h0 => (by rw [h0] at hr; cases hr), fun j hj => ?_⟩
    rw [hr] at hj
    obtain rfl : j = i := by simpa using hj
    have hmem : j ∈ Region.ready md ops listed := by rw [hr]; simp
    obtain ⟨_, o, ho, _⟩ := mem_ready.1 hmem
    have hn : nth ops.toList j = o := nth_of (by simpa using ho)
    simp only [pick, hn, wpList] at h
    rw [if_pos ht]
    unfold wpOp
    simp only [ho]
    have fin : ∀ a' w', wpList P ops Q (pick ops.toList l) a' w' → (tl.contains j = false → Ext F wb w') ∧ anyE F P md ops Q tl wb l.length (listed.setIfInBounds j true) a' w' :=
      fun a' w' h' => ⟨fun hf => (by rw [ht] at hf; cases hf), tail_sound l _ a' w' hc h'⟩
    split
    · rename_i hw
      rw [if_pos hw] at h
      rcases h with h | h
      · exact .inl (Oper.wp_mono fin h)
      · exact .inr h
    · rename_i hw
      rw [if_neg hw] at h
      exact fin _ _ h
theorem seg_sound {tl : List Nat} {W : Array Nat} {wb : World} (hW : waitsB md ops W = true) (hs : Region.noSelect ops = true) {k : Array Bool → Bool} {n : Nat} {K : Act → Prop}
    (hk : ∀ (listed : Array Bool) (a : Act), Closed md ops listed → k listed = true → K a → anyE F P md ops Q tl wb n listed a wb) :
    ∀ (l : List Nat) (listed : Array Bool) (a : Act), Closed md ops listed → chkS md ops W tl l listed k = true → wpQuiet P ops (Cls F wb) K (pick ops.toList l) a →
      anyE F P md ops Q tl wb (l.length + n) listed a wb
  | [], listed, a, hcl, hc, h => by simpa using hk listed a hcl (by simpa [chkS] using hc) (by simpa [pick, wpQuiet] using h)
  | i :: l, listed, a, hcl, hc, h => by
    simp only [chkS, Bool.and_eq_true] at hc
    obtain ⟨⟨hr, hf⟩, hc⟩ := hc
    have hmem : i ∈ Region.ready md ops listed := by simpa using hr
    obtain ⟨_, o, ho, _⟩ := mem_ready.1 hmem
    have hn : nth ops.toList i = o := nth_of (by simpa using ho)
    simp only [freeW, ho, Bool.and_eq_true, List.all_eq_true, List.mem_range] at hf
    obtain ⟨⟨hnc, htl⟩, hall⟩ := hf
    simp only [pick, hn, wpQuiet] at h
    obtain ⟨v, hy, h'⟩ := yld_of_quiet hnc h
    have := seg_sound hW hs hk l _ _ (hcl.step hmem) hc h'
    rw [List.length_cons, Nat.add_right_comm]
    refine anyE_first hW ho (Region.noSelect_spec hs) _ listed a wb hcl (Ext.refl _) (fun j oj hj hne hun => ?_) hmem hy this
    have h2 := hall j (Array.getElem?_eq_some_iff.1 hj).1
    simp only [hj, Bool.or_eq_true, beq_iff_eq, hne, hun, Bool.false_eq_true, false_or, Bool.and_eq_true, Bool.not_eq_true'] at h2
    exact h2
theorem walk_sound {tl : List Nat} {W : Array Nat} (hW : waitsB md ops W = true) (hs : Region.noSelect ops = true) : ∀ (pl : List (List Nat × Nat)) (last : List Nat) (listed : Array Bool) (a : Act) (w : World),
    Closed md ops listed → chk md ops W tl pl last listed = true → walk F P ops Q (pick ops.toList tl) (pl.map fun x => (pick ops.toList x.1, nth ops.toList x.2)) (pick ops.toList last) w a →
    anyE F P md ops Q tl w (planSize pl last tl) listed a w
  | [], last, listed, a, w, hcl, hc, h => by
    have := seg_sound (P := P) (Q := Q) hW hs (k := chkT md ops tl tl) (n := tl.length) (K := fun a' => wpList P ops Q (pick ops.toList tl) a' w) (wb := w)
      (fun l a' _ hk h' => tail_sound tl l a' w hk h') last listed a hcl (by simpa [chk] using hc) (by simpa [walk] using h)
    simpa [planSize] using this
  | (S, i) :: t, last, listed, a, w, hcl, hc, h => by
    have := seg_sound (P := P) (Q := Q) hW hs (wb := w) (n := planSize t last tl + 1) (tl := tl)
      (k := fun l' => Region.ready md ops l' == [i] && !tl.contains i && chk md ops W tl t last (l'.setIfInBounds i true))
      (K := fun a' => wpList P ops (Exit.then (fun a'' w'' => Ext F w w'' ∧ walk F P ops Q (pick ops.toList tl) (t.map fun x => (pick ops.toList x.1, nth ops.toList x.2)) (pick ops.toList last) w'' a'') (fun _ _ _ => False)) [nth ops.toList i] a' w)
      (fun l a' hcl' hk h' => by
        simp only [Bool.and_eq_true, beq_iff_eq, Bool.not_eq_true'] at hk
        obtain ⟨⟨hr, ht⟩, hc'⟩ := hk
        refine ⟨fun h0 => (by rw [h0] at hr; cases hr), fun j hj => ?_⟩
        rw [hr] at hj
        obtain rfl : j = i := by simpa using hj
        have hmem : j ∈ Region.ready md ops l := by rw [hr]; simp
        obtain ⟨_, o, ho, _⟩ := mem_ready.1 hmem
        have hn : nth ops.toList j = o := nth_of (by simpa using ho)
        rw [ht]
        simp only [Bool.false_eq_true, if_false]
        simp only [hn, wpList, Exit.then] at h'
        have fin : ∀ a'' w'', (Ext F w w'' ∧ walk F P ops Q (pick ops.toList tl) (t.map fun x => (pick ops.toList x.1, nth ops.toList x.2)) (pick ops.toList last) w'' a'') →
            (True → Ext F w w'') ∧ anyE F P md ops Q tl w (planSize t last tl) (l.setIfInBounds j true) a'' w'' := fun a'' w'' hh =>
          ⟨fun _ => hh.1, anyE_base hh.1 _ _ _ _ (walk_sound hW hs t last _ a'' w'' (hcl'.step hmem) hc' hh.2)⟩
        unfold wpOp
        simp only [ho]
        split
        · rename_i hw
          rw [if_pos hw] at h'
          rcases h' with h' | ⟨_, a0, w0, hq⟩
          · refine .inl (wp_monoQ (Q' := Exit.then (fun a'' w'' => Ext F w w'' ∧ walk F P ops Q (pick ops.toList tl) (t.map fun x => (pick ops.toList x.1, nth ops.toList x.2)) (pick ops.toList last) w'' a'') (fun _ _ _ => False)) (fun c a1 w1 hq => hq.elim) (fun a1 w1 hq => hq.elim) (Oper.wp_mono fin h'))
          · exact hq.elim
        · rename_i hw
          rw [if_neg hw] at h'
          exact fin _ _ h') S listed a hcl (by simpa [chk] using hc) (by simpa [walk] using h)
    have e : planSize ((S, i) :: t) last tl = S.length + (planSize t last tl + 1) := by simp [planSize]; omega
    rw [e]
    exact this
theorem region (F : Nat → Prop) {id : Nat} {l : List Oper} {a : Act} {w : World} (pl : List (List Nat × Nat)) (last tl : List Nat) (hm : P.follows .mixedOrders = true)
    (hB : (waitsB .any l.toArray (Region.before l.toArray) && Region.noSelect l.toArray && chk .any l.toArray (Region.before l.toArray) tl pl last (Array.replicate l.length false) && planSize pl last tl == l.length) = true)
    (h : ∀ w', Rg.Ext w w' → walk F P l.toArray Q (pick l tl) (pl.map fun x => (pick l x.1, nth l x.2)) (pick l last) w' a) : (Code.region id l.toArray true).wp P Q a w := by
  simp only [Bool.and_eq_true, beq_iff_eq] at hB
  obtain ⟨⟨⟨hW, hs⟩, hc⟩, hsz⟩ := hB
  refine wp_region_any hm (anyE_any (F := F) (tl := tl) (wb := { w with drawn := w.drawn + 1 }) _ _ _ _ ?_)
  have := walk_sound (F := F) (P := P) (Q := Q) (md := .any) (ops := l.toArray) (tl := tl) hW hs pl last (Array.replicate l.length false) a { w with drawn := w.drawn + 1 } (by
    intro j o _ hl
    exfalso
    simp [Array.getElem?_replicate] at hl
    split at hl <;> simp_all) (by simpa using hc) (by simpa using h _ (Below.drew (Below.refl _ w)))
  rw [hsz] at this
  simpa using this
end
end Rf
open Go.RowKit Rp Rg Ops Mm Ar Wm
namespace Wd
theorem aggW : Agg Try.prog 75 4 := ⟨⟨.array 4 73, by kernel_rfl, rfl⟩, by kernel_rfl⟩
theorem word_small (n : Nat) (h0 : n < m64) : wordA n = #[.int .u64 (n : Int), .int .u64 0, .int .u64 0, .int .u64 0] := by
  simp only [wordA, arr, List.range_succ_eq_map, List.range_zero, List.map_cons, List.map_nil, u64V]
  have e0 : limb n 0 = n := by simp [limb, Nat.mod_eq_of_lt h0]
  have e : ∀ k, limb n (k + 1) = 0 := fun k => by
    unfold limb
    rw [Nat.div_eq_of_lt (Nat.lt_of_lt_of_le h0 (by rw [Nat.pow_succ]; exact Nat.le_mul_of_pos_left _ (pow_pos' k)))]
    simp
  simp [e0, e]
theorem IntW (n : Nat) (hn : n < m64) (w : World) : Calls Try.prog 69 #[.int .u64 (n : Int)] w fun e w' => e = .returned (.agg (wordA n)) ∧ Ext w w' := by
  have hz := word_small n hn
  have HZ := Lib.hid hz
  clear hz
  have s1 := (St.start w).alloc (arr 4 fun _ => .int .u64 0) 75
  have s2 := s1.setRow 0 rfl #[.int .u64 (n : Int), .int .u64 0, .int .u64 0, .int .u64 0]
  go_enter Try.func69, Try.ntmps69
  go_wp2_with (refine stAll aggW (vs := #[.int .u64 (n : Int), .int .u64 0, .int .u64 0, .int .u64 0]) rfl _ _ rfl (by rfl) (by rfl) (s1.at 0 rfl) (by rfl) (by rfl) (by simp [Value.oneCell']) ?_)
  go_wp2
  refine bodyPost_ret (v := .agg _) (ret_cell aggW rfl rfl (s2.at 0 rfl) rfl) rfl ⟨by rw [HZ.out], s2.below⟩
end Wd
namespace Wd
end Wd
open Go.RowKit Rg Wm Ar
namespace Lf
def limbs (x : Nat) : List Nat := [limb x 0, limb x 1, limb x 2, limb x 3]
abbrev wV (x : Nat) : V := .a ((limbs x).map uK)
theorem limbs_len (x : Nat) : (limbs x).length = 4 := rfl
theorem limbs_get (x : Nat) {k : Nat} (h : k < 4) : (limbs x).getD k default = limb x k := by
  match k, h with
  | 0, _ => rfl
  | 1, _ => rfl
  | 2, _ => rfl
  | 3, _ => rfl
theorem limb_lt64 (x k : Nat) : limb x k < 18446744073709551616 := limb_lt x k
theorem limbs_lt (x k : Nat) : (limbs x).getD k default < 18446744073709551616 := by
  rcases Nat.lt_or_ge k 4 with h | h
  · rw [limbs_get x h]; exact limb_lt64 x k
  · rw [List.getD_eq_getElem?_getD, List.getElem?_eq_none (by rw [limbs_len]; exact h)]; exact Nat.zero_lt_succ _
theorem wordA_list (x : Nat) : wordA x = #[.int .u64 (limb x 0 : Int), .int .u64 (limb x 1 : Int), .int .u64 (limb x 2 : Int), .int .u64 (limb x 3 : Int)] := rfl
theorem exact_word (x : Nat) : Exact (wV x) (.agg (wordA x)) := by
  rw [wordA_list]
  refine ⟨fun w g => .a rfl (fun u hu => ?_) (fun j u y hj hy => ?_), fun w g y h => ?_⟩
  · obtain ⟨a, _, rfl⟩ := List.mem_map.1 hu; rfl
  · match j with
    | 0 => simp [limbs] at hj hy; subst hj; subst hy; exact .k _
    | 1 => simp [limbs] at hj hy; subst hj; subst hy; exact .k _
    | 2 => simp [limbs] at hj hy; subst hj; subst hy; exact .k _
    | 3 => simp [limbs] at hj hy; subst hj; subst hy; exact .k _
    | j + 4 => simp [limbs] at hj
  · cases h with
    | @a _ _ vs hl h1 hc =>
      have hs : vs.size = 4 := by simpa [limbs] using hl.symm
      congr 1
      apply Array.ext
      · simpa using hs
      · intro i h1 h2
        have hv : vs[i]? = some vs[i] := Array.getElem?_eq_getElem h1
        match i with
        | 0 => exact rep_k (hc 0 _ _ rfl hv)
        | 1 => exact rep_k (hc 1 _ _ rfl hv)
        | 2 => exact rep_k (hc 2 _ _ rfl hv)
        | 3 => exact rep_k (hc 3 _ _ rfl hv)
        | i + 4 => omega
def beB (x : Nat) : Nat → List UInt8
  | 0 => []
  | n + 1 => UInt8.ofNat (x / 256 ^ n % 256) :: beB x n
theorem beB_len (x n : Nat) : (beB x n).length = n := by induction n <;> simp [beB, *]
theorem beB_num (x : Nat) : ∀ n, Ps.beN (beB x n) = x % 256 ^ n
  | 0 => by simp [beB, Ps.beN, Ps.nat8, Ps.pos, Nat.mod_one]
  | n + 1 => by
    have ih := beB_num x n
    have e : Ps.beN (beB x (n + 1)) = x / 256 ^ n % 256 * 256 ^ n + Ps.beN (beB x n) := by
      simp only [beB, Ps.beN, Ps.nat8, List.map_cons, Ps.pos, List.length_map, beB_len, UInt8.toNat_ofNat']
      simp
    rw [e, ih, Nat.pow_succ, Nat.mod_mul, Nat.mul_comm]
    omega
theorem m256_bytes : M256 = 256 ^ 32 := by unfold M256 m64; decide
def wordB (x : Nat) : List UInt8 := beB x 32
theorem wordB_len (x : Nat) : (wordB x).length = 32 := beB_len x 32
theorem wordB_num (x : Nat) : Ps.beN (wordB x) = x % M256 := by rw [m256_bytes]; exact beB_num x 32
def bytesR (x i : Nat) : List UInt8 := (List.range 32).map fun j => if j < i then UInt8.ofNat (x / 256 ^ (31 - j) % 256) else 0
theorem bytesR_len (x i : Nat) : (bytesR x i).length = 32 := by simp [bytesR]
theorem bytesR_full (x : Nat) : bytesR x 32 = wordB x := by
  have e : ∀ n, beB x n = (List.range n).map fun j => UInt8.ofNat (x / 256 ^ (n - 1 - j) % 256) := by
    intro n
    induction n with
    | zero => rfl
    | succ n ih =>
      rw [beB, ih, List.range_succ_eq_map, List.map_cons, List.map_map]
      congr 1
      refine List.map_congr_left fun j hj => ?_
      have := List.mem_range.1 hj
      simp only [Function.comp]
      rw [show n + 1 - 1 - (j + 1) = n - 1 - j by omega]
  unfold wordB bytesR
  rw [e]
  refine List.map_congr_left fun j hj => ?_
  rw [if_pos (List.mem_range.1 hj)]
theorem bytesR_set (x i : Nat) (_hi : i < 32) {b : Nat} (hb : b % 256 = x / 256 ^ (31 - i) % 256) : (bytesR x i).set i (UInt8.ofNat b) = bytesR x (i + 1) := by
  apply List.ext_getElem
  · simp [bytesR]
  · intro j h1 h2
    rw [List.getElem_set]
    simp only [bytesR, List.getElem_map, List.getElem_range]
    by_cases h : i = j
    · subst h
      rw [if_pos rfl, if_pos (by omega)]
      apply UInt8.toNat_inj.1
      rw [UInt8.toNat_ofNat', UInt8.toNat_ofNat']
      omega
    · rw [if_neg h]
      by_cases h3 : j < i
      · rw [if_pos h3, if_pos (by omega)]
      · rw [if_neg h3, if_neg (by omega)]
theorem limb_byte (x k r : Nat) (hr : r < 8) : limb x k / 2 ^ (r * 8) % 256 = x / 256 ^ (8 * k + r) % 256 := by
  unfold limb
  have e1 : (256 : Nat) ^ (8 * k + r) = m64 ^ k * 2 ^ (r * 8) := by
    rw [Nat.pow_add, Nat.pow_mul]
    have h1 : (256 : Nat) ^ 8 = m64 := by unfold m64; decide
    have h2 : (256 : Nat) ^ r = 2 ^ (r * 8) := by rw [Nat.mul_comm, Nat.pow_mul]
    rw [h1, h2]
  rw [e1, ← Nat.div_div_eq_div_mul]
  generalize x / m64 ^ k = y
  have h3 : m64 = 2 ^ (r * 8) * 2 ^ ((8 - r) * 8) := by rw [← Nat.pow_add, show r * 8 + (8 - r) * 8 = 64 from by omega]; unfold m64; decide
  have h4 : (256 : Nat) ∣ 2 ^ ((8 - r) * 8) := by
    refine ⟨2 ^ ((8 - r) * 8 - 8), ?_⟩
    have : (8 - r) * 8 = 8 + ((8 - r) * 8 - 8) := by omega
    rw [this, Nat.pow_add]; simp
  rw [h3, Nat.mod_mul_right_div_self]
  exact Nat.mod_mod_of_dvd _ h4
theorem pow256 (i : Nat) : (256 : Nat) ^ i = m64 ^ (i / 8) * 2 ^ (i % 8 * 8) := by
  have h1 : (256 : Nat) ^ 8 = m64 := by unfold m64; decide
  have h2 : (256 : Nat) ^ (i % 8) = 2 ^ (i % 8 * 8) := by rw [Nat.mul_comm, Nat.pow_mul]
  rw [← h1, ← h2, ← Nat.pow_mul, ← Nat.pow_add, Nat.div_add_mod]
theorem limb_set {V b i : Nat} (hV : V < 256 ^ i) (hb : b < 256) (k : Nat) : limb (V + b * 256 ^ i) k = if k = i / 8 then limb V k ||| (b * 2 ^ (i % 8 * 8) % 2 ^ 64) else limb V k := by
  have hp := pow256 i
  have hm : 2 ^ 64 = m64 := by unfold m64; decide
  have hr : i % 8 < 8 := Nat.mod_lt _ (by decide)
  have h64 : m64 = 2 ^ (i % 8 * 8) * 2 ^ (64 - i % 8 * 8) := by rw [← Nat.pow_add, ← hm, show i % 8 * 8 + (64 - i % 8 * 8) = 64 from by omega]
  have hpos : ∀ j, 0 < m64 ^ j := fun j => pow_pos' j
  have hle : b * 2 ^ (i % 8 * 8) + 2 ^ (i % 8 * 8) ≤ m64 := by
    have h1 : (2 : Nat) ^ 8 ≤ 2 ^ (64 - i % 8 * 8) := Nat.pow_le_pow_right (by decide) (by omega)
    have h2 : (b + 1) * 2 ^ (i % 8 * 8) ≤ 2 ^ (64 - i % 8 * 8) * 2 ^ (i % 8 * 8) := Nat.mul_le_mul_right _ (by omega)
    rw [Nat.mul_comm (2 ^ (64 - i % 8 * 8)), ← h64, Nat.add_mul, Nat.one_mul] at h2
    exact h2
  have hs0 : 0 < 2 ^ (i % 8 * 8) := Nat.two_pow_pos _
  rcases Nat.lt_trichotomy k (i / 8) with h | h | h
  · rw [if_neg (by omega)]
    obtain ⟨j, hj⟩ : ∃ j, i / 8 = k + 1 + j := ⟨i / 8 - k - 1, by omega⟩
    unfold limb
    rw [hp, hj, show b * (m64 ^ (k + 1 + j) * 2 ^ (i % 8 * 8)) = m64 ^ k * (m64 * (m64 ^ j * (b * 2 ^ (i % 8 * 8)))) from by rw [Nat.pow_add, Nat.pow_add, Nat.pow_one]; ac_rfl, Nat.add_mul_div_left _ _ (hpos k), Nat.add_mul_mod_self_left]
  · rw [if_pos h]
    subst h
    have hlt : V / m64 ^ (i / 8) < 2 ^ (i % 8 * 8) := Nat.div_lt_of_lt_mul (by rw [← hp]; exact hV)
    unfold limb
    rw [hp, show b * (m64 ^ (i / 8) * 2 ^ (i % 8 * 8)) = m64 ^ (i / 8) * (b * 2 ^ (i % 8 * 8)) from by ac_rfl, Nat.add_mul_div_left _ _ (hpos _)]
    rw [Nat.mod_eq_of_lt (show V / m64 ^ (i / 8) < m64 by omega), hm, Nat.mod_eq_of_lt (show b * 2 ^ (i % 8 * 8) < m64 by omega), Nat.mod_eq_of_lt (by omega)]
    rw [Nat.or_comm, Nat.mul_comm b, ← Nat.two_pow_add_eq_or_of_lt hlt, Nat.add_comm]
  · rw [if_neg (by omega)]
    have h1 : (256 : Nat) ^ (i + 1) ≤ m64 ^ k := by
      have : (256 : Nat) ^ (i + 1) ≤ 256 ^ (8 * k) := Nat.pow_le_pow_right (by decide) (by omega)
      rw [Nat.pow_mul] at this
      have e : (256 : Nat) ^ 8 = m64 := by unfold m64; decide
      rwa [e] at this
    have h2 : V + b * 256 ^ i < 256 ^ (i + 1) := by
      have h2 := Nat.mul_le_mul_right (256 ^ i) (Nat.succ_le_of_lt hb)
      rw [Nat.pow_succ, Nat.mul_comm (256 ^ i)]
      rw [Nat.succ_mul] at h2
      omega
    unfold limb
    rw [Nat.div_eq_of_lt (by omega), Nat.div_eq_of_lt (by omega)]
def tailN (l : List UInt8) (i : Nat) : Nat := Ps.beN (l.drop (l.length - i))
theorem tailN_zero (l : List UInt8) : tailN l 0 = 0 := by unfold tailN; rw [Nat.sub_zero, List.drop_length]; rfl
theorem tailN_all (l : List UInt8) : tailN l l.length = Ps.beN l := by unfold tailN; rw [Nat.sub_self, List.drop_zero]
theorem tailN_lt (l : List UInt8) {i : Nat} (h : i ≤ l.length) : tailN l i < 256 ^ i := by
  have := Ps.beN_lt (l.drop (l.length - i))
  rwa [List.length_drop, show l.length - (l.length - i) = i by omega] at this
theorem tailN_succ (l : List UInt8) {i : Nat} (h : i < l.length) : tailN l (i + 1) = tailN l i + (l.getD (l.length - 1 - i) default).toNat * 256 ^ i := by
  unfold tailN
  rw [show l.length - (i + 1) = l.length - 1 - i by omega, List.drop_eq_getElem_cons (by omega)]
  have e : l.length - 1 - i + 1 = l.length - i := by omega
  rw [e]
  have e2 : ∀ (a : UInt8) (r : List UInt8), Ps.beN (a :: r) = a.toNat * 256 ^ r.length + Ps.beN r := fun a r => by simp [Ps.beN, Ps.nat8, Ps.pos]
  rw [e2, List.length_drop, show l.length - (l.length - i) = i by omega, Nat.add_comm]
  simp [List.getD_eq_getElem?_getD, List.getElem?_eq_getElem (show l.length - 1 - i < l.length by omega)]
attribute [irreducible] bytesR limbs tailN wordB
end Lf
open Go.RowKit Rg Wm Ar
set_option linter.unusedVariables false
set_option maxRecDepth 100000
namespace Lf
namespace Wo
theorem IntW (n : Nat) (h : n < m64) : LF Try.prog 69 [uK n] (fun _ => wV n) none := .of_calls (by kernel_rfl) rfl (ex1 (exact_k _)) (exact_word _) fun w => Wd.IntW n h w
end Wo
theorem byte_at (x : Nat) {i : Nat} (h : i < 32) : (limbs x).getD ((31 - i) / 8) default / 2 ^ ((31 - i) % 8 * 8) % 256 = x / 256 ^ (31 - i) % 256 := by
  rw [limbs_get x (by omega), limb_byte _ _ _ (Nat.mod_lt _ (by decide))]
  congr 3
  omega
theorem set_more {i n V b : Nat} (_h : i < n) (hn : i < 32) (hV : V < 256 ^ i) (hb : b < 256) : (limbs V).set (i / 8) ((limbs V).getD (i / 8) default ||| b * 2 ^ (i % 8 * 8) % 2 ^ 64) = limbs (V + b * 256 ^ i) := by
  rw [limbs_get V (by omega)]
  have h : ∀ k, limb (V + b * 256 ^ i) k = _ := limb_set hV hb
  have hq : i / 8 = 0 ∨ i / 8 = 1 ∨ i / 8 = 2 ∨ i / 8 = 3 := by omega
  unfold limbs
  simp only [h]
  rcases hq with e | e | e | e <;> rw [e] <;> rfl
namespace Wo
set_option maxHeartbeats 1000000 in
theorem Bytes (x : Nat) : LF Try.prog 111 [wV x] (fun _ => .a ((wordB x).map bK)) none := by
  have hl := limbs_len x
  refine LFx.mk' tt Try.func111 rfl rfl rfl (by kernel_rfl) rfl rfl fun F => ?_
  refine wk ?_ trueW trueW
  refine LC.loop2 (fun i L => [(1, .p 1 0), (2, .p 2 0), (3, .p 3 0), (6, .k (.int .i64 ((i : Nat) : Int)))]) (fun i L => [(1, .b ((limbs x).map uK)), (2, .b ((List.replicate 32 0).map bK)), (3, .b (L.map bK))]) (fun i L => i ≤ 32 ∧ L = bytesR x i) ((32 - ·)) (0) ((List.replicate 32 0)) ⟨by omega, by unfold bytesR; rfl⟩ ⟨rfl, rfl, rfl, rfl, trivial⟩ ⟨rfl, rfl, rfl, trivial⟩ rfl rfW rfW ?_
  rintro i L ⟨hi, hL⟩
  have hb := bytesR_len x i
  rw [← hL] at hb
  rcases Nat.lt_or_ge i 32 with h | h
  · have hok : i + 1 ≤ 32 ∧ L.set i (UInt8.ofNat ((limbs x).getD ((31 - i) / 8) default / 2 ^ ((31 - i) % 8 * 8))) = bytesR x (i + 1) := ⟨h, by rw [hL]; exact bytesR_set x i h (byte_at x h)⟩
    clear hL
    exact wk trueW trueW trueW
  · obtain rfl : i = 32 := by omega
    have hv1 : V.a (L.map bK) = V.a ((wordB x).map bK) := by rw [hL, bytesR_full]
    clear hL
    exact wk trueW trueW trueW
set_option maxHeartbeats 1000000 in
theorem Read (l : List UInt8) (hn : l.length ≤ 32) : LF Try.prog 110 [.s none (l.map bK)] (fun _ => wV (Ps.beN l)) none := by
  have hmin : (if (32 : Int) < ((l.length : Nat) : Int) then (32 : Int) else ((l.length : Nat) : Int)) = ((l.length : Nat) : Int) := if_neg (by omega)
  refine LFx.mk' tt Try.func110 rfl rfl rfl (by kernel_rfl) rfl rfl fun F => ?_
  refine wk ?_ trueW trueW
  refine LC.loop2 (fun i L => [(0, .s none (l.map bK)), (2, .p 2 0), (3, .p 3 0), (7, .k (.int .i64 ((l.length : Nat) : Int))), (8, .k (.int .i64 ((i : Nat) : Int)))]) (fun i L => [(2, .b ((List.replicate 4 0).map uK)), (3, .b (L.map uK))]) (fun i L => i ≤ l.length ∧ L = limbs (tailN l i)) ((l.length - ·)) (0) ((List.replicate 4 0)) ⟨by omega, by rw [tailN_zero]; unfold limbs; decide⟩ ⟨rfl, rfl, rfl, rfl, rfl, trivial⟩ ⟨rfl, rfl, trivial⟩ rfl rfW rfW ?_
  rintro i L ⟨hi, hL⟩
  have hb : L.length = 4 := by rw [hL, limbs_len]
  rcases Nat.lt_or_ge i l.length with h | h
  · have h1 := limbs_lt (tailN l i) (i / 8)
    rw [← hL] at h1
    have hok : i + 1 ≤ l.length ∧ L.set (i / 8) (L.getD (i / 8) default ||| (l.getD (l.length - 1 - i) default).toNat * 2 ^ (i % 8 * 8) % 2 ^ 64) = limbs (tailN l (i + 1)) := ⟨h, by rw [hL, tailN_succ l h]; exact set_more h (by omega) (tailN_lt l hi) (UInt8.toNat_lt _)⟩
    have h2 := (l.getD (l.length - 1 - i) default).toNat_lt
    clear hL
    exact wk trueW trueW trueW
  · obtain rfl : i = l.length := by omega
    rw [tailN_all] at hL
    subst hL
    exact wk trueW trueW trueW
end Wo
end Lf
end Go.Proofs.Ytkbimhccaacobaa

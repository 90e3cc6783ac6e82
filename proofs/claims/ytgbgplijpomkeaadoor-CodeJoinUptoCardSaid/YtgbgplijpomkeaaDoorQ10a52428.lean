/- A part of the proof: texts joined. -/
import Derived.Test.YtgbgplijpomkeaaDoorProg
import Derived.Shelf.Bits.Mul64
import Derived.Lib.TrimU
import Derived.Laws.RangeString
import Derived.Laws.RangeAny
import Derived.Laws.Externs
import Derived.Lib.Bytealg
import Derived.Test.YtgbgplijpomkeaaDoorQ9caeb4a
/- Numbers by their digits, the greatest first: lists without noughts ahead are one for each number, and are ordered as the numbers are. Plain Lean. -/
namespace Go.Proofs.YtgbgplijpomkeaaDoor
namespace Ps
def pos (B : Nat) : List Nat → Nat
  | [] => 0
  | a :: l => a * B ^ l.length + pos B l
def NL (l : List Nat) : Prop := l.head? ≠ some 0
def lexN : List Nat → List Nat → Bool
  | a :: l, b :: m => decide (a < b) || (decide (a = b) && lexN l m)
  | [], _ :: _ => true
  | _, [] => false
theorem pos_append (B : Nat) (l m : List Nat) : pos B (l ++ m) = pos B l * B ^ m.length + pos B m := by
  induction l with
  | nil => simp [pos]
  | cons a l ih =>
    simp only [List.cons_append, pos, ih, List.length_append, Nat.pow_add, Nat.add_mul, Nat.mul_assoc, Nat.add_assoc]
theorem pos_lt {B : Nat} {l : List Nat} (h : ∀ a ∈ l, a < B) : pos B l < B ^ l.length := by
  induction l with
  | nil => simp [pos]
  | cons a l ih =>
    have h1 := ih fun x hx => h x (by simp [hx])
    have h2 : (a + 1) * B ^ l.length ≤ B * B ^ l.length := Nat.mul_le_mul_right _ (h a (by simp))
    simp only [pos, List.length_cons, Nat.pow_succ]
    rw [Nat.mul_comm (B ^ l.length) B]
    rw [Nat.add_mul, Nat.one_mul] at h2
    omega
theorem pos_ge {B : Nat} {a : Nat} {l : List Nat} (h : a ≠ 0) : B ^ l.length ≤ pos B (a :: l) := by
  simp only [pos]
  have : 1 * B ^ l.length ≤ a * B ^ l.length := Nat.mul_le_mul_right _ (by omega)
  omega
theorem pos_lex {B : Nat} : ∀ {l m : List Nat}, l.length = m.length → (∀ a ∈ l, a < B) → (∀ a ∈ m, a < B) → (pos B l < pos B m ↔ lexN l m = true)
  | [], [], _, _, _ => by simp [pos, lexN]
  | a :: l, b :: m, hl, h1, h2 => by
    have hl' : l.length = m.length := by simpa using hl
    have ih := pos_lex hl' (fun x hx => h1 x (by simp [hx])) (fun x hx => h2 x (by simp [hx]))
    have k1 := pos_lt (B := B) (l := l) fun x hx => h1 x (by simp [hx])
    have k2 := pos_lt (B := B) (l := m) fun x hx => h2 x (by simp [hx])
    simp only [pos, lexN, Bool.or_eq_true, Bool.and_eq_true, decide_eq_true_eq, ← ih]
    rw [← hl'] at k2 ⊢
    generalize B ^ l.length = p at *
    rcases Nat.lt_trichotomy a b with h | h | h
    · have := Nat.mul_le_mul_right p (Nat.succ_le_of_lt h)
      rw [Nat.succ_mul] at this
      exact ⟨fun _ => .inl h, fun _ => by omega⟩
    · subst h
      exact ⟨fun k => .inr ⟨rfl, by omega⟩, fun k => by rcases k with k | k <;> omega⟩
    · have := Nat.mul_le_mul_right p (Nat.succ_le_of_lt h)
      rw [Nat.succ_mul] at this
      exact ⟨fun k => by omega, fun k => by rcases k with k | k <;> omega⟩
  | [], _ :: _, hl, _, _ => by simp at hl
  | _ :: _, [], hl, _, _ => by simp at hl
theorem pos_len {B : Nat} {l m : List Nat} (hB : 0 < B) (hl : l.length < m.length) (h1 : ∀ a ∈ l, a < B) (hm : NL m) : pos B l < pos B m := by
  cases m with
  | nil => simp at hl
  | cons b m =>
    have h2 : b ≠ 0 := fun e => hm (by simp [e])
    have := pos_ge (B := B) (l := m) h2
    have k := pos_lt h1
    have : B ^ l.length ≤ B ^ m.length := Nat.pow_le_pow_right hB (by simp at hl; omega)
    omega
theorem pos_order {B : Nat} {l m : List Nat} (hB : 0 < B) (h1 : ∀ a ∈ l, a < B) (h2 : ∀ a ∈ m, a < B) (k1 : NL l) (k2 : NL m) : pos B l < pos B m ↔ l.length < m.length ∨ (l.length = m.length ∧ lexN l m = true) := by
  rcases Nat.lt_trichotomy l.length m.length with h | h | h
  · exact ⟨fun _ => .inl h, fun _ => pos_len hB h h1 k2⟩
  · rw [pos_lex h h1 h2]
    exact ⟨fun k => .inr ⟨h, k⟩, fun k => by rcases k with k | k <;> first | omega | exact k.2⟩
  · have := pos_len hB h h2 k1
    exact ⟨fun k => by omega, fun k => by omega⟩
theorem lexN_irr (l : List Nat) : lexN l l = false := by induction l <;> simp [lexN, *]
theorem lexN_eq : ∀ {l m : List Nat}, l.length = m.length → lexN l m = false → lexN m l = false → l = m
  | [], [], _, _, _ => rfl
  | a :: l, b :: m, hl, h1, h2 => by
    simp only [lexN, Bool.or_eq_false_iff, Bool.and_eq_false_iff, decide_eq_false_iff_not] at h1 h2
    obtain rfl : a = b := by omega
    rw [lexN_eq (l := l) (m := m) (by simpa using hl) (by rcases h1.2 with h | h; exact absurd rfl h; exact h) (by rcases h2.2 with h | h; exact absurd rfl h; exact h)]
  | [], _ :: _, hl, _, _ => by simp at hl
  | _ :: _, [], hl, _, _ => by simp at hl
theorem pos_inj {B : Nat} {l m : List Nat} (hB : 0 < B) (h1 : ∀ a ∈ l, a < B) (h2 : ∀ a ∈ m, a < B) (k1 : NL l) (k2 : NL m) (h : pos B l = pos B m) : l = m := by
  have e1 := pos_order hB h1 h2 k1 k2
  have e2 := pos_order hB h2 h1 k2 k1
  have n1 : ¬ (l.length < m.length ∨ (l.length = m.length ∧ lexN l m = true)) := fun h' => by have := e1.2 h'; omega
  have n2 : ¬ (m.length < l.length ∨ (m.length = l.length ∧ lexN m l = true)) := fun h' => by have := e2.2 h'; omega
  have hl : l.length = m.length := by omega
  refine lexN_eq hl ?_ ?_
  · rw [← Bool.not_eq_true]; exact fun h' => n1 (.inr ⟨hl, h'⟩)
  · rw [← Bool.not_eq_true]; exact fun h' => n2 (.inr ⟨hl.symm, h'⟩)
/-- Without noughts ahead. -/
def strip (l : List UInt8) : List UInt8 := l.dropWhile (· == 0)
def nat8 (l : List UInt8) : List Nat := l.map UInt8.toNat
theorem nat8_lt (l : List UInt8) : ∀ a ∈ nat8 l, a < 256 := fun a ha => by
  obtain ⟨x, _, rfl⟩ := List.mem_map.1 ha
  exact x.toNat_lt
theorem nat8_inj {l m : List UInt8} (h : nat8 l = nat8 m) : l = m := by
  induction l generalizing m with
  | nil => cases m with
    | nil => rfl
    | cons _ _ => simp [nat8] at h
  | cons a l ih => cases m with
    | nil => simp [nat8] at h
    | cons b m =>
      simp only [nat8, List.map_cons, List.cons.injEq] at h
      rw [UInt8.toNat_inj.1 h.1, ih h.2]
theorem strip_nl (l : List UInt8) : NL (nat8 (strip l)) := by
  unfold strip
  induction l with
  | nil => simp [NL, nat8]
  | cons a l ih =>
    rw [List.dropWhile_cons]
    split
    · exact ih
    · rename_i h
      intro e
      simp only [nat8, List.map_cons, List.head?_cons, Option.some.injEq] at e
      apply h
      have : a = 0 := UInt8.toNat_inj.1 (by rw [e]; rfl)
      simp [this]
theorem strip_pos (B : Nat) (l : List UInt8) : pos B (nat8 (strip l)) = pos B (nat8 l) := by
  unfold strip
  induction l with
  | nil => rfl
  | cons a l ih =>
    rw [List.dropWhile_cons]
    split
    · rename_i h
      have : a = 0 := by simpa using h
      subst this
      rw [ih]
      simp [nat8, pos]
    · rfl
theorem strip_len (l : List UInt8) : (strip l).length ≤ l.length := (List.dropWhile_sublist _).length_le
theorem nl_iff (l : List UInt8) : NL (nat8 l) ↔ l.head? ≠ some 0 := by
  cases l with
  | nil => simp [NL, nat8]
  | cons a l =>
    simp only [NL, nat8, List.map_cons, List.head?_cons, ne_eq, Option.some.injEq]
    constructor
    · intro h e; apply h; rw [e]; rfl
    · intro h e; apply h; exact UInt8.toNat_inj.1 (by rw [e]; rfl)
theorem strip_id {l : List UInt8} (h : l.head? ≠ some 0) : strip l = l := by
  cases l with
  | nil => rfl
  | cons a l =>
    unfold strip
    rw [List.dropWhile_cons, if_neg]
    intro e
    apply h
    have : a = 0 := by simpa using e
    rw [this]; rfl
/-- The number of a list of bytes. -/
def beN (l : List UInt8) : Nat := pos 256 (nat8 l)
theorem beN_lt (l : List UInt8) : beN l < 256 ^ l.length := by
  have := pos_lt (nat8_lt l)
  rwa [show (nat8 l).length = l.length by simp [nat8]] at this
theorem beN_strip (l : List UInt8) : beN (strip l) = beN l := strip_pos 256 l
theorem beN_inj {l m : List UInt8} (k1 : l.head? ≠ some 0) (k2 : m.head? ≠ some 0) (h : beN l = beN m) : l = m :=
  nat8_inj (pos_inj (by decide) (nat8_lt l) (nat8_lt m) ((nl_iff l).2 k1) ((nl_iff m).2 k2) h)
theorem strip_head (l : List UInt8) : (strip l).head? ≠ some 0 := (nl_iff _).1 (strip_nl l)
theorem strip_of {l m : List UInt8} (k : m.head? ≠ some 0) (h : beN l = beN m) : strip l = m := beN_inj (strip_head l) k ((beN_strip l).trans h)
end Ps
end Go.Proofs.YtgbgplijpomkeaaDoor

/- A region that draws its order, as in XRegion; what makes memory may turn the blocks that are not kept. -/
namespace Go.Proofs.YtgbgplijpomkeaaDoor
open Go.RowKit
namespace Rf
open Rg (noCall noCall_spec np wp_monoQ wpOp_monoQ Closed Closed.step waits waitsB waits_listed nth pick freeW chkS chkT chk planSize nth_of)
/-- A later world: every kept block that was there is as it was. -/
structure Ext (F : Nat → Prop) (w w' : World) : Prop where
  size : w.heap.size ≤ w'.heap.size
  block : ∀ k, k < w.heap.size → F k → w'.heap[k]? = w.heap[k]?
theorem Ext.refl {F : Nat → Prop} (w : World) : Ext F w w := ⟨Nat.le_refl _, fun _ _ _ => rfl⟩
theorem Ext.trans {F : Nat → Prop} {a b c : World} (h : Ext F a b) (k : Ext F b c) : Ext F a c := ⟨Nat.le_trans h.size k.size, fun i hi hF => (k.block i (Nat.lt_of_lt_of_le hi h.size) hF).trans (h.block i hi hF)⟩
theorem Ext.of {F : Nat → Prop} {w w' : World} (h : Rg.Ext w w') : Ext F w w' := ⟨h.size, fun k hk _ => h.block k hk⟩
theorem Ext.setCell {F : Nat → Prop} (w : World) (p : Addr) (u : Value) (h : ¬ F p.block) : Ext F w (w.setCell p u) :=
  ⟨by simp, fun k _ hF => Below.heap_setCell w p u k (fun e => h (e ▸ hF))⟩
theorem Ext.setRow {F : Nat → Prop} (w : World) (g : Nat) (cs : Array Value) (h : ¬ F g) : Ext F w (w.setRow g cs) :=
  ⟨by simp, fun k _ hF => setRow_other w g k cs (fun e => h (e ▸ hF))⟩
/-- The class of the later worlds, in the spelling that the quiet walk reads. -/
structure Lt (F : Nat → Prop) (w : World) where
  v : World
  ext : Ext F w v
instance (F : Nat → Prop) (w : World) : Nonempty (Lt F w) := ⟨⟨w, Ext.refl w⟩⟩
def Cls (F : Nat → Prop) (w : World) (w' : World) : Prop := ∃ x : Lt F w, w' = x.v
theorem Cls.mk {F : Nat → Prop} {w w' : World} (h : Ext F w w') : Cls F w w' := ⟨⟨w', h⟩, rfl⟩
@[go_sem] theorem cls_iff (F : Nat → Prop) (w w' : World) : Cls F w w' ↔ ∃ x : Lt F w, w' = x.v := Iff.rfl
/-- A cell of a kept block is there in every later world. -/
theorem Ext.cell {F : Nat → Prop} {w w' : World} (h : Ext F w w') {a : Addr} {v : Value} (hc : w.cell? a = some v) (hF : F a.block) : w'.cell? a = some v := by
  rw [World.cell?_of_block (w := w) (h.block a.block (World.block_lt_of_cell? w a hc) hF)]; exact hc
theorem later {F : Nat → Prop} {w : World} {a : Addr} {v : Value} (hc : w.cell? a = some v) (hF : F a.block) : ∀ x : Lt F w, x.v.cell? a = some v := fun x => x.ext.cell hc hF
theorem laterB {F : Nat → Prop} {w : World} {g : Nat} {o : Obj} (hc : w.heap[g]? = some o) (hF : F g) : ∀ x : Lt F w, x.v.heap[g]? = some o := fun x => by
  rw [x.ext.block g (Array.getElem?_eq_some_iff.1 hc).1 hF]; exact hc

section
variable {F : Nat → Prop} {P : Program} {ops : Array Oper} {Q : Exit → Act → World → Prop} {md : Region.Mode}

/-- In every later world operation 'o' leaves 'v', and the world as it is. -/
def Yld (F : Nat → Prop) (P : Program) (ops : Array Oper) (w : World) (o : Oper) (v : Value) (a : Act) : Prop :=
  (Region.wanted o (yielded ops a.tmps) = true ∧ ∀ w', Ext F w w' → (execOp a.eval o).run P w' = .ok (.value v) w' ∨ ((execOp a.eval o).run P w' = .ok .skip w' ∧ v = undef)) ∨
  (Region.wanted o (yielded ops a.tmps) = false ∧ v = undef)

theorem Yld.later {w w1 : World} {o : Oper} {v : Value} {a : Act} (h : Yld F P ops w o v a) (he : Ext F w w1) : Yld F P ops w1 o v a := by
  rcases h with ⟨hw, h⟩ | h
  · exact .inl ⟨hw, fun w' hw' => h w' (he.trans hw')⟩
  · exact .inr h

theorem Yld.of_same {w : World} {o : Oper} {v : Value} {a a' : Act} (hy : Yld F P ops w o v a) (he : execOp a'.eval o = execOp a.eval o)
    (hw : Region.wanted o (yielded ops a'.tmps) = Region.wanted o (yielded ops a.tmps)) : Yld F P ops w o v a' := by
  unfold Yld at *
  rw [he, hw]
  exact hy

theorem Yld.wpOp {w : World} {i : Nat} {o : Oper} {v : Value} {a : Act} (hi : ops[i]? = some o) (hy : Yld F P ops w o v a) {K : Act → World → Prop} (h : K (a.put o.dst v) w) : wpOp P ops Q i K a w := by
  unfold Go.wpOp
  simp only [hi]
  rcases hy with ⟨hw, hv⟩ | ⟨hw, rfl⟩
  · rw [if_pos hw]
    refine .inl ?_
    unfold Oper.wp
    rcases hv w (Ext.refl w) with hx | ⟨hx, rfl⟩
    · rw [hx]; exact h
    · rw [hx]; exact h
  · simp only [hw, Bool.false_eq_true, if_false]; exact h

theorem yld_of_quiet {w : World} {o : Oper} {a : Act} {K : Act → Prop} (hn : noCall o.op = true)
    (h : if Region.wanted o (yielded ops a.tmps) then o.quiet P a (Cls F w) K else K (a.put o.dst undef)) : ∃ v, Yld F P ops w o v a ∧ K (a.put o.dst v) := by
  by_cases hw : Region.wanted o (yielded ops a.tmps) = true
  · simp only [hw, if_true] at h
    obtain ⟨v, h1, h2⟩ := h
    refine ⟨v, .inl ⟨hw, fun w' hw' => ?_⟩, h2⟩
    have h3 := h1 w' (Cls.mk hw')
    unfold Oper.quietAt at h3
    have hne := fun f args w'' => noCall_spec (P := P) hn a.eval w' f args w''
    generalize (execOp a.eval o).run P w' = r at *
    cases r with
    | halt x w'' => simp only [Oper.quietUpon] at h3
    | ok n w'' =>
      cases n <;> simp only [Oper.quietUpon] at h3
      case value u => obtain ⟨rfl, rfl⟩ := h3; exact .inl rfl
      case skip => obtain ⟨rfl, rfl⟩ := h3; exact .inr ⟨rfl, rfl⟩
      case enter f args => exact absurd rfl (hne f args w'')
  · simp only [hw] at h
    exact ⟨undef, .inr ⟨by simpa using hw, rfl⟩, h⟩

/-- Whatever order is picked; what is not of the tail leaves a later world than 'wb'. -/
def anyE (F : Nat → Prop) (P : Program) (md : Region.Mode) (ops : Array Oper) (Q : Exit → Act → World → Prop) (tl : List Nat) (wb : World) : Nat → Array Bool → Act → World → Prop
  | 0, listed, a, w => Region.ready md ops listed = [] ∧ Q .normal a w
  | fuel + 1, listed, a, w =>
    (Region.ready md ops listed = [] → Q .normal a w) ∧
    ∀ i ∈ Region.ready md ops listed, wpOp P ops (if tl.contains i then Q else np Q) i (fun a' w' => (tl.contains i = false → Ext F wb w') ∧ anyE F P md ops Q tl wb fuel (listed.setIfInBounds i true) a' w') a w

theorem anyE_any {tl : List Nat} {wb : World} : ∀ (fuel : Nat) (listed : Array Bool) (a : Act) (w : World), anyE F P md ops Q tl wb fuel listed a w → wpAny P md ops Q fuel listed a w
  | 0, _, _, _, h => h
  | fuel + 1, _, _, _, h => ⟨h.1, fun i hi => wpOp_monoQ (fun c a w hq => by split at hq; exact hq; exact hq.2) (fun a w hq => by split at hq; exact hq; exact hq.2) (wpOp_mono (fun a' w' h' => anyE_any fuel _ a' w' h'.2) (h.2 i hi))⟩

theorem anyE_base {tl : List Nat} {wb wb' : World} (he : Ext F wb wb') : ∀ (fuel : Nat) (listed : Array Bool) (a : Act) (w : World), anyE F P md ops Q tl wb' fuel listed a w → anyE F P md ops Q tl wb fuel listed a w
  | 0, _, _, _, h => h
  | fuel + 1, _, _, _, h => ⟨h.1, fun i hi => wpOp_mono (fun a' w' h' => ⟨fun ht => he.trans (h'.1 ht), anyE_base he fuel _ a' w' h'.2⟩) (h.2 i hi)⟩

/-- Taken first: a reading operation. -/
theorem anyE_first {tl : List Nat} {wb : World} {i : Nat} {oi : Oper} {v : Value} {W : Array Nat} (hW : waitsB md ops W = true) (hi : ops[i]? = some oi)
    (hsel : ∀ (j : Nat) (o : Oper) cs b, ops[j]? = some o → o.op ≠ .select cs b) :
    ∀ (fuel : Nat) (listed : Array Bool) (a : Act) (w : World), Closed md ops listed → Ext F wb w →
      (∀ j oj, ops[j]? = some oj → j ≠ i → listed.getD j true = false → waits W j i = true ∨ (oi.apart ops oj = true ∧ tl.contains j = false)) →
      i ∈ Region.ready md ops listed → Yld F P ops wb oi v a →
      anyE F P md ops Q tl wb fuel (listed.setIfInBounds i true) (a.put oi.dst v) w → anyE F P md ops Q tl wb (fuel + 1) listed a w := by
  intro fuel
  induction fuel with
  | zero =>
    intro listed a w hc hwb hfree hr hy H
    refine ⟨fun h => (by rw [h] at hr; cases hr), fun j hj => ?_⟩
    by_cases hji : j = i
    · subst hji; exact (hy.later hwb).wpOp hi ⟨fun _ => hwb, H⟩
    · have := ready_mono hj hji
      rw [H.1] at this
      cases this
  | succ fuel ih =>
    intro listed a w hc hwb hfree hr hy H
    refine ⟨fun h => (by rw [h] at hr; cases hr), fun j hj => ?_⟩
    by_cases hji : j = i
    · subst hji; exact (hy.later hwb).wpOp hi ⟨fun _ => hwb, H⟩
    · have h1 := H.2 j (ready_mono hj hji)
      obtain ⟨hjun, oj, hoj, hall⟩ := mem_ready.1 hj
      have hilt : i < ops.size := (Array.getElem?_eq_some_iff.1 hi).1
      have hiun : listed.getD i false = false := by
        have h0 := (mem_ready.1 hr).1
        rcases Nat.lt_or_ge i listed.size with h' | h'
        · simpa [h'] using h0
        · simp [Array.getElem?_eq_none h']
      have hap : oi.apart ops oj = true ∧ tl.contains j = false := by
        rcases hfree j oj hoj hji hjun with hw | h
        · have := waits_listed hW hc hilt j j oj (Nat.le_refl _) hoj hall hw
          rw [hiun] at this
          cases this
        · exact h
      obtain ⟨p1, p2, p3⟩ := Oper.apart_spec hap.1
      have hsi := fun cs b => hsel i oi cs b hi
      have hsj := fun cs b => hsel j oj cs b hoj
      have keep : ∀ (a : Act), Yld F P ops wb oi v a → ∀ u, Yld F P ops wb oi v (a.put oj.dst u) := fun a hy u =>
        hy.of_same (execOp_put oi hsi a oj.dst u p3) (wanted_put oi a oj.dst u p3)
      have keepD : ∀ d, Yld F P ops wb oi v { a with defers := d :: a.defers } := fun d => hy.of_same rfl rfl
      have hfree' : ∀ k ok, ops[k]? = some ok → k ≠ i → (listed.setIfInBounds j true).getD k true = false → waits W k i = true ∨ (oi.apart ops ok = true ∧ tl.contains k = false) := fun k ok hk hki hun => by
        refine hfree k ok hk hki ?_
        by_cases hjk : j = k
        · subst hjk; exact hjun
        · rw [getD_set_ne true hjk] at hun; exact hun
      have fin : ∀ (a' : Act) (w' : World), Yld F P ops wb oi v a' → Ext F wb w' → anyE F P md ops Q tl wb fuel ((listed.setIfInBounds i true).setIfInBounds j true) (a'.put oi.dst v) w' →
          (True → Ext F wb w') ∧ anyE F P md ops Q tl wb (fuel + 1) (listed.setIfInBounds j true) a' w' := fun a' w' hy' he' h' =>
        ⟨fun _ => he', ih _ a' w' (hc.step hj) he' hfree' (ready_mono hr (Ne.symm hji)) hy' (by rw [Array.setIfInBounds_comm _ _ hji]; exact h')⟩
      rw [hap.2] at h1 ⊢
      simp only [Bool.false_eq_true, if_false] at h1 ⊢
      unfold wpOp at *
      simp only [hoj] at *
      rw [wanted_put oj a oi.dst v p1] at h1
      split
      · rename_i hw
        simp only [hw, if_true] at h1
        rcases h1 with h1 | ⟨hasks, hlets⟩
        case inr => exact .inr ⟨by unfold Oper.asks at *; rw [execOp_put oj hsj a oi.dst v p1] at hasks; exact hasks, hlets⟩
        refine .inl ?_
        unfold Oper.wp at *
        rw [execOp_put oj hsj a oi.dst v p1] at h1
        generalize (execOp a.eval oj).run P w = r at *
        cases r with
        | ok n w' =>
          cases n <;> simp only [Oper.upon] at h1 ⊢
          case value u => exact fin _ _ (keep a hy u) (h1.1 trivial) (by rw [← Act.put_comm a v u p2]; exact h1.2)
          case skip => exact fin _ _ (keep a hy _) (h1.1 trivial) (by rw [← Act.put_comm a v undef p2]; exact h1.2)
          case defer d =>
            refine fin _ _ (keep _ (keepD d) _) (h1.1 trivial) ?_
            rw [← Act.put_comm _ v undef p2, ← Act.put_defers]
            exact h1.2
          case enter f args =>
            refine Calls.mono h1 fun e w'' he => ?_
            cases e with
            | returned u => exact fin _ _ (keep a hy u) (he.1 trivial) (by rw [← Act.put_comm a v u p2]; exact he.2)
            | panicked c => exact absurd rfl (he.1 c)
            | outgrown => exact he
          case row row args => exact Rows.mono h1 fun u w'' he => fin _ _ (keep a hy u) (he.1 trivial) (by rw [← Act.put_comm a v u p2]; exact he.2)
        | halt x w' =>
          cases x <;> simp only [Oper.upon] at h1 ⊢
          case panic u => exact absurd rfl (h1.1 _)
      · rename_i hw
        simp only [hw] at h1
        exact fin _ _ (keep a hy _) (h1.1 trivial) (by rw [← Act.put_comm a v undef p2]; exact h1.2)

/-- Pieces that only read, an operation that makes memory behind each; a last piece; the tail, in its forced order. -/
def walk (F : Nat → Prop) (P : Program) (ops : Array Oper) (Q : Exit → Act → World → Prop) (tail : List Oper) : List (List Oper × Oper) → List Oper → World → Act → Prop
  | [], last, w, a => wpQuiet P ops (Cls F w) (fun a' => wpList P ops Q tail a' w) last a
  | (S, oc) :: t, last, w, a => wpQuiet P ops (Cls F w) (fun a' => wpList P ops (Exit.then (fun a'' w'' => Ext F w w'' ∧ walk F P ops Q tail t last w'' a'') (fun _ _ _ => False)) [oc] a' w) S a

theorem tail_sound {tl : List Nat} {wb : World} : ∀ (l : List Nat) (listed : Array Bool) (a : Act) (w : World), chkT md ops tl l listed = true → wpList P ops Q (pick ops.toList l) a w →
    anyE F P md ops Q tl wb l.length listed a w
  | [], listed, a, w, hc, h => ⟨by simpa [chkT] using hc, by simpa [pick, wpList] using h⟩
  | i :: l, listed, a, w, hc, h => by
    simp only [chkT, Bool.and_eq_true, beq_iff_eq] at hc
    obtain ⟨⟨hr, ht⟩, hc⟩ := hc
    refine ⟨fun h0 => (by rw [h0] at hr; cases hr), fun j hj => ?_⟩
    rw [hr] at hj
    obtain rfl : j = i := by simpa using hj
    have hmem : j ∈ Region.ready md ops listed := by rw [hr]; simp
    obtain ⟨_, o, ho, _⟩ := mem_ready.1 hmem
    have hn : nth ops.toList j = o := nth_of (by simpa using ho)
    simp only [pick, hn, wpList] at h
    rw [if_pos ht]
    unfold wpOp
    simp only [ho]
    have fin : ∀ a' w', wpList P ops Q (pick ops.toList l) a' w' → (tl.contains j = false → Ext F wb w') ∧ anyE F P md ops Q tl wb l.length (listed.setIfInBounds j true) a' w' :=
      fun a' w' h' => ⟨fun hf => (by rw [ht] at hf; cases hf), tail_sound l _ a' w' hc h'⟩
    split
    · rename_i hw
      rw [if_pos hw] at h
      rcases h with h | h
      · exact .inl (Oper.wp_mono fin h)
      · exact .inr h
    · rename_i hw
      rw [if_neg hw] at h
      exact fin _ _ h

theorem seg_sound {tl : List Nat} {W : Array Nat} {wb : World} (hW : waitsB md ops W = true) (hs : Region.noSelect ops = true) {k : Array Bool → Bool} {n : Nat} {K : Act → Prop}
    (hk : ∀ (listed : Array Bool) (a : Act), Closed md ops listed → k listed = true → K a → anyE F P md ops Q tl wb n listed a wb) :
    ∀ (l : List Nat) (listed : Array Bool) (a : Act), Closed md ops listed → chkS md ops W tl l listed k = true → wpQuiet P ops (Cls F wb) K (pick ops.toList l) a →
      anyE F P md ops Q tl wb (l.length + n) listed a wb
  | [], listed, a, hcl, hc, h => by simpa using hk listed a hcl (by simpa [chkS] using hc) (by simpa [pick, wpQuiet] using h)
  | i :: l, listed, a, hcl, hc, h => by
    simp only [chkS, Bool.and_eq_true] at hc
    obtain ⟨⟨hr, hf⟩, hc⟩ := hc
    have hmem : i ∈ Region.ready md ops listed := by simpa using hr
    obtain ⟨_, o, ho, _⟩ := mem_ready.1 hmem
    have hn : nth ops.toList i = o := nth_of (by simpa using ho)
    simp only [freeW, ho, Bool.and_eq_true, List.all_eq_true, List.mem_range] at hf
    obtain ⟨⟨hnc, htl⟩, hall⟩ := hf
    simp only [pick, hn, wpQuiet] at h
    obtain ⟨v, hy, h'⟩ := yld_of_quiet hnc h
    have := seg_sound hW hs hk l _ _ (hcl.step hmem) hc h'
    rw [List.length_cons, Nat.add_right_comm]
    refine anyE_first hW ho (Region.noSelect_spec hs) _ listed a wb hcl (Ext.refl _) (fun j oj hj hne hun => ?_) hmem hy this
    have h2 := hall j (Array.getElem?_eq_some_iff.1 hj).1
    simp only [hj, Bool.or_eq_true, beq_iff_eq, hne, hun, Bool.false_eq_true, false_or, Bool.and_eq_true, Bool.not_eq_true'] at h2
    exact h2

theorem walk_sound {tl : List Nat} {W : Array Nat} (hW : waitsB md ops W = true) (hs : Region.noSelect ops = true) : ∀ (pl : List (List Nat × Nat)) (last : List Nat) (listed : Array Bool) (a : Act) (w : World),
    Closed md ops listed → chk md ops W tl pl last listed = true → walk F P ops Q (pick ops.toList tl) (pl.map fun x => (pick ops.toList x.1, nth ops.toList x.2)) (pick ops.toList last) w a →
    anyE F P md ops Q tl w (planSize pl last tl) listed a w
  | [], last, listed, a, w, hcl, hc, h => by
    have := seg_sound (P := P) (Q := Q) hW hs (k := chkT md ops tl tl) (n := tl.length) (K := fun a' => wpList P ops Q (pick ops.toList tl) a' w) (wb := w)
      (fun l a' _ hk h' => tail_sound tl l a' w hk h') last listed a hcl (by simpa [chk] using hc) (by simpa [walk] using h)
    simpa [planSize] using this
  | (S, i) :: t, last, listed, a, w, hcl, hc, h => by
    have := seg_sound (P := P) (Q := Q) hW hs (wb := w) (n := planSize t last tl + 1) (tl := tl)
      (k := fun l' => Region.ready md ops l' == [i] && !tl.contains i && chk md ops W tl t last (l'.setIfInBounds i true))
      (K := fun a' => wpList P ops (Exit.then (fun a'' w'' => Ext F w w'' ∧ walk F P ops Q (pick ops.toList tl) (t.map fun x => (pick ops.toList x.1, nth ops.toList x.2)) (pick ops.toList last) w'' a'') (fun _ _ _ => False)) [nth ops.toList i] a' w)
      (fun l a' hcl' hk h' => by
        simp only [Bool.and_eq_true, beq_iff_eq, Bool.not_eq_true'] at hk
        obtain ⟨⟨hr, ht⟩, hc'⟩ := hk
        refine ⟨fun h0 => (by rw [h0] at hr; cases hr), fun j hj => ?_⟩
        rw [hr] at hj
        obtain rfl : j = i := by simpa using hj
        have hmem : j ∈ Region.ready md ops l := by rw [hr]; simp
        obtain ⟨_, o, ho, _⟩ := mem_ready.1 hmem
        have hn : nth ops.toList j = o := nth_of (by simpa using ho)
        rw [ht]
        simp only [Bool.false_eq_true, if_false]
        simp only [hn, wpList, Exit.then] at h'
        have fin : ∀ a'' w'', (Ext F w w'' ∧ walk F P ops Q (pick ops.toList tl) (t.map fun x => (pick ops.toList x.1, nth ops.toList x.2)) (pick ops.toList last) w'' a'') →
            (True → Ext F w w'') ∧ anyE F P md ops Q tl w (planSize t last tl) (l.setIfInBounds j true) a'' w'' := fun a'' w'' hh =>
          ⟨fun _ => hh.1, anyE_base hh.1 _ _ _ _ (walk_sound hW hs t last _ a'' w'' (hcl'.step hmem) hc' hh.2)⟩
        unfold wpOp
        simp only [ho]
        split
        · rename_i hw
          rw [if_pos hw] at h'
          rcases h' with h' | ⟨_, a0, w0, hq⟩
          · refine .inl (wp_monoQ (Q' := Exit.then (fun a'' w'' => Ext F w w'' ∧ walk F P ops Q (pick ops.toList tl) (t.map fun x => (pick ops.toList x.1, nth ops.toList x.2)) (pick ops.toList last) w'' a'') (fun _ _ _ => False)) (fun c a1 w1 hq => hq.elim) (fun a1 w1 hq => hq.elim) (Oper.wp_mono fin h'))
          · exact hq.elim
        · rename_i hw
          rw [if_neg hw] at h'
          exact fin _ _ h') S listed a hcl (by simpa [chk] using hc) (by simpa [walk] using h)
    have e : planSize ((S, i) :: t) last tl = S.length + (planSize t last tl + 1) := by simp [planSize]; omega
    rw [e]
    exact this

theorem region (F : Nat → Prop) {id : Nat} {l : List Oper} {a : Act} {w : World} (pl : List (List Nat × Nat)) (last tl : List Nat) (hm : P.follows .mixedOrders = true)
    (hB : (waitsB .any l.toArray (Region.before l.toArray) && Region.noSelect l.toArray && chk .any l.toArray (Region.before l.toArray) tl pl last (Array.replicate l.length false) && planSize pl last tl == l.length) = true)
    (h : ∀ w', Rg.Ext w w' → walk F P l.toArray Q (pick l tl) (pl.map fun x => (pick l x.1, nth l x.2)) (pick l last) w' a) : (Code.region id l.toArray true).wp P Q a w := by
  simp only [Bool.and_eq_true, beq_iff_eq] at hB
  obtain ⟨⟨⟨hW, hs⟩, hc⟩, hsz⟩ := hB
  refine wp_region_any hm (anyE_any (F := F) (tl := tl) (wb := { w with drawn := w.drawn + 1 }) _ _ _ _ ?_)
  have := walk_sound (F := F) (P := P) (Q := Q) (md := .any) (ops := l.toArray) (tl := tl) hW hs pl last (Array.replicate l.length false) a { w with drawn := w.drawn + 1 } (by
    intro j o _ hl
    exfalso
    simp [Array.getElem?_replicate] at hl
    split at hl <;> simp_all) (by simpa using hc) (by simpa using h _ (Below.drew (Below.refl _ w)))
  rw [hsz] at this
  simpa using this

/-- The first piece and its operation; what follows is held back. -/
theorem walk_at {l : List Oper} {tail last : List Oper} {S : List Nat} {i : Nat} {t : List (List Nat × Nat)} {w : World} {a : Act}
    (h : ∀ K : Act → World → Prop, RowKit.Hid (∀ a' w', walk F P ops Q tail (t.map fun x => (pick l x.1, nth l x.2)) last w' a' → K a' w') →
      wpQuiet P ops (Cls F w) (fun a' => wpList P ops (Exit.then (fun a'' w'' => Ext F w w'' ∧ K a'' w'') (fun _ _ _ => False)) [nth l i] a' w) (pick l S) a) :
    walk F P ops Q tail (((S, i) :: t).map fun x => (pick l x.1, nth l x.2)) last w a :=
  h _ (Lib.hid fun _ _ h => h)
/-- The last piece and the tail. -/
theorem walk_end {l : List Oper} {tail last : List Oper} {w : World} {a : Act}
    (h : wpQuiet P ops (Cls F w) (fun a' => wpList P ops Q tail a' w) last a) :
    walk F P ops Q tail (([] : List (List Nat × Nat)).map fun x => (pick l x.1, nth l x.2)) last w a := h
end
end Rf
end Go.Proofs.YtgbgplijpomkeaaDoor

/- Walks of package word: Int, sum, Add, Sub, Cmp. -/
namespace Go.Proofs.YtgbgplijpomkeaaDoor
open Go.RowKit Rp Rg Ops Mm Ar Wm
namespace Wd

/-- Cell k is set: the rest is as it was. -/
theorem grow_at {α : Type} (V : α → Value) (f : Nat → α) (z : α) (k i : Nat) : V (if i < k + 1 then f i else z) = if i = k then V (f k) else V (if i < k then f i else z) := by
  by_cases h : i = k
  · subst h; simp
  · rw [if_neg h]
    by_cases h2 : i < k
    · rw [if_pos h2, if_pos (Nat.lt_succ_of_lt h2)]
    · rw [if_neg h2, if_neg (by omega)]

theorem word_small (n : Nat) (h0 : n < m64) : wordA n = #[.int .u64 (n : Int), .int .u64 0, .int .u64 0, .int .u64 0] := by
  simp only [wordA, arr, List.range_succ_eq_map, List.range_zero, List.map_cons, List.map_nil, u64V]
  have e0 : limb n 0 = n := by simp [limb, Nat.mod_eq_of_lt h0]
  have e : ∀ k, limb n (k + 1) = 0 := fun k => by
    unfold limb
    rw [Nat.div_eq_of_lt (Nat.lt_of_lt_of_le h0 (by rw [Nat.pow_succ]; exact Nat.le_mul_of_pos_left _ (pow_pos' k)))]
    simp
  simp [e0, e]

def sub64Entry : Array Value → Sem Value := fun args => do
  let (x, y, b) ← Extern.MathBitsCarry.three "Sub64" args
  pure (Extern.MathBitsCarry.pair ((x + Extern.MathBitsCarry.m64 - y - b) % Extern.MathBitsCarry.m64) (if x < y + b then 1 else 0))
theorem run_sub64 {P : Program} (x y c : Nat) (hc : c ≤ 1) (w : World) : (sub64Entry #[.int .u64 x, .int .u64 y, .int .u64 c]).run P w =
    .ok (.tuple #[.int .u64 ((x + m64 - y - c) % m64 : Nat), .int .u64 ((if x < y + c then 1 else 0 : Nat) : Int)]) w := by
  have : c = 0 ∨ c = 1 := by omega
  rcases this with rfl | rfl <;> rfl
end Wd
end Go.Proofs.YtgbgplijpomkeaaDoor

/- Walks of package word: Add, Sub, Cmp. -/
namespace Go.Proofs.YtgbgplijpomkeaaDoor
open Go.RowKit Rp Rg Ops Mm Ar Wm
namespace Wd
theorem cmp_step {x y k : Nat} (h : x / m64 ^ (k + 1) = y / m64 ^ (k + 1)) : (limb x k < limb y k ↔ x / m64 ^ k < y / m64 ^ k) ∧ (x / m64 ^ k = y / m64 ^ k ↔ limb x k = limb y k) := by
  unfold limb
  rw [Nat.pow_succ, ← Nat.div_div_eq_div_mul, ← Nat.div_div_eq_div_mul] at h
  generalize x / m64 ^ k = A at *
  generalize y / m64 ^ k = B at *
  have := Nat.div_add_mod A m64
  have := Nat.div_add_mod B m64
  rw [h] at *
  omega

end Wd
end Go.Proofs.YtgbgplijpomkeaaDoor

/- Words over the lifted state: as lists of four numbers; contracts of package word. -/
namespace Go.Proofs.YtgbgplijpomkeaaDoor
open Go.RowKit Rg Wm Ar
namespace Lf
def limbs (x : Nat) : List Nat := [limb x 0, limb x 1, limb x 2, limb x 3]
abbrev wV (x : Nat) : V := .a ((limbs x).map uK)
theorem limbs_len (x : Nat) : (limbs x).length = 4 := rfl
theorem limbs_get (x : Nat) {k : Nat} (h : k < 4) : (limbs x).getD k default = limb x k := by
  match k, h with
  | 0, _ => rfl
  | 1, _ => rfl
  | 2, _ => rfl
  | 3, _ => rfl
theorem limb_lt64 (x k : Nat) : limb x k < 18446744073709551616 := limb_lt x k
theorem limbs_lt (x k : Nat) : (limbs x).getD k default < 18446744073709551616 := by
  rcases Nat.lt_or_ge k 4 with h | h
  · rw [limbs_get x h]; exact limb_lt64 x k
  · rw [List.getD_eq_getElem?_getD, List.getElem?_eq_none (by rw [limbs_len]; exact h)]; exact Nat.zero_lt_succ _
theorem wordA_list (x : Nat) : wordA x = #[.int .u64 (limb x 0 : Int), .int .u64 (limb x 1 : Int), .int .u64 (limb x 2 : Int), .int .u64 (limb x 3 : Int)] := rfl
theorem exact_word (x : Nat) : Exact (wV x) (.agg (wordA x)) := by
  rw [wordA_list]
  refine ⟨fun w g => .a rfl (fun u hu => ?_) (fun j u y hj hy => ?_), fun w g y h => ?_⟩
  · obtain ⟨a, _, rfl⟩ := List.mem_map.1 hu; rfl
  · match j with
    | 0 => simp [limbs] at hj hy; subst hj; subst hy; exact .k _
    | 1 => simp [limbs] at hj hy; subst hj; subst hy; exact .k _
    | 2 => simp [limbs] at hj hy; subst hj; subst hy; exact .k _
    | 3 => simp [limbs] at hj hy; subst hj; subst hy; exact .k _
    | j + 4 => simp [limbs] at hj
  · cases h with
    | @a _ _ vs hl h1 hc =>
      have hs : vs.size = 4 := by simpa [limbs] using hl.symm
      congr 1
      apply Array.ext
      · simpa using hs
      · intro i h1 h2
        have hv : vs[i]? = some vs[i] := Array.getElem?_eq_getElem h1
        match i with
        | 0 => exact rep_k (hc 0 _ _ rfl hv)
        | 1 => exact rep_k (hc 1 _ _ rfl hv)
        | 2 => exact rep_k (hc 2 _ _ rfl hv)
        | 3 => exact rep_k (hc 3 _ _ rfl hv)
        | i + 4 => omega
theorem limbs_eq {x y : Nat} (h : x % M256 = y % M256) : limbs x = limbs y := by
  have := wordA_eq h
  rw [wordA_list, wordA_list] at this
  simp only [Array.mk.injEq, List.cons.injEq, Value.int.injEq, true_and, and_true] at this
  obtain ⟨h1, h2, h3, h4⟩ := this
  simp only [limbs, List.cons.injEq, and_true]
  exact ⟨by omega, by omega, by omega, by omega⟩
theorem limbs_inj {x y : Nat} (h : limbs x = limbs y) : x % M256 = y % M256 := by
  refine wordA_inj ?_
  simp only [limbs, List.cons.injEq, and_true] at h
  obtain ⟨h1, h2, h3, h4⟩ := h
  rw [wordA_list, wordA_list, h1, h2, h3, h4]
theorem limbs_iff {x y : Nat} : limbs x = limbs y ↔ x % M256 = y % M256 := ⟨limbs_inj, limbs_eq⟩
theorem limbs_small {n : Nat} (h : n < m64) : limbs n = [n, 0, 0, 0] := by
  have h0 : limb n 0 = n := by unfold limb; rw [Nat.pow_zero, Nat.div_one, Nat.mod_eq_of_lt h]
  have hi : ∀ i, 1 ≤ i → limb n i = 0 := fun i hi => by
    have : m64 ≤ m64 ^ i := by
      have := Nat.pow_le_pow_right (show 0 < m64 from m64_pos) hi
      rwa [Nat.pow_one] at this
    unfold limb; rw [Nat.div_eq_of_lt (by omega), Nat.zero_mod]
  unfold limbs
  rw [h0, hi 1 (by decide), hi 2 (by decide), hi 3 (by decide)]
/-- The number of four parts. -/
def numOf (l : List Nat) : Nat := val (fun k => l.getD k 0) 4
theorem limbs_num {l : List Nat} (h : l.length = 4) (hl : ∀ a ∈ l, a < m64) : limbs (numOf l) = l := by
  match l, h with
  | [a, b, c, d], _ =>
    have hk : ∀ k, k < 4 → (fun k => [a, b, c, d].getD k 0) k < m64 := fun k hk => by
      match k, hk with
      | 0, _ => exact hl a (by simp)
      | 1, _ => exact hl b (by simp)
      | 2, _ => exact hl c (by simp)
      | 3, _ => exact hl d (by simp)
    unfold limbs numOf
    rw [limb_val hk (by decide : 0 < 4), limb_val hk (by decide : 1 < 4), limb_val hk (by decide : 2 < 4), limb_val hk (by decide : 3 < 4)]
    rfl
theorem numOf_lt {l : List Nat} (h : l.length = 4) (hl : ∀ a ∈ l, a < m64) : numOf l < M256 := by
  match l, h with
  | [a, b, c, d], _ =>
    refine val_lt fun k hk => ?_
    match k, hk with
    | 0, _ => exact hl a (by simp)
    | 1, _ => exact hl b (by simp)
    | 2, _ => exact hl c (by simp)
    | 3, _ => exact hl d (by simp)
/-! ### Bytes -/
def beB (x : Nat) : Nat → List UInt8
  | 0 => []
  | n + 1 => UInt8.ofNat (x / 256 ^ n % 256) :: beB x n
theorem beB_len (x n : Nat) : (beB x n).length = n := by induction n <;> simp [beB, *]
theorem beB_num (x : Nat) : ∀ n, Ps.beN (beB x n) = x % 256 ^ n
  | 0 => by simp [beB, Ps.beN, Ps.nat8, Ps.pos, Nat.mod_one]
  | n + 1 => by
    have ih := beB_num x n
    have e : Ps.beN (beB x (n + 1)) = x / 256 ^ n % 256 * 256 ^ n + Ps.beN (beB x n) := by
      simp only [beB, Ps.beN, Ps.nat8, List.map_cons, Ps.pos, List.length_map, beB_len, UInt8.toNat_ofNat']
      simp
    rw [e, ih, Nat.pow_succ, Nat.mod_mul, Nat.mul_comm]
    omega
theorem m256_bytes : M256 = 256 ^ 32 := by unfold M256 m64; decide
def wordB (x : Nat) : List UInt8 := beB x 32
theorem wordB_len (x : Nat) : (wordB x).length = 32 := beB_len x 32
theorem wordB_num (x : Nat) : Ps.beN (wordB x) = x % M256 := by rw [m256_bytes]; exact beB_num x 32
def bytesR (x i : Nat) : List UInt8 := (List.range 32).map fun j => if j < i then UInt8.ofNat (x / 256 ^ (31 - j) % 256) else 0
theorem bytesR_len (x i : Nat) : (bytesR x i).length = 32 := by simp [bytesR]
theorem bytesR_full (x : Nat) : bytesR x 32 = wordB x := by
  have e : ∀ n, beB x n = (List.range n).map fun j => UInt8.ofNat (x / 256 ^ (n - 1 - j) % 256) := by
    intro n
    induction n with
    | zero => rfl
    | succ n ih =>
      rw [beB, ih, List.range_succ_eq_map, List.map_cons, List.map_map]
      congr 1
      refine List.map_congr_left fun j hj => ?_
      have := List.mem_range.1 hj
      simp only [Function.comp]
      rw [show n + 1 - 1 - (j + 1) = n - 1 - j by omega]
  unfold wordB bytesR
  rw [e]
  refine List.map_congr_left fun j hj => ?_
  rw [if_pos (List.mem_range.1 hj)]
theorem bytesR_set (x i : Nat) (_hi : i < 32) {b : Nat} (hb : b % 256 = x / 256 ^ (31 - i) % 256) : (bytesR x i).set i (UInt8.ofNat b) = bytesR x (i + 1) := by
  apply List.ext_getElem
  · simp [bytesR]
  · intro j h1 h2
    rw [List.getElem_set]
    simp only [bytesR, List.getElem_map, List.getElem_range]
    by_cases h : i = j
    · subst h
      rw [if_pos rfl, if_pos (by omega)]
      apply UInt8.toNat_inj.1
      rw [UInt8.toNat_ofNat', UInt8.toNat_ofNat']
      omega
    · rw [if_neg h]
      by_cases h3 : j < i
      · rw [if_pos h3, if_pos (by omega)]
      · rw [if_neg h3, if_neg (by omega)]
theorem limb_byte (x k r : Nat) (hr : r < 8) : limb x k / 2 ^ (r * 8) % 256 = x / 256 ^ (8 * k + r) % 256 := by
  unfold limb
  have e1 : (256 : Nat) ^ (8 * k + r) = m64 ^ k * 2 ^ (r * 8) := by
    rw [Nat.pow_add, Nat.pow_mul]
    have h1 : (256 : Nat) ^ 8 = m64 := by unfold m64; decide
    have h2 : (256 : Nat) ^ r = 2 ^ (r * 8) := by rw [Nat.mul_comm, Nat.pow_mul]
    rw [h1, h2]
  rw [e1, ← Nat.div_div_eq_div_mul]
  generalize x / m64 ^ k = y
  have h3 : m64 = 2 ^ (r * 8) * 2 ^ ((8 - r) * 8) := by rw [← Nat.pow_add, show r * 8 + (8 - r) * 8 = 64 from by omega]; unfold m64; decide
  have h4 : (256 : Nat) ∣ 2 ^ ((8 - r) * 8) := by
    refine ⟨2 ^ ((8 - r) * 8 - 8), ?_⟩
    have : (8 - r) * 8 = 8 + ((8 - r) * 8 - 8) := by omega
    rw [this, Nat.pow_add]; simp
  rw [h3, Nat.mod_mul_right_div_self]
  exact Nat.mod_mod_of_dvd _ h4
theorem pow256 (i : Nat) : (256 : Nat) ^ i = m64 ^ (i / 8) * 2 ^ (i % 8 * 8) := by
  have h1 : (256 : Nat) ^ 8 = m64 := by unfold m64; decide
  have h2 : (256 : Nat) ^ (i % 8) = 2 ^ (i % 8 * 8) := by rw [Nat.mul_comm, Nat.pow_mul]
  rw [← h1, ← h2, ← Nat.pow_mul, ← Nat.pow_add, Nat.div_add_mod]
theorem limb_set {V b i : Nat} (hV : V < 256 ^ i) (hb : b < 256) (k : Nat) : limb (V + b * 256 ^ i) k = if k = i / 8 then limb V k ||| (b * 2 ^ (i % 8 * 8) % 2 ^ 64) else limb V k := by
  have hp := pow256 i
  have hm : 2 ^ 64 = m64 := by unfold m64; decide
  have hr : i % 8 < 8 := Nat.mod_lt _ (by decide)
  have h64 : m64 = 2 ^ (i % 8 * 8) * 2 ^ (64 - i % 8 * 8) := by rw [← Nat.pow_add, ← hm, show i % 8 * 8 + (64 - i % 8 * 8) = 64 from by omega]
  have hpos : ∀ j, 0 < m64 ^ j := fun j => pow_pos' j
  have hle : b * 2 ^ (i % 8 * 8) + 2 ^ (i % 8 * 8) ≤ m64 := by
    have h1 : (2 : Nat) ^ 8 ≤ 2 ^ (64 - i % 8 * 8) := Nat.pow_le_pow_right (by decide) (by omega)
    have h2 : (b + 1) * 2 ^ (i % 8 * 8) ≤ 2 ^ (64 - i % 8 * 8) * 2 ^ (i % 8 * 8) := Nat.mul_le_mul_right _ (by omega)
    rw [Nat.mul_comm (2 ^ (64 - i % 8 * 8)), ← h64, Nat.add_mul, Nat.one_mul] at h2
    exact h2
  have hs0 : 0 < 2 ^ (i % 8 * 8) := Nat.two_pow_pos _
  rcases Nat.lt_trichotomy k (i / 8) with h | h | h
  · rw [if_neg (by omega)]
    obtain ⟨j, hj⟩ : ∃ j, i / 8 = k + 1 + j := ⟨i / 8 - k - 1, by omega⟩
    unfold limb
    rw [hp, hj, show b * (m64 ^ (k + 1 + j) * 2 ^ (i % 8 * 8)) = m64 ^ k * (m64 * (m64 ^ j * (b * 2 ^ (i % 8 * 8)))) from by rw [Nat.pow_add, Nat.pow_add, Nat.pow_one]; ac_rfl, Nat.add_mul_div_left _ _ (hpos k), Nat.add_mul_mod_self_left]
  · rw [if_pos h]
    subst h
    have hlt : V / m64 ^ (i / 8) < 2 ^ (i % 8 * 8) := Nat.div_lt_of_lt_mul (by rw [← hp]; exact hV)
    unfold limb
    rw [hp, show b * (m64 ^ (i / 8) * 2 ^ (i % 8 * 8)) = m64 ^ (i / 8) * (b * 2 ^ (i % 8 * 8)) from by ac_rfl, Nat.add_mul_div_left _ _ (hpos _)]
    rw [Nat.mod_eq_of_lt (show V / m64 ^ (i / 8) < m64 by omega), hm, Nat.mod_eq_of_lt (show b * 2 ^ (i % 8 * 8) < m64 by omega), Nat.mod_eq_of_lt (by omega)]
    rw [Nat.or_comm, Nat.mul_comm b, ← Nat.two_pow_add_eq_or_of_lt hlt, Nat.add_comm]
  · rw [if_neg (by omega)]
    have h1 : (256 : Nat) ^ (i + 1) ≤ m64 ^ k := by
      have : (256 : Nat) ^ (i + 1) ≤ 256 ^ (8 * k) := Nat.pow_le_pow_right (by decide) (by omega)
      rw [Nat.pow_mul] at this
      have e : (256 : Nat) ^ 8 = m64 := by unfold m64; decide
      rwa [e] at this
    have h2 : V + b * 256 ^ i < 256 ^ (i + 1) := by
      have h2 := Nat.mul_le_mul_right (256 ^ i) (Nat.succ_le_of_lt hb)
      rw [Nat.pow_succ, Nat.mul_comm (256 ^ i)]
      rw [Nat.succ_mul] at h2
      omega
    unfold limb
    rw [Nat.div_eq_of_lt (by omega), Nat.div_eq_of_lt (by omega)]
/-- The number of the last i bytes. -/
def tailN (l : List UInt8) (i : Nat) : Nat := Ps.beN (l.drop (l.length - i))
theorem tailN_zero (l : List UInt8) : tailN l 0 = 0 := by unfold tailN; rw [Nat.sub_zero, List.drop_length]; rfl
theorem tailN_all (l : List UInt8) : tailN l l.length = Ps.beN l := by unfold tailN; rw [Nat.sub_self, List.drop_zero]
theorem tailN_lt (l : List UInt8) {i : Nat} (h : i ≤ l.length) : tailN l i < 256 ^ i := by
  have := Ps.beN_lt (l.drop (l.length - i))
  rwa [List.length_drop, show l.length - (l.length - i) = i by omega] at this
theorem tailN_succ (l : List UInt8) {i : Nat} (h : i < l.length) : tailN l (i + 1) = tailN l i + (l.getD (l.length - 1 - i) default).toNat * 256 ^ i := by
  unfold tailN
  rw [show l.length - (i + 1) = l.length - 1 - i by omega, List.drop_eq_getElem_cons (by omega)]
  have e : l.length - 1 - i + 1 = l.length - i := by omega
  rw [e]
  have e2 : ∀ (a : UInt8) (r : List UInt8), Ps.beN (a :: r) = a.toNat * 256 ^ r.length + Ps.beN r := fun a r => by simp [Ps.beN, Ps.nat8, Ps.pos]
  rw [e2, List.length_drop, show l.length - (l.length - i) = i by omega, Nat.add_comm]
  simp [List.getD_eq_getElem?_getD, List.getElem?_eq_getElem (show l.length - 1 - i < l.length by omega)]
attribute [irreducible] bytesR limbs tailN wordB
end Lf
end Go.Proofs.YtgbgplijpomkeaaDoor

/- Package hex: the plain law of notations by sixteens. -/
namespace Go.Proofs.YtgbgplijpomkeaaDoor
open Wm Ar
set_option maxRecDepth 20000
namespace Hx
def digL : List UInt8 := [48, 49, 50, 51, 52, 53, 54, 55, 56, 57, 97, 98, 99, 100, 101, 102]
def dig (a : UInt8) : UInt8 := digL.getD a.toNat default
def ud (c : Nat) : UInt8 := if 48 ≤ c ∧ c ≤ 57 then UInt8.ofNat (c - 48) else if 97 ≤ c ∧ c ≤ 102 then UInt8.ofNat (c - 87) else 16
theorem ud_dig0 : ∀ n, n < 16 → ud (dig (UInt8.ofNat n)).toNat = UInt8.ofNat n := by decide
theorem dig_ud0 : ∀ c, c < 256 → (ud c).toNat ≤ 15 → dig (ud c) = UInt8.ofNat c := by decide
theorem of_toNat (a : UInt8) : UInt8.ofNat a.toNat = a := by simp
theorem ud_dig {a : UInt8} (h : a.toNat < 16) : ud (dig a).toNat = a := by have := ud_dig0 a.toNat h; rwa [of_toNat] at this
theorem dig_ud {c : UInt8} (h : (ud c.toNat).toNat ≤ 15) : dig (ud c.toNat) = c := by have := dig_ud0 c.toNat c.toNat_lt h; rwa [of_toNat] at this
theorem dig_lt0 : ∀ n, n < 16 → ∀ m, m < 16 → (dig (UInt8.ofNat n) < dig (UInt8.ofNat m) ↔ n < m) := by decide
theorem dig_lt {a b : UInt8} (ha : a.toNat < 16) (hb : b.toNat < 16) : dig a < dig b ↔ a.toNat < b.toNat := by
  have := dig_lt0 a.toNat ha b.toNat hb; rwa [of_toNat, of_toNat] at this
theorem dig_inj {a b : UInt8} (ha : a.toNat < 16) (hb : b.toNat < 16) (h : dig a = dig b) : a = b := by rw [← ud_dig ha, ← ud_dig hb, h]
def Small (l : List UInt8) : Prop := ∀ a ∈ l, a.toNat < 16
/-- The digits of bytes. -/
def hv : List UInt8 → List UInt8
  | [] => []
  | x :: l => UInt8.ofNat (x.toNat / 16) :: UInt8.ofNat (x.toNat % 16) :: hv l
def pairs : List UInt8 → List UInt8
  | a :: b :: l => UInt8.ofNat (a.toNat * 16 + b.toNat) :: pairs l
  | _ => []
theorem hv_len : ∀ l, (hv l).length = 2 * l.length
  | [] => rfl
  | x :: l => by simp only [hv, List.length_cons, hv_len l]; omega
theorem hv_small : ∀ l, Small (hv l)
  | [] => fun a h => by cases h
  | x :: l => fun a h => by
    have hx := x.toNat_lt
    simp only [hv, List.mem_cons] at h
    rcases h with rfl | rfl | h
    · rw [UInt8.toNat_ofNat']; omega
    · rw [UInt8.toNat_ofNat']; omega
    · exact hv_small l a h
theorem hv_app : ∀ a b, hv (a ++ b) = hv a ++ hv b
  | [], _ => rfl
  | x :: a, b => by simp only [List.cons_append, hv, hv_app a b]
theorem pairs_hv : ∀ l, pairs (hv l) = l
  | [] => rfl
  | x :: l => by
    have hx := x.toNat_lt
    simp only [hv, pairs, pairs_hv l]
    congr 1
    apply UInt8.toNat_inj.1
    simp only [UInt8.toNat_ofNat']
    omega
theorem hv_pairs : ∀ {l}, Small l → l.length % 2 = 0 → hv (pairs l) = l
  | [], _, _ => rfl
  | [_], _, h => by simp at h
  | a :: b :: l, hs, h => by
    have ha := hs a (by simp)
    have hb := hs b (by simp)
    have ih := hv_pairs (l := l) (fun c hc => hs c (by simp [hc])) (by simp only [List.length_cons] at h; omega)
    simp only [pairs, hv, ih]
    congr 1
    · apply UInt8.toNat_inj.1
      simp only [UInt8.toNat_ofNat']
      omega
    · congr 1
      apply UInt8.toNat_inj.1
      simp only [UInt8.toNat_ofNat']
      omega
theorem pairs_len : ∀ l, (pairs l).length = l.length / 2
  | [] => rfl
  | [_] => by simp [pairs]
  | a :: b :: l => by simp only [pairs, List.length_cons, pairs_len l]; omega
/-- What is behind 0x. -/
def digs : List UInt8 → Option (List UInt8)
  | [] => some []
  | c :: l => if (ud c.toNat).toNat ≤ 15 then (digs l).map (ud c.toNat :: ·) else none
def halves : List UInt8 → Option (List UInt8)
  | a :: b :: l => if a = 48 ∧ b = 120 then digs l else none
  | _ => none
def txt (d : List UInt8) : List UInt8 := 48 :: 120 :: d.map dig
def print (l : List UInt8) : List UInt8 := txt (hv l)
theorem digs_of : ∀ {d}, Small d → digs (d.map dig) = some d
  | [], _ => rfl
  | a :: d, h => by
    have ha := h a (by simp)
    simp only [List.map_cons, digs, ud_dig ha, digs_of (d := d) fun c hc => h c (by simp [hc])]
    rw [if_pos (by omega)]; rfl
theorem digs_spec : ∀ {l d}, digs l = some d → Small d ∧ l = d.map dig
  | [], d, h => by
    cases h
    exact ⟨fun _ ha => (List.not_mem_nil ha).elim, rfl⟩
  | c :: l, d, h => by
    simp only [digs] at h
    split at h
    · rename_i hc
      obtain ⟨e, he, rfl⟩ := Option.map_eq_some_iff.1 h
      obtain ⟨h1, h2⟩ := digs_spec he
      refine ⟨fun a ha => ?_, ?_⟩
      · rcases List.mem_cons.1 ha with rfl | ha
        · omega
        · exact h1 a ha
      · rw [List.map_cons, dig_ud hc, ← h2]
    · cases h
theorem halves_txt {d : List UInt8} (h : Small d) : halves (txt d) = some d := by
  show (if (48 : UInt8) = 48 ∧ (120 : UInt8) = 120 then digs (d.map dig) else none) = some d
  rw [if_pos (And.intro rfl rfl), digs_of h]
theorem halves_spec {s d : List UInt8} (h : halves s = some d) : Small d ∧ s = txt d := by
  match s, h with
  | a :: b :: l, h =>
    simp only [halves] at h
    split at h
    · rename_i hab
      obtain ⟨rfl, rfl⟩ := hab
      obtain ⟨h1, h2⟩ := digs_spec h
      exact ⟨h1, by rw [txt, ← h2]⟩
    · cases h
def parse (s : List UInt8) : Option (List UInt8) := match halves s with
  | some d => if d.length % 2 = 1 then none else some (pairs d)
  | none => none
theorem parse_print (l : List UInt8) : parse (print l) = some l := by
  unfold parse print
  rw [halves_txt (hv_small l)]
  simp only
  rw [if_neg (by rw [hv_len]; omega), pairs_hv]
theorem print_parse {s l : List UInt8} (h : parse s = some l) : print l = s := by
  unfold parse at h
  split at h
  · rename_i d hd
    obtain ⟨h1, rfl⟩ := halves_spec hd
    split at h
    · cases h
    · cases h
      rw [print, hv_pairs h1 (by omega)]
  · cases h
theorem print_len (l : List UInt8) : (print l).length = 2 + 2 * l.length := by simp only [print, txt, List.length_cons, List.length_map, hv_len]; omega
theorem print_app (a b : List UInt8) : print (a ++ b) = print a ++ (print b).drop 2 := by simp [print, txt, hv_app]
/-! ### Numbers -/
def nat (d : List UInt8) : List Nat := Ps.nat8 d
def num (d : List UInt8) : Nat := Ps.pos 16 (nat d)
/-- At least one digit, and no nought ahead of others. -/
def Can (d : List UInt8) : Prop := d ≠ [] ∧ (1 < d.length → d.head? ≠ some 0)
def nz : List UInt8 → List UInt8
  | a :: b :: l => if a = 0 then nz (b :: l) else a :: b :: l
  | l => l
theorem nat_len (d : List UInt8) : (nat d).length = d.length := by simp [nat, Ps.nat8]
theorem nat_small {d : List UInt8} (h : Small d) : ∀ a ∈ nat d, a < 16 := fun a ha => by
  obtain ⟨x, hx, rfl⟩ := List.mem_map.1 ha
  exact h x hx
theorem num_cons (a : UInt8) (d : List UInt8) : num (a :: d) = a.toNat * 16 ^ d.length + num d := by simp [num, nat, Ps.nat8, Ps.pos]
theorem num_one (d : List UInt8) (a : UInt8) : num (d ++ [a]) = num d * 16 + a.toNat := by
  simp only [num, nat, Ps.nat8, List.map_append, Ps.pos_append, List.map_cons, List.map_nil, List.length_cons, List.length_nil, Ps.pos]
  omega
theorem nz_num : ∀ d, num (nz d) = num d
  | [] => rfl
  | [_] => rfl
  | a :: b :: l => by
    simp only [nz]
    split
    · rename_i h; subst h; rw [nz_num (b :: l), num_cons 0 (b :: l)]; simp
    · rfl
theorem nz_len : ∀ d, (nz d).length ≤ d.length
  | [] => Nat.le_refl _
  | [_] => Nat.le_refl _
  | a :: b :: l => by
    simp only [nz]
    split
    · have := nz_len (b :: l); simp only [List.length_cons] at this ⊢; omega
    · exact Nat.le_refl _
theorem nz_can : ∀ {d}, d ≠ [] → Can (nz d)
  | [], h => absurd rfl h
  | [a], _ => ⟨by simp [nz], fun h => by simp [nz] at h⟩
  | a :: b :: l, _ => by
    simp only [nz]
    split
    · exact nz_can (by simp)
    · rename_i h; exact ⟨by simp, fun _ e => by simp at e; exact h e⟩
theorem nz_small : ∀ {d}, Small d → Small (nz d)
  | [], h => h
  | [_], h => h
  | a :: b :: l, h => by
    simp only [nz]
    split
    · exact nz_small fun c hc => h c (by simp only [List.mem_cons] at hc ⊢; exact .inr hc)
    · exact h
theorem can_nl {d : List UInt8} (h : Can d) (h1 : 1 < d.length) : Ps.NL (nat d) := (Ps.nl_iff d).2 (h.2 h1)
theorem can_order {a b : List UInt8} (ha : Can a) (hb : Can b) (sa : Small a) (sb : Small b) : num a < num b ↔ a.length < b.length ∨ (a.length = b.length ∧ Ps.lexN (nat a) (nat b) = true) := by
  have pa := List.length_pos_iff.2 ha.1
  have pb := List.length_pos_iff.2 hb.1
  have la := nat_len a
  have lb := nat_len b
  unfold num
  rcases Nat.lt_trichotomy a.length b.length with h | h | h
  · have := Ps.pos_len (B := 16) (l := nat a) (m := nat b) (by decide) (by omega) (nat_small sa) (can_nl hb (by omega))
    exact ⟨fun _ => .inl h, fun _ => this⟩
  · have := Ps.pos_lex (B := 16) (l := nat a) (m := nat b) (by omega) (nat_small sa) (nat_small sb)
    rw [this]
    exact ⟨fun k => .inr ⟨h, k⟩, fun k => by rcases k with k | k; omega; exact k.2⟩
  · have := Ps.pos_len (B := 16) (l := nat b) (m := nat a) (by decide) (by omega) (nat_small sb) (can_nl ha (by omega))
    exact ⟨fun k => by omega, fun k => by omega⟩
theorem can_inj {a b : List UInt8} (ha : Can a) (hb : Can b) (sa : Small a) (sb : Small b) (h : num a = num b) : a = b := by
  have e1 := can_order ha hb sa sb
  have e2 := can_order hb ha sb sa
  have n1 : ¬ (a.length < b.length ∨ (a.length = b.length ∧ Ps.lexN (nat a) (nat b) = true)) := fun h' => by have := e1.2 h'; omega
  have n2 : ¬ (b.length < a.length ∨ (b.length = a.length ∧ Ps.lexN (nat b) (nat a) = true)) := fun h' => by have := e2.2 h'; omega
  have hl : a.length = b.length := by omega
  refine Ps.nat8_inj (Ps.lexN_eq (l := nat a) (m := nat b) (by rw [nat_len, nat_len]; exact hl) ?_ ?_)
  · rw [← Bool.not_eq_true]; exact fun h' => n1 (.inr ⟨hl, h'⟩)
  · rw [← Bool.not_eq_true]; exact fun h' => n2 (.inr ⟨hl.symm, h'⟩)
theorem num_hv : ∀ l, num (hv l) = Ps.beN l
  | [] => rfl
  | x :: l => by
    have hx := x.toNat_lt
    have e : Ps.beN (x :: l) = x.toNat * 256 ^ l.length + Ps.beN l := by simp [Ps.beN, Ps.nat8, Ps.pos]
    simp only [hv]
    rw [num_cons, num_cons, num_hv l, e, List.length_cons, hv_len, UInt8.toNat_ofNat', UInt8.toNat_ofNat', Nat.mod_eq_of_lt (show x.toNat / 16 < 2 ^ 8 by omega), Nat.mod_eq_of_lt (show x.toNat % 16 < 2 ^ 8 by omega),
      Nat.pow_succ, Nat.pow_mul, show (16 : Nat) ^ 2 = 256 from rfl]
    generalize 256 ^ l.length = p
    have := Nat.div_add_mod x.toNat 16
    have h2 : x.toNat * p = (16 * (x.toNat / 16) + x.toNat % 16) * p := by rw [this]
    rw [h2, Nat.add_mul, ← Nat.add_assoc, Nat.mul_comm p 16, ← Nat.mul_assoc, Nat.mul_comm (x.toNat / 16) 16]
/-- The digits of a number's notation. -/
def numD (x : Nat) : List UInt8 := nz (hv (Lf.wordB x))
theorem numD_num (x : Nat) : num (numD x) = x % M256 := by rw [numD, nz_num, num_hv, Lf.wordB_num]
theorem numD_can (x : Nat) : Can (numD x) := nz_can fun e => by
  have := hv_len (Lf.wordB x)
  rw [e, Lf.wordB_len] at this
  simp at this
theorem numD_small (x : Nat) : Small (numD x) := nz_small (hv_small _)
theorem numD_len (x : Nat) : (numD x).length ≤ 64 := by
  have h1 := nz_len (hv (Lf.wordB x))
  rw [hv_len, Lf.wordB_len] at h1
  exact h1
def parseD (s : List UInt8) : Option (List UInt8) := match halves s with
  | some d => if d.length = 0 ∨ 64 < d.length ∨ (1 < d.length ∧ d.head? = some 0) then none else some d
  | none => none
theorem parseD_num (x : Nat) : parseD (txt (numD x)) = some (numD x) := by
  unfold parseD
  rw [halves_txt (numD_small x)]
  simp only
  rw [if_neg]
  intro h
  have := numD_can x
  have h0 := List.length_pos_iff.2 this.1
  have h1 := numD_len x
  rcases h with h | h | h
  · omega
  · omega
  · exact this.2 h.1 h.2
theorem num_lt {d : List UInt8} (hs : Small d) (hl : d.length ≤ 64) : num d < M256 := by
  have h1 := Ps.pos_lt (nat_small hs)
  have h2 : 16 ^ (nat d).length ≤ 16 ^ 64 := Nat.pow_le_pow_right (by decide) (by rw [nat_len]; exact hl)
  have h3 : (16 : Nat) ^ 64 = M256 := by rw [Lf.m256_bytes]
  unfold num
  omega
theorem num_parseD {s d : List UInt8} (h : parseD s = some d) : num d < M256 ∧ txt (numD (num d)) = s := by
  unfold parseD at h
  split at h
  · rename_i e he
    obtain ⟨h1, rfl⟩ := halves_spec he
    split at h
    · cases h
    · rename_i hn
      cases h
      have hlt := num_lt h1 (by omega)
      refine ⟨hlt, ?_⟩
      congr 1
      refine can_inj (numD_can _) ⟨fun e => hn (.inl (by rw [e]; rfl)), fun h2 e => hn (.inr (.inr ⟨h2, e⟩))⟩ (numD_small _) h1 ?_
      rw [numD_num, Nat.mod_eq_of_lt hlt]
  · cases h
theorem bytesLess_dig : ∀ {a b : List UInt8}, Small a → Small b → Op.bytesLess (a.map dig) (b.map dig) = Ps.lexN (nat a) (nat b)
  | [], [], _, _ => by simp [Op.bytesLess, Ps.lexN, nat, Ps.nat8]
  | [], _ :: _, _, _ => by simp [Op.bytesLess, Ps.lexN, nat, Ps.nat8]
  | _ :: _, [], _, _ => by simp [Op.bytesLess, Ps.lexN, nat, Ps.nat8]
  | x :: a, y :: b, ha, hb => by
    have hx := ha x (by simp)
    have hy := hb y (by simp)
    have ih := bytesLess_dig (a := a) (b := b) (fun c hc => ha c (by simp [hc])) (fun c hc => hb c (by simp [hc]))
    have e : (dig x = dig y) ↔ x = y := ⟨dig_inj hx hy, fun h => by rw [h]⟩
    rw [List.map_cons, List.map_cons, Op.bytesLess, ih]
    simp only [nat, Ps.nat8, List.map_cons, Ps.lexN]
    rw [Bool.eq_iff_iff]
    simp only [Bool.or_eq_true, Bool.and_eq_true, decide_eq_true_eq, beq_iff_eq, dig_lt hx hy, e, UInt8.toNat_inj]
theorem bytesLess_txt {a b : List UInt8} (ha : Small a) (hb : Small b) : Op.bytesLess (txt a) (txt b) = Ps.lexN (nat a) (nat b) := by
  rw [← bytesLess_dig ha hb]
  simp [txt, Op.bytesLess]
theorem order (x y : Nat) : x % M256 < y % M256 ↔ (txt (numD x)).length < (txt (numD y)).length ∨ ((txt (numD x)).length = (txt (numD y)).length ∧ Op.bytesLess (txt (numD x)) (txt (numD y)) = true) := by
  rw [bytesLess_txt (numD_small x) (numD_small y)]
  simp only [txt, List.length_cons, List.length_map, Nat.add_lt_add_iff_right, Nat.add_right_cancel_iff]
  rw [← numD_num x, ← numD_num y]
  exact can_order (numD_can x) (numD_can y) (numD_small x) (numD_small y)
end Hx
end Go.Proofs.YtgbgplijpomkeaaDoor

/- Package code: the plain law of lines. -/
namespace Go.Proofs.YtgbgplijpomkeaaDoor
open Wm Ar
set_option maxRecDepth 100000
namespace Co
abbrev nm (b : UInt8) : List UInt8 := Cn.name b.toNat
abbrev psh (b : UInt8) : Nat := Cn.pushed b.toNat
theorem psh_le (b : UInt8) : psh b ≤ 32 := by
  unfold psh Cn.pushed
  split <;> omega
/-- The place of the operation behind that at p. -/
def nxt (c : List UInt8) (p : Nat) : Nat := min (p + 1 + psh (c.getD p default)) c.length
theorem nxt_gt {c : List UInt8} {p : Nat} (h : p < c.length) : p < nxt c p := by
  unfold nxt
  omega
theorem nxt_le (c : List UInt8) (p : Nat) : nxt c p ≤ c.length := Nat.min_le_right _ _
def pcs (c : List UInt8) : Nat → Nat → List Nat
  | 0, _ => []
  | k + 1, p => if p < c.length then p :: pcs c k (nxt c p) else []
theorem pcs_fuel (c : List UInt8) : ∀ k p, c.length - p ≤ k → pcs c k p = pcs c (c.length - p) p
  | 0, p, h => by rw [show c.length - p = 0 by omega]
  | k + 1, p, h => by
    by_cases hp : p < c.length
    · have hg := nxt_gt hp
      obtain ⟨j, hj⟩ : ∃ j, c.length - p = j + 1 := ⟨c.length - p - 1, by omega⟩
      rw [hj]
      simp only [pcs, if_pos hp]
      rw [pcs_fuel c k (nxt c p) (by omega), pcs_fuel c j (nxt c p) (by omega)]
    · rw [show c.length - p = 0 by omega]
      simp only [pcs, if_neg hp]
/-- The places of the operations from p on. -/
def plc (c : List UInt8) (p : Nat) : List Nat := pcs c (c.length - p) p
theorem plc_at {c : List UInt8} {p : Nat} (h : p < c.length) : plc c p = p :: plc c (nxt c p) := by
  have hg := nxt_gt h
  obtain ⟨j, hj⟩ : ∃ j, c.length - p = j + 1 := ⟨c.length - p - 1, by omega⟩
  unfold plc
  rw [hj]
  simp only [pcs, if_pos h]
  rw [pcs_fuel c j (nxt c p) (by omega)]
theorem plc_end {c : List UInt8} {p : Nat} (h : c.length ≤ p) : plc c p = [] := by
  unfold plc
  rw [show c.length - p = 0 by omega]
  rfl
/-- Walk a list of places from p on: what holds at the end and steps back holds. -/
theorem plc_ind {c : List UInt8} {P : Nat → Prop} (h0 : ∀ p, c.length ≤ p → P p) (h1 : ∀ p, p < c.length → P (nxt c p) → P p) (p : Nat) : P p := by
  have : ∀ k p, c.length - p ≤ k → P p := by
    intro k
    induction k with
    | zero => exact fun p h => h0 p (by omega)
    | succ k ih =>
      intro p h
      by_cases hp : p < c.length
      · have hg := nxt_gt hp
        exact h1 p hp (ih _ (by omega))
      · exact h0 p (by omega)
  exact this _ p (Nat.le_refl _)
theorem plc_mem {c : List UInt8} : ∀ p, ∀ x ∈ plc c p, p ≤ x ∧ x < c.length := plc_ind (fun p h x hx => by rw [plc_end h] at hx; cases hx) (fun p h ih x hx => by
  rw [plc_at h] at hx
  rcases List.mem_cons.1 hx with rfl | hx
  · exact ⟨Nat.le_refl _, h⟩
  · have hg := nxt_gt h
    have := ih x hx
    omega)
theorem plc_lt {c : List UInt8} : ∀ p, List.Pairwise (· < ·) (plc c p) := plc_ind (fun p h => by rw [plc_end h]; exact .nil) (fun p h ih => by
  rw [plc_at h]
  refine .cons (fun x hx => ?_) ih
  have := plc_mem _ x hx
  have hg := nxt_gt h
  omega)
theorem getD_app {b r : List UInt8} {q : Nat} : (b ++ r).getD (b.length + q) default = r.getD q default := by
  rw [List.getD_eq_getElem?_getD, List.getD_eq_getElem?_getD, List.getElem?_append_right (by omega), show b.length + q - b.length = q by omega]
theorem nxt_app {b r : List UInt8} {q : Nat} : nxt (b ++ r) (b.length + q) = b.length + nxt r q := by
  unfold nxt
  rw [getD_app, List.length_append]
  omega
theorem plc_app {b r : List UInt8} : ∀ q, plc (b ++ r) (b.length + q) = (plc r q).map (b.length + ·) := plc_ind (c := r) (fun q h => by rw [plc_end h, plc_end (by rw [List.length_append]; omega)]; rfl) (fun q h ih => by
  rw [plc_at h, plc_at (by rw [List.length_append]; omega), nxt_app, ih, List.map_cons])
def lands (c : List UInt8) : List Nat := (plc c 0).filter fun p => c.getD p default == 91
def line (c : List UInt8) (p : Nat) : List UInt8 :=
  if nm (c.getD p default) = [] then Hx.print [c.getD p default]
  else if 0 < psh (c.getD p default) then nm (c.getD p default) ++ [32] ++ Hx.print ((c.drop (p + 1)).take (nxt c p - (p + 1)))
  else nm (c.getD p default)
def dis (c : List UInt8) : List (List UInt8) := (plc c 0).map (line c)
theorem line_app {b r : List UInt8} {q : Nat} : line (b ++ r) (b.length + q) = line r q := by
  unfold line
  rw [getD_app, nxt_app]
  have e : (b ++ r).drop (b.length + q + 1) = r.drop (q + 1) := by
    rw [show b.length + q + 1 = b.length + (q + 1) by omega, ← List.drop_drop, List.drop_left]
  rw [e, show b.length + nxt r q - (b.length + q + 1) = nxt r q - (q + 1) by omega]
/-- Whole code ahead: its places, then those of what stands behind it. -/
theorem plc_two {a b : List UInt8} (ha : ∀ p, p < a.length → p + 1 + psh (a.getD p default) ≤ a.length) : ∀ p, p ≤ a.length → plc (a ++ b) p = plc a p ++ (plc b 0).map (a.length + ·) := plc_ind (c := a) (fun p h hp => by
  obtain rfl : p = a.length := by omega
  rw [plc_end h, List.nil_append]
  exact plc_app 0) (fun p h ih hp => by
  have e : (a ++ b).getD p default = a.getD p default := by
    rw [List.getD_eq_getElem?_getD, List.getD_eq_getElem?_getD, List.getElem?_append_left h]
  have e1 : nxt a p = p + 1 + psh (a.getD p default) := Nat.min_eq_left (ha p h)
  have e2 : nxt (a ++ b) p = nxt a p := by
    rw [e1]
    unfold nxt
    rw [e, List.length_append]
    have := ha p h
    omega
  rw [plc_at h, plc_at (c := a ++ b) (by rw [List.length_append]; omega), e2, ih (nxt_le _ _), List.cons_append])
theorem line_two {a b : List UInt8} {p : Nat} (h : p < a.length) (ha : p + 1 + psh (a.getD p default) ≤ a.length) : line (a ++ b) p = line a p := by
  have e : (a ++ b).getD p default = a.getD p default := by
    rw [List.getD_eq_getElem?_getD, List.getD_eq_getElem?_getD, List.getElem?_append_left h]
  have e1 : nxt a p = p + 1 + psh (a.getD p default) := Nat.min_eq_left ha
  have e2 : nxt (a ++ b) p = nxt a p := by
    rw [e1]
    unfold nxt
    rw [e, List.length_append]
    omega
  unfold line
  rw [e, e2]
  have e3 : ((a ++ b).drop (p + 1)).take (nxt a p - (p + 1)) = (a.drop (p + 1)).take (nxt a p - (p + 1)) := by
    rw [List.drop_append_of_le_length (by omega), List.take_append_of_le_length (by rw [List.length_drop]; omega)]
  rw [e3]
def pad (a : List UInt8) : List UInt8 := a ++ List.replicate 32 0
theorem pad_whole (a : List UInt8) : ∀ p, p < (pad a).length → p + 1 + psh ((pad a).getD p default) ≤ (pad a).length := by
  intro p h
  have hl : (pad a).length = a.length + 32 := by unfold pad; rw [List.length_append, List.length_replicate]
  by_cases hp : p < a.length
  · have := psh_le ((pad a).getD p default)
    omega
  · have e : (pad a).getD p default = 0 := by
      unfold pad
      rw [List.getD_eq_getElem?_getD, List.getElem?_append_right (by omega), List.getElem?_replicate]
      split <;> rfl
    rw [e, show psh 0 = 0 from rfl]
    omega
theorem lands_join (a b : List UInt8) : lands (pad a ++ b) = lands (pad a) ++ (lands b).map ((pad a).length + ·) := by
  have h := plc_two (b := b) (pad_whole a) 0 (Nat.zero_le _)
  unfold lands
  rw [h, List.filter_append, List.filter_map]
  congr 1
  · refine List.filter_congr fun p hp => ?_
    have := (plc_mem _ p hp).2
    rw [List.getD_eq_getElem?_getD, List.getD_eq_getElem?_getD, List.getElem?_append_left this]
  · congr 1
    refine List.filter_congr fun p hp => ?_
    show ((pad a ++ b).getD ((pad a).length + p) default == 91) = _
    rw [getD_app]
theorem dis_join (a b : List UInt8) : dis (pad a ++ b) = dis (pad a) ++ dis b := by
  have h := plc_two (b := b) (pad_whole a) 0 (Nat.zero_le _)
  unfold dis
  rw [h, List.map_append, List.map_map]
  congr 1
  · refine List.map_congr_left fun p hp => ?_
    have hl := (plc_mem _ p hp).2
    exact line_two hl (pad_whole a p hl)
  · refine List.map_congr_left fun p _ => line_app
end Co
end Go.Proofs.YtgbgplijpomkeaaDoor

/- Package code: the plain law of lines that are read. -/
namespace Go.Proofs.YtgbgplijpomkeaaDoor
open Wm Ar
set_option maxRecDepth 100000
namespace Co
def key (l : List UInt8) : Nat := l.foldl (fun k x => k * 256 + x.toNat) 0
def keys : List Nat := (List.range 256).map fun n => key (Cn.name n)
def apart : List Nat → Bool
  | [] => true
  | x :: l => (Nat.beq x 0 || l.all fun y => !(Nat.beq x y)) && apart l
theorem keys_apart : apart keys = true := by kernel_rfl
theorem apart_spec : ∀ {l : List Nat}, apart l = true → List.Pairwise (fun x y => x = 0 ∨ x ≠ y) l
  | [], _ => .nil
  | x :: l, h => by
    simp only [apart, Bool.and_eq_true, Bool.or_eq_true] at h
    refine .cons (fun y hy => ?_) (apart_spec h.2)
    rcases h.1 with h1 | h1
    · exact .inl (Nat.eq_of_beq_eq_true h1)
    · have := List.all_eq_true.1 h1 y hy
      refine .inr fun e => ?_
      subst e
      rw [Nat.beq_refl] at this
      cases this
def allB (p : Nat → Bool) : Nat → Bool
  | 0 => true
  | n + 1 => p n && allB p n
theorem allB_spec {p : Nat → Bool} : ∀ {n}, allB p n = true → ∀ m, m < n → p m = true
  | 0, _, m, h => absurd h (Nat.not_lt_zero _)
  | n + 1, h, m, hm => by
    simp only [allB, Bool.and_eq_true] at h
    rcases Nat.lt_or_ge m n with h1 | h1
    · exact allB_spec h.2 m h1
    · obtain rfl : m = n := by omega
      exact h.1
def good (n : Nat) : Bool := ((Cn.name n).isEmpty || !(Nat.beq (key (Cn.name n)) 0)) && ((Cn.name n).all fun x => !(Nat.beq x.toNat 32)) && (match Cn.name n with | [] => Nat.beq (Cn.pushed n) 0 | x :: _ => !(Nat.beq x.toNat 48)) && Nat.ble (Cn.name n).length 10
theorem good_all : allB good 256 = true := by kernel_rfl
theorem good_at {n : Nat} (h : n < 256) : (Cn.name n = [] ∨ key (Cn.name n) ≠ 0) ∧ (∀ x ∈ Cn.name n, x ≠ 32) ∧ (Cn.name n = [] → Cn.pushed n = 0) ∧ (∀ x l, Cn.name n = x :: l → x ≠ 48) ∧ (Cn.name n).length ≤ 10 := by
  have hg := allB_spec good_all n h
  unfold good at hg
  simp only [Bool.and_eq_true, Bool.or_eq_true] at hg
  obtain ⟨⟨⟨g1, g2⟩, g3⟩, g4⟩ := hg
  refine ⟨?_, fun x hx e => ?_, fun e => ?_, fun x l e e2 => ?_, Nat.le_of_ble_eq_true g4⟩
  · rcases g1 with g1 | g1
    · exact .inl (List.isEmpty_iff.1 g1)
    · refine .inr fun e => ?_
      rw [e] at g1
      cases g1
  · have := List.all_eq_true.1 g2 x hx
    subst e
    cases this
  · rw [e] at g3
    exact Nat.eq_of_beq_eq_true g3
  · rw [e] at g3
    subst e2
    cases g3
theorem nm_inj_lt {a b : Nat} (hab : a < b) (hb : b < 256) (h : Cn.name a = Cn.name b) : Cn.name a = [] := by
  have hp := List.pairwise_iff_getElem.1 (apart_spec keys_apart) a b (by simp [keys]; omega) (by simp [keys]; omega) hab
  simp only [keys, List.getElem_map, List.getElem_range] at hp
  rcases hp with hp | hp
  · rcases (good_at (n := a) (by omega)).1 with e | e
    · exact e
    · exact absurd hp e
  · exact absurd (by rw [h]) hp
theorem nm_inj {a b : Nat} (ha : a < 256) (hb : b < 256) (h : Cn.name a = Cn.name b) : a = b ∨ Cn.name a = [] := by
  rcases Nat.lt_trichotomy a b with h1 | h1 | h1
  · exact .inr (nm_inj_lt h1 hb h)
  · exact .inl h1
  · refine .inr ?_
    rw [h]
    exact nm_inj_lt h1 ha h.symm
/-- The place of the first space, or the length. -/
def spc : List UInt8 → Nat
  | [] => 0
  | x :: l => if x = 32 then 0 else spc l + 1
theorem spc_no : ∀ {s : List UInt8}, (∀ x ∈ s, x ≠ 32) → spc s = s.length
  | [], _ => rfl
  | x :: l, h => by
    simp only [spc, if_neg (h x (by simp)), spc_no (s := l) fun y hy => h y (by simp [hy]), List.length_cons]
theorem spc_app : ∀ {a b : List UInt8}, (∀ x ∈ a, x ≠ 32) → spc (a ++ 32 :: b) = a.length
  | [], _, _ => rfl
  | x :: a, b, h => by
    simp only [List.cons_append, spc, if_neg (h x (by simp)), spc_app (a := a) (b := b) fun y hy => h y (by simp [hy]), List.length_cons]
theorem spc_le : ∀ s, spc s ≤ s.length
  | [] => Nat.le_refl _
  | x :: l => by
    have := spc_le l
    simp only [spc, List.length_cons]
    split <;> omega
theorem spc_at : ∀ {s : List UInt8}, spc s < s.length → s = s.take (spc s) ++ 32 :: s.drop (spc s + 1)
  | [], h => absurd h (Nat.not_lt_zero _)
  | x :: l, h => by
    by_cases hx : x = 32
    · subst hx
      simp [spc]
    · have hl : spc l < l.length := by
        simp only [spc, if_neg hx, List.length_cons] at h
        omega
      have ih := spc_at hl
      simp only [spc, if_neg hx, List.take_succ_cons, List.drop_succ_cons, List.cons_append]
      exact congrArg _ ih
theorem spc_getD {s : List UInt8} (h : spc s < s.length) : s.getD (spc s) default = 32 := by
  have e := spc_at h
  have hl : (s.take (spc s)).length = spc s := by rw [List.length_take]; omega
  conv => lhs; rw [e]
  rw [List.getD_eq_getElem?_getD, List.getElem?_append_right (by rw [hl, ← e]; omega), hl, ← e, Nat.sub_self]
  rfl
theorem spc_ne : ∀ {s : List UInt8} {i : Nat}, i < spc s → s.getD i default ≠ 32
  | [], i, h => absurd h (Nat.not_lt_zero _)
  | x :: l, i, h => by
    by_cases hx : x = 32
    · simp only [spc, if_pos hx] at h
      exact absurd h (Nat.not_lt_zero _)
    · simp only [spc, if_neg hx] at h
      cases i with
      | zero => exact hx
      | succ i => exact spc_ne (s := l) (by omega)
def hit (m : List UInt8) (sp : Bool) (n : Nat) : Bool := decide (Cn.name n = m) && (decide (0 < Cn.pushed n) == sp) && !m.isEmpty
/-- The first operation from k on that is so called. -/
def seek (m : List UInt8) (sp : Bool) : Nat → Nat → Option Nat
  | 0, _ => none
  | j + 1, k => if hit m sp k then some k else seek m sp j (k + 1)
def rdOp (m : List UInt8) (sp : Bool) : Option Nat := seek m sp 256 0
theorem seek_some {m : List UInt8} {sp : Bool} : ∀ {j k n}, seek m sp j k = some n → hit m sp n = true ∧ n < k + j
  | 0, _, _, h => by cases h
  | j + 1, k, n, h => by
    simp only [seek] at h
    split at h
    · cases h
      rename_i hh
      exact ⟨hh, by omega⟩
    · have := seek_some h
      exact ⟨this.1, by omega⟩
theorem seek_eq {m : List UInt8} {sp : Bool} {n : Nat} (hn : hit m sp n = true) : ∀ {j k}, k ≤ n → n < k + j → (∀ i, i < 256 → hit m sp i = true → i = n) → k + j ≤ 256 → seek m sp j k = some n
  | 0, k, h1, h2, _, _ => by omega
  | j + 1, k, h1, h2, hu, h4 => by
    simp only [seek]
    split
    · rename_i hh
      rw [hu k (by omega) hh]
    · rename_i hh
      have : k ≠ n := fun e => hh (e ▸ hn)
      exact seek_eq hn (by omega) (by omega) hu (by omega)
theorem hit_spec {m : List UInt8} {sp : Bool} {n : Nat} : hit m sp n = true ↔ Cn.name n = m ∧ (decide (0 < Cn.pushed n) = sp) ∧ m ≠ [] := by
  unfold hit
  simp only [Bool.and_eq_true, decide_eq_true_eq, beq_iff_eq, Bool.not_eq_true', List.isEmpty_eq_false_iff, and_assoc]
theorem rdOp_name {n : Nat} (hn : n < 256) (h : Cn.name n ≠ []) : rdOp (Cn.name n) (decide (0 < Cn.pushed n)) = some n := by
  refine seek_eq (hit_spec.2 ⟨rfl, rfl, h⟩) (Nat.zero_le _) (by omega) (fun i hi hh => ?_) (by omega)
  obtain ⟨h1, _, _⟩ := hit_spec.1 hh
  rcases nm_inj hi hn h1 with e | e
  · exact e
  · exact absurd (h1 ▸ e) h
def fnd (m : List UInt8) (sp : Bool) (t : List UInt8) : List UInt8 × Bool × Bool :=
  match rdOp m sp with
  | none => ([], false, false)
  | some n => if Cn.pushed n = 0 then ([UInt8.ofNat n], true, true)
    else (UInt8.ofNat n :: (Hx.parse t).getD [], decide (((Hx.parse t).getD []).length = Cn.pushed n), decide ((Hx.parse t).isSome = true ∧ ((Hx.parse t).getD []).length ≤ Cn.pushed n))
/-- A line's bytes; nothing lacks; it is a line. -/
def rd (s : List UInt8) : List UInt8 × Bool × Bool :=
  if spc s < s.length then fnd (s.take (spc s)) true (s.drop (spc s + 1))
  else match Hx.parse s with
    | some b => (b, true, decide (b.length = 1 ∧ nm (b.getD 0 default) = []))
    | none => fnd s false []
def asm : List (List UInt8) → Option (List UInt8)
  | [] => some []
  | s :: t => if (rd s).2.2 = true ∧ ((rd s).2.1 = true ∨ t = []) then (asm t).map ((rd s).1 ++ ·) else none
def lineOf (b : UInt8) (d : List UInt8) : List UInt8 := if nm b = [] then Hx.print [b] else if 0 < psh b then nm b ++ [32] ++ Hx.print d else nm b
theorem toNat_lt (b : UInt8) : b.toNat < 256 := b.toNat_lt
theorem ofNat_toNat (b : UInt8) : UInt8.ofNat b.toNat = b := by simp
theorem parse_head {s : List UInt8} (h : ∀ x l, s = x :: l → x ≠ 48) : Hx.parse s = none := by
  unfold Hx.parse
  have : Hx.halves s = none := by
    match s, h with
    | [], _ => rfl
    | [_], _ => rfl
    | a :: b :: l, h =>
      simp only [Hx.halves]
      rw [if_neg fun k => h a (b :: l) rfl k.1]
  rw [this]
theorem dig_ne : ∀ n, n < 16 → Hx.dig (UInt8.ofNat n) ≠ 32 := by decide
theorem print_ne (l : List UInt8) : ∀ x ∈ Hx.print l, x ≠ 32 := by
  intro x hx
  unfold Hx.print Hx.txt at hx
  rcases List.mem_cons.1 hx with rfl | hx
  · decide
  · rcases List.mem_cons.1 hx with rfl | hx
    · decide
    · obtain ⟨a, ha, rfl⟩ := List.mem_map.1 hx
      have := dig_ne a.toNat (Hx.hv_small l a ha)
      rwa [Hx.of_toNat] at this
theorem rd_line {b : UInt8} {d : List UInt8} (hd : d.length ≤ psh b) : rd (lineOf b d) = (b :: d, decide (d.length = psh b), true) := by
  obtain ⟨g1, g2, g3, g4, g5⟩ := good_at (toNat_lt b)
  unfold lineOf
  by_cases h1 : nm b = []
  · have h0 : psh b = 0 := g3 h1
    obtain rfl : d = [] := List.eq_nil_of_length_eq_zero (by omega)
    rw [if_pos h1]
    unfold rd
    rw [spc_no (print_ne _), if_neg (Nat.lt_irrefl _), Hx.parse_print]
    simp [h0, h1]
  · rw [if_neg h1]
    have hr := rdOp_name (toNat_lt b) h1
    by_cases h2 : 0 < psh b
    · rw [if_pos h2]
      have e : nm b ++ [32] ++ Hx.print d = nm b ++ 32 :: Hx.print d := by simp
      unfold rd
      rw [e, spc_app g2, if_pos (by simp), List.take_left' rfl]
      have e2 : (nm b ++ 32 :: Hx.print d).drop ((nm b).length + 1) = Hx.print d := by
        rw [← List.drop_drop, List.drop_left' rfl]
        rfl
      rw [e2]
      unfold fnd
      rw [decide_eq_true h2] at hr
      rw [hr]
      simp only [Hx.parse_print, Option.getD_some, ofNat_toNat, Option.isSome_some, true_and]
      rw [if_neg (show ¬ Cn.pushed b.toNat = 0 by unfold psh at h2; omega)]
      have e3 : decide (d.length ≤ Cn.pushed b.toNat) = true := decide_eq_true hd
      rw [e3]
    · rw [if_neg h2]
      have h0 : psh b = 0 := by omega
      obtain rfl : d = [] := List.eq_nil_of_length_eq_zero (by omega)
      unfold rd
      rw [spc_no g2, if_neg (Nat.lt_irrefl _), parse_head g4]
      simp only
      unfold fnd
      rw [decide_eq_false h2] at hr
      rw [hr]
      simp only [ofNat_toNat]
      rw [if_pos h0]
      simp [h0]
theorem fnd_spec {m t b : List UInt8} {w sp : Bool} (h : fnd m sp t = (b, w, true)) : ∃ x d, b = x :: d ∧ d.length ≤ psh x ∧ w = decide (d.length = psh x) ∧ nm x = m ∧ m ≠ [] ∧ decide (0 < psh x) = sp ∧ (0 < psh x → Hx.print d = t) := by
  unfold fnd at h
  cases hr : rdOp m sp with
  | none => rw [hr] at h; cases h
  | some n =>
    rw [hr] at h
    simp only at h
    obtain ⟨h1, h2⟩ := seek_some hr
    obtain ⟨k1, k2, k3⟩ := hit_spec.1 h1
    have hn : (UInt8.ofNat n).toNat = n := by
      rw [UInt8.toNat_ofNat']
      omega
    have hp : psh (UInt8.ofNat n) = Cn.pushed n := by unfold psh; rw [hn]
    have hm : nm (UInt8.ofNat n) = Cn.name n := by unfold nm; rw [hn]
    split at h
    · rename_i h0
      cases h
      exact ⟨_, [], rfl, Nat.zero_le _, by rw [hp, h0]; rfl, by rw [hm, k1], k3, by rw [hp, k2], fun h => by omega⟩
    · rename_i h0
      cases ht : Hx.parse t with
      | none =>
        rw [ht] at h
        simp at h
      | some d =>
        rw [ht] at h
        simp only [Option.getD_some, Option.isSome_some, true_and, Prod.mk.injEq, decide_eq_true_eq] at h
        obtain ⟨q1, q2, q3⟩ := h
        exact ⟨_, d, q1.symm, by rw [hp]; exact q3, by rw [hp]; exact q2.symm, by rw [hm, k1], k3, by rw [hp, k2], fun _ => Hx.print_parse ht⟩
theorem rd_spec {s b : List UInt8} {w : Bool} (h : rd s = (b, w, true)) : ∃ x d, b = x :: d ∧ d.length ≤ psh x ∧ w = decide (d.length = psh x) ∧ lineOf x d = s := by
  unfold rd at h
  split at h
  · rename_i hs
    obtain ⟨x, d, e1, e2, e3, e4, e5, e6, e7⟩ := fnd_spec h
    refine ⟨x, d, e1, e2, e3, ?_⟩
    have h0 : 0 < psh x := of_decide_eq_true e6
    unfold lineOf
    rw [if_neg (by rw [e4]; exact e5), if_pos h0, e7 h0, e4, List.append_assoc]
    exact (spc_at hs).symm
  · split at h
    · rename_i hs l hp
      simp only [Prod.mk.injEq, decide_eq_true_eq] at h
      obtain ⟨rfl, rfl, h1, h2⟩ := h
      match l, h1 with
      | [x], _ =>
        have h3 : nm x = [] := h2
        have h0 : psh x = 0 := (good_at (toNat_lt x)).2.2.1 h3
        refine ⟨x, [], rfl, Nat.zero_le _, by rw [h0]; rfl, ?_⟩
        unfold lineOf
        rw [if_pos h3]
        exact Hx.print_parse hp
    · obtain ⟨x, d, e1, e2, e3, e4, e5, e6, e7⟩ := fnd_spec h
      refine ⟨x, d, e1, e2, e3, ?_⟩
      have h0 : ¬ 0 < psh x := of_decide_eq_false e6
      unfold lineOf
      rw [if_neg (by rw [e4]; exact e5), if_neg h0, e4]
theorem dis_nil : dis [] = [] := rfl
theorem dis_cons (b : UInt8) (t : List UInt8) : dis (b :: t) = lineOf b (t.take (psh b)) :: dis (t.drop (psh b)) := by
  have hl : line (b :: t) 0 = lineOf b (t.take (psh b)) := by
    unfold line lineOf nxt
    simp only [List.getD_cons_zero, List.length_cons, Nat.zero_add, List.drop_succ_cons, List.drop_zero]
    have e : t.take (min (1 + psh b) (t.length + 1) - 1) = t.take (psh b) := by
      rcases Nat.le_total (psh b) t.length with h | h
      · rw [show min (1 + psh b) (t.length + 1) - 1 = psh b by omega]
      · rw [show min (1 + psh b) (t.length + 1) - 1 = t.length by omega, List.take_length, List.take_of_length_le h]
    rw [e]
  unfold dis
  rw [plc_at (by simp), List.map_cons, hl]
  congr 1
  rcases Nat.le_total (psh b) t.length with h | h
  · have e : b :: t = (b :: t.take (psh b)) ++ t.drop (psh b) := by simp
    have el : (b :: t.take (psh b)).length = psh b + 1 := by simp; omega
    have en : nxt (b :: t) 0 = (b :: t.take (psh b)).length + 0 := by
      rw [el]
      unfold nxt
      simp only [List.getD_cons_zero, List.length_cons]
      omega
    rw [en]
    conv => lhs; rw [e]
    rw [plc_app 0, List.map_map]
    refine List.map_congr_left fun p _ => line_app
  · have en : nxt (b :: t) 0 = (b :: t).length := by
      unfold nxt
      simp only [List.getD_cons_zero, List.length_cons]
      omega
    rw [en, plc_end (Nat.le_refl _), List.drop_of_length_le h]
    rfl
theorem asm_dis : ∀ n (c : List UInt8), c.length ≤ n → asm (dis c) = some c
  | _, [], _ => rfl
  | 0, _ :: _, h => by simp at h
  | n + 1, b :: t, h => by
    have ih := asm_dis n (t.drop (psh b)) (by rw [List.length_drop]; simp only [List.length_cons] at h; omega)
    rw [dis_cons]
    have hr := rd_line (b := b) (d := t.take (psh b)) (by rw [List.length_take]; omega)
    simp only [asm, hr, ih, Option.map_some, true_and, decide_eq_true_eq]
    rw [if_pos, List.cons_append, List.take_append_drop]
    rcases Nat.le_total (psh b) t.length with h | h
    · left
      rw [List.length_take]
      omega
    · right
      rw [List.drop_of_length_le h]
      rfl
theorem dis_asm : ∀ {l : List (List UInt8)} {x : List UInt8}, asm l = some x → dis x = l
  | [], x, h => by
    cases h
    rfl
  | s :: t, x, h => by
    simp only [asm] at h
    split at h
    · rename_i hc
      obtain ⟨h1, h2⟩ := hc
      obtain ⟨y, hy, rfl⟩ := Option.map_eq_some_iff.1 h
      have ih := dis_asm hy
      obtain ⟨b, d, e1, e2, e3, e4⟩ := rd_spec (s := s) (b := (rd s).1) (w := (rd s).2.1) (by rw [← h1])
      show dis ((rd s).1 ++ y) = _
      rw [e1, List.cons_append, dis_cons]
      have ht : (d ++ y).take (psh b) = d ∧ (d ++ y).drop (psh b) = y := by
        by_cases hd : d.length = psh b
        · rw [← hd]
          exact ⟨List.take_left' rfl, List.drop_left' rfl⟩
        · have : t = [] := by
            rcases h2 with h2 | h2
            · rw [e3] at h2
              exact absurd (of_decide_eq_true h2) hd
            · exact h2
          subst this
          cases hy
          rw [List.append_nil]
          exact ⟨List.take_of_length_le e2, List.drop_of_length_le e2⟩
      rw [ht.1, ht.2, e4, ih]
    · cases h
end Co
end Go.Proofs.YtgbgplijpomkeaaDoor

/- Package code: Next, Landings. -/
namespace Go.Proofs.YtgbgplijpomkeaaDoor
open Go.RowKit Rg Wm Ar
set_option linter.unusedVariables false
set_option maxRecDepth 100000
namespace Lf
abbrev iN (n : Nat) : V := .k (.int .i64 ((n : Nat) : Int))
namespace Cw
theorem pushedB (b : UInt8) : LF Tryd.prog 19 [bK b] (fun _ => iN (Co.psh b)) none := pushed b.toNat b.toNat_lt
theorem NameB (b : UInt8) : LF Tryd.prog 11 [bK b] (fun _ => sK (Co.nm b)) none := Name b.toNat b.toNat_lt
theorem Next (c : List UInt8) (p : Nat) (hp : p < c.length) (hl : c.length < 1000000000) : LF Tryd.prog 9 [.s none (c.map bK), iN p] (fun _ => iN (Co.nxt c p)) none := by
  have c1 := pushedB (c.getD p default)
  have hb := Co.psh_le (c.getD p default)
  have hm : (if (c.length : Int) < ((p + 1 + Co.psh (c.getD p default) : Nat) : Int) then (c.length : Int) else ((p + 1 + Co.psh (c.getD p default) : Nat) : Int)) = ((Co.nxt c p : Nat) : Int) := by
    unfold Co.nxt
    split <;> omega
  generalize Co.psh (c.getD p default) = q at *
  generalize Co.nxt c p = r at *
  refine LFx.mk' tt Tryd.func9 rfl rfl rfl (by kernel_rfl) rfl rfl fun F => ?_
  exact wk trueW trueW trueW
set_option maxHeartbeats 2000000 in
theorem Landings (c : List UInt8) (hl : c.length < 1000000000) : LF Tryd.prog 10 [.s none (c.map bK)] (fun _ => .s none ((Co.lands c).map iN)) none := by
  refine LFx.mk' tt Tryd.func10 rfl rfl rfl (by kernel_rfl) rfl rfl fun F => ?_
  refine wk ?_ trueW trueW
  refine LC.nilrow 3 60 3 1 rfl rfl rfl ?_
  refine LC.loop2 (fun p S => [(0, .s none (c.map bK)), (3, .s (some 60) (S.map iN)), (4, .k (.int .i64 ((p : Nat) : Int)))]) (fun p S => [(60, .r 3 1 S.length)]) (fun p S => p ≤ c.length ∧ S.length ≤ p ∧ Co.lands c = S ++ (Co.plc c p).filter (fun p => c.getD p default == 91)) ((c.length - ·)) (0) ([]) ⟨Nat.zero_le _, Nat.le_refl _, rfl⟩ ⟨rfl, rfl, rfl, trivial⟩ ⟨rfl, trivial⟩ rfl rfW rfW ?_
  rintro p S ⟨hp, hSl, hS⟩
  rcases Nat.lt_or_ge p c.length with h | h
  · have c1 := Next c p h hl
    have hg := Co.nxt_gt h
    have hle := Co.nxt_le c p
    rw [Co.plc_at h, List.filter_cons] at hS
    by_cases hx : c.getD p default = 91
    · rw [hx, if_pos (by decide)] at hS
      have hok : Co.nxt c p ≤ c.length ∧ (S ++ [p]).length ≤ Co.nxt c p ∧ Co.lands c = (S ++ [p]) ++ (Co.plc c (Co.nxt c p)).filter (fun p => c.getD p default == 91) := ⟨hle, by rw [List.length_append, List.length_singleton]; omega, by rw [hS, List.append_assoc]; rfl⟩
      have hx2 : ((c.getD p default).toNat : Int) = 91 := by rw [hx]; rfl
      clear hS
      generalize Co.nxt c p = r at *
      exact wk trueW trueW trueW
    · rw [if_neg (by rw [beq_iff_eq]; exact hx)] at hS
      have hok : Co.nxt c p ≤ c.length ∧ S.length ≤ Co.nxt c p ∧ Co.lands c = S ++ (Co.plc c (Co.nxt c p)).filter (fun p => c.getD p default == 91) := ⟨hle, by omega, hS⟩
      have hx2 : ¬ ((c.getD p default).toNat : Int) = 91 := fun e => hx (UInt8.toNat_inj.1 (by rw [show (91 : UInt8).toNat = 91 from rfl]; omega))
      clear hS
      generalize Co.nxt c p = r at *
      exact wk trueW trueW trueW
  · rw [Co.plc_end h, List.filter_nil, List.append_nil] at hS
    rw [hS]
    clear hS
    exact wk trueW trueW trueW
end Cw
end Lf
end Go.Proofs.YtgbgplijpomkeaaDoor

/- Contracts of package word, lifted. -/
namespace Go.Proofs.YtgbgplijpomkeaaDoor
open Go.RowKit Rg Wm Ar
set_option linter.unusedVariables false
set_option maxRecDepth 100000
namespace Lf
namespace Wo
end Wo
theorem byte_at (x : Nat) {i : Nat} (h : i < 32) : (limbs x).getD ((31 - i) / 8) default / 2 ^ ((31 - i) % 8 * 8) % 256 = x / 256 ^ (31 - i) % 256 := by
  rw [limbs_get x (by omega), limb_byte _ _ _ (Nat.mod_lt _ (by decide))]
  congr 3
  omega
theorem set_more {i n V b : Nat} (_h : i < n) (hn : i < 32) (hV : V < 256 ^ i) (hb : b < 256) : (limbs V).set (i / 8) ((limbs V).getD (i / 8) default ||| b * 2 ^ (i % 8 * 8) % 2 ^ 64) = limbs (V + b * 256 ^ i) := by
  rw [limbs_get V (by omega)]
  have h : ∀ k, limb (V + b * 256 ^ i) k = _ := limb_set hV hb
  have hq : i / 8 = 0 ∨ i / 8 = 1 ∨ i / 8 = 2 ∨ i / 8 = 3 := by omega
  unfold limbs
  simp only [h]
  rcases hq with e | e | e | e <;> rw [e] <;> rfl
namespace Wo
end Wo
end Lf
end Go.Proofs.YtgbgplijpomkeaaDoor

/- Package hex: digit, halves. -/
namespace Go.Proofs.YtgbgplijpomkeaaDoor
open Go.RowKit Rg Wm Ar
set_option linter.unusedVariables false
set_option maxRecDepth 100000
namespace Lf
theorem wrap_i32 {z : Int} (h : -2147483648 ≤ z ∧ z ≤ 2147483647) : IntKind.i32.wrap z = z := by
  simp only [IntKind.wrap, IntKind.bits, IntKind.signed]
  have e1 : (2 : Int) ^ 32 = 4294967296 := by decide
  have e2 : (2 : Int) ^ (32 - 1) = 2147483648 := by decide
  simp only [e1, e2, Bool.true_and, decide_eq_true_eq]
  split <;> omega
namespace Hw
set_option maxHeartbeats 1000000 in
theorem digit (c : Nat) (hc : c ≤ 1114111) : LF Tryd.prog 39 [.k (.int .i32 (c : Int))] (fun _ => bK (Hx.ud c)) none := by
  by_cases h1 : 48 ≤ c ∧ c ≤ 57
  · have e : Hx.ud c = UInt8.ofNat (c - 48) := if_pos h1
    obtain ⟨h1a, h1b⟩ := h1
    have e1 : IntKind.i32.wrap ((c : Int) - 48) = ((c - 48 : Nat) : Int) := by rw [wrap_i32 (by omega)]; omega
    have e2 : IntKind.u8.wrap ((c - 48 : Nat) : Int) = ((Hx.ud c).toNat : Int) := by rw [wrap_u8 (by omega), e, UInt8.toNat_ofNat']; omega
    clear e
    generalize Hx.ud c = u at *
    refine LFx.mk' tt Tryd.func39 rfl rfl rfl (by kernel_rfl) rfl rfl fun F => ?_
    exact wk trueW trueW trueW
  · by_cases h2 : 97 ≤ c ∧ c ≤ 102
    · have e : Hx.ud c = UInt8.ofNat (c - 87) := (if_neg h1).trans (if_pos h2)
      obtain ⟨h2a, h2b⟩ := h2
      have e1 : IntKind.i32.wrap ((c : Int) - 97) = ((c - 97 : Nat) : Int) := by rw [wrap_i32 (by omega)]; omega
      have e2 : IntKind.u8.wrap (((c - 97 : Nat) : Int) + 10) = ((Hx.ud c).toNat : Int) := by rw [wrap_u8 (by omega), e, UInt8.toNat_ofNat']; omega
      clear e
      have h3 : ¬ c ≤ 57 := by omega
      generalize Hx.ud c = u at *
      refine LFx.mk' tt Tryd.func39 rfl rfl rfl (by kernel_rfl) rfl rfl fun F => ?_
      exact wk trueW trueW trueW
    · have e : Hx.ud c = 16 := (if_neg h1).trans (if_neg h2)
      rw [e]
      clear e
      by_cases h3 : 48 ≤ c
      · have h4 : ¬ c ≤ 57 := fun h => h1 ⟨h3, h⟩
        by_cases h5 : 97 ≤ c
        · have h6 : ¬ c ≤ 102 := fun h => h2 ⟨h5, h⟩
          clear h1 h2
          refine LFx.mk' tt Tryd.func39 rfl rfl rfl (by kernel_rfl) rfl rfl fun F => ?_
          exact wk trueW trueW trueW
        · clear h1 h2
          refine LFx.mk' tt Tryd.func39 rfl rfl rfl (by kernel_rfl) rfl rfl fun F => ?_
          exact wk trueW trueW trueW
      · have h5 : ¬ 97 ≤ c := by omega
        clear h1 h2
        refine LFx.mk' tt Tryd.func39 rfl rfl rfl (by kernel_rfl) rfl rfl fun F => ?_
        exact wk trueW trueW trueW
end Hw
end Lf
end Go.Proofs.YtgbgplijpomkeaaDoor

/- Package hex: halves. -/
namespace Go.Proofs.YtgbgplijpomkeaaDoor
open Go.RowKit Rg Wm Ar
set_option linter.unusedVariables false
set_option maxRecDepth 100000
namespace Lf
theorem sz_list (s : List UInt8) : (⟨s.toArray⟩ : ByteArray).size = s.length := by simp [ByteArray.size]
theorem get_list (s : List UInt8) (i : Nat) (h : i < s.length) : (⟨s.toArray⟩ : ByteArray)[i]'(by rw [sz_list]; exact h) = s.getD i default := by
  rw [List.getD_eq_getElem?_getD, List.getElem?_eq_getElem h]; rfl
theorem dec_at (s : List UInt8) (i : Nat) (h : i < s.length) (ha : (s.getD i default).toNat < 128) : ((Utf8.decode ⟨s.toArray⟩ i).1 : Int) = (((s.getD i default).toNat : Nat) : Int) ∧ (Utf8.decode ⟨s.toArray⟩ i).2 = 1 := by
  have := decode_ascii ⟨s.toArray⟩ i (by rw [sz_list]; exact h) (by rw [get_list s i h]; exact ha)
  rw [this, get_list s i h]
  exact ⟨rfl, rfl⟩
theorem dec_hi (s : List UInt8) (i : Nat) (h : i < s.length) (ha : 128 ≤ (s.getD i default).toNat) : 128 ≤ (Utf8.decode ⟨s.toArray⟩ i).1 ∧ 1 ≤ (Utf8.decode ⟨s.toArray⟩ i).2 ∧ (Utf8.decode ⟨s.toArray⟩ i).1 ≤ 1114111 := by
  have := decode_high ⟨s.toArray⟩ i (by rw [sz_list]; exact h) (by rw [get_list s i h]; exact ha)
  exact ⟨this.1, this.2, Lib.rune_le _ _⟩
theorem dig128 {a : UInt8} (h : a.toNat < 16) : (Hx.dig a).toNat < 128 := by
  have := (by decide : ∀ n, n < 16 → (Hx.dig (UInt8.ofNat n)).toNat < 128) a.toNat h
  rwa [Hx.of_toNat] at this
namespace Hw
set_option maxHeartbeats 1000000 in
theorem halves_ok (d : List UInt8) (hd : Hx.Small d) (hl : d.length < 1000000000) : LF Tryd.prog 33 [sK (Hx.txt d)] (fun _ => .t [.s none (d.map bK), .k (.bool true)]) none := by
  have hsl : (Hx.txt d).length = d.length + 2 := by simp [Hx.txt]
  have h0 : (Hx.txt d).getD 0 default = 48 := rfl
  have h1 : (Hx.txt d).getD 1 default = 120 := rfl
  have h2 : ∀ i, i < d.length → (Hx.txt d).getD (i + 2) default = Hx.dig (d.getD i default) := fun i hi => by
    simp [Hx.txt, List.getD_eq_getElem?_getD, List.getElem?_eq_getElem hi]
  have hsz := sz_list (Hx.txt d)
  have hdec := dec_at (Hx.txt d)
  generalize Hx.txt d = s at *
  refine LFx.mk' tt Tryd.func33 rfl rfl rfl (by kernel_rfl) rfl rfl fun F => ?_
  refine wk ?_ trueW trueW
  refine LC.nilrow 4 30 5 1 rfl rfl rfl ?_
  refine LC.loop2 (fun i S => [(0, sK s), (4, .s (some 30) (S.map bK)), (9, .p 9 0)]) (fun i S => [(9, .o (.stringIter ⟨s.toArray⟩ i)), (30, .r 5 1 S.length)]) (fun i S => i ≤ d.length + 2 ∧ S = d.take (i - 2)) ((d.length + 2 - ·)) (0) ([]) ⟨by omega, rfl⟩ ⟨rfl, rfl, rfl, trivial⟩ ⟨rfl, rfl, trivial⟩ rfl rfW rfW ?_
  rintro i S ⟨hi, hS⟩
  have hSl : S.length = min (i - 2) d.length := by rw [hS, List.length_take]
  rcases Nat.lt_or_ge i (d.length + 2) with h | h
  · have hp : i < (⟨s.toArray⟩ : ByteArray).size := by omega
    rcases Nat.lt_or_ge i 2 with h3 | h3
    · have hi2 : i = 0 ∨ i = 1 := by omega
      rcases hi2 with rfl | rfl
      · obtain ⟨hc, hw⟩ := hdec 0 (by omega) (by rw [h0]; decide)
        rw [h0] at hc
        have hok : 0 + 1 ≤ d.length + 2 ∧ S = d.take (0 + 1 - 2) := ⟨by omega, hS⟩
        clear hS hdec h2
        exact wk trueW trueW trueW
      · obtain ⟨hc, hw⟩ := hdec 1 (by omega) (by rw [h1]; decide)
        rw [h1] at hc
        have hok : 1 + 1 ≤ d.length + 2 ∧ S = d.take (1 + 1 - 2) := ⟨by omega, hS⟩
        clear hS hdec h2
        exact wk trueW trueW trueW
    · obtain ⟨j, rfl⟩ : ∃ j, i = j + 2 := ⟨i - 2, by omega⟩
      have hj : j < d.length := by omega
      have hsm : (d.getD j default).toNat < 16 := by
        rw [List.getD_eq_getElem?_getD, List.getElem?_eq_getElem hj]; exact hd _ (List.getElem_mem hj)
      obtain ⟨hc, hw⟩ := hdec (j + 2) (by omega) (by rw [h2 j hj]; exact dig128 hsm)
      rw [h2 j hj] at hc
      have c1 := digit (Hx.dig (d.getD j default)).toNat (by have := (Hx.dig (d.getD j default)).toNat_lt; omega)
      rw [Hx.ud_dig hsm] at c1
      have hok : j + 2 + 1 ≤ d.length + 2 ∧ S ++ [d.getD j default] = d.take (j + 2 + 1 - 2) := ⟨by omega, by
        rw [hS, show j + 2 - 2 = j by omega, show j + 2 + 1 - 2 = j + 1 by omega, List.take_add_one, List.getD_eq_getElem?_getD, List.getElem?_eq_getElem hj]; rfl⟩
      generalize (Hx.dig (d.getD j default)).toNat = c at *
      generalize d.getD j default = u at *
      clear hS hdec h2
      have hlt2 : ¬ ((j : Int) + 2 < 2) := by omega
      exact wk trueW trueW trueW
  · obtain rfl : i = d.length + 2 := by omega
    have hS2 : S = d := by rw [hS]; exact List.take_of_length_le (by omega)
    subst hS2
    have hp : (⟨s.toArray⟩ : ByteArray).size ≤ S.length + 2 := by omega
    clear hS hdec h2
    exact wk trueW trueW trueW
end Hw
end Lf
end Go.Proofs.YtgbgplijpomkeaaDoor

/- Package hex: halves, where there are none. -/
namespace Go.Proofs.YtgbgplijpomkeaaDoor
open Go.RowKit Rg Wm Ar
set_option linter.unusedVariables false
set_option maxRecDepth 100000
namespace Lf
theorem digs_all : ∀ (l : List UInt8), (∀ a ∈ l, (Hx.ud a.toNat).toNat ≤ 15) → ∃ d, Hx.digs l = some d
  | [], _ => ⟨[], rfl⟩
  | c :: l, h => by
    obtain ⟨d, hd⟩ := digs_all l fun a ha => h a (by simp [ha])
    exact ⟨_, by simp only [Hx.digs]; rw [if_pos (h c (by simp)), hd]; rfl⟩
theorem halves_all (s : List UInt8) (h : 2 ≤ s.length) (h0 : s.getD 0 default = 48) (h1 : s.getD 1 default = 120) (h2 : ∀ k, 2 ≤ k → k < s.length → (Hx.ud (s.getD k default).toNat).toNat ≤ 15) : ∃ d, Hx.halves s = some d := by
  match s, h with
  | a :: b :: l, _ =>
    have e0 : a = 48 := h0
    have e1 : b = 120 := h1
    subst e0; subst e1
    obtain ⟨d, hd⟩ := digs_all l fun a ha => by
      obtain ⟨k, hk, rfl⟩ := List.getElem_of_mem ha
      have := h2 (k + 2) (by omega) (by simpa using hk)
      simpa [List.getD_eq_getElem?_getD, List.getElem?_eq_getElem hk] using this
    exact ⟨d, (show (if (48 : UInt8) = 48 ∧ (120 : UInt8) = 120 then Hx.digs l else none) = some d by rw [if_pos (And.intro rfl rfl)]; exact hd)⟩
theorem ud_hi {c : Nat} (h : 128 ≤ c) : Hx.ud c = 16 := by unfold Hx.ud; rw [if_neg (by omega), if_neg (by omega)]
namespace Hw
set_option maxHeartbeats 2000000 in
theorem halves_no (s : List UInt8) (hn : Hx.halves s = none) (hl : s.length < 1000000000) : LF Tryd.prog 33 [sK s] (fun _ => .t [.s none [], .k (.bool false)]) none := by
  have hsz := sz_list s
  have hdec := dec_at s
  have hdhi := dec_hi s
  have key : 2 ≤ s.length → s.getD 0 default = 48 → s.getD 1 default = 120 → (∀ k, 2 ≤ k → k < s.length → (Hx.ud (s.getD k default).toNat).toNat ≤ 15) → False := fun a b c d => by
    obtain ⟨d, hd⟩ := halves_all s a b c d
    rw [hd] at hn; cases hn
  clear hn
  refine LFx.mk' tt Tryd.func33 rfl rfl rfl (by kernel_rfl) rfl rfl fun F => ?_
  refine wk ?_ trueW trueW
  refine LC.nilrow 4 30 5 1 rfl rfl rfl ?_
  refine LC.loop2 (fun i S => [(0, sK s), (4, .s (some 30) (S.map bK)), (9, .p 9 0)]) (fun i S => [(9, .o (.stringIter ⟨s.toArray⟩ i)), (30, .r 5 1 S.length)]) (fun i S => i ≤ s.length ∧ S.length = i - 2 ∧ (0 < i → s.getD 0 default = 48) ∧ (1 < i → s.getD 1 default = 120) ∧ (∀ k, 2 ≤ k → k < i → (Hx.ud (s.getD k default).toNat).toNat ≤ 15)) ((s.length - ·)) (0) ([]) ⟨by omega, rfl, fun h => by omega, fun h => by omega, fun k h1 h2 => by omega⟩ ⟨rfl, rfl, rfl, trivial⟩ ⟨rfl, rfl, trivial⟩ rfl rfW rfW ?_
  rintro i S ⟨hi, hSl, g0, g1, g2⟩
  rcases Nat.lt_or_ge i s.length with h | h
  · have hp : i < (⟨s.toArray⟩ : ByteArray).size := by omega
    have hcw : ∃ c wd : Nat, ((Utf8.decode ⟨s.toArray⟩ i).1 : Int) = (c : Int) ∧ (Utf8.decode ⟨s.toArray⟩ i).2 = wd ∧ c ≤ 1114111 ∧ ((c = (s.getD i default).toNat ∧ wd = 1) ∨ 128 ≤ c ∧ 128 ≤ (s.getD i default).toNat) := by
      rcases Nat.lt_or_ge (s.getD i default).toNat 128 with h5 | h5
      · obtain ⟨a, b⟩ := hdec i h h5
        exact ⟨_, _, a, b, by omega, .inl ⟨rfl, rfl⟩⟩
      · obtain ⟨a, _, b⟩ := hdhi i h h5
        exact ⟨_, _, rfl, rfl, b, .inr ⟨a, h5⟩⟩
    obtain ⟨c, wd, hc, hw, hc2, hcs⟩ := hcw
    clear hdec hdhi
    rcases Nat.lt_or_ge i 2 with h3 | h3
    · have hi2 : i = 0 ∨ i = 1 := by omega
      have e1 : IntKind.u8.wrap (c : Int) = ((c % 256 : Nat) : Int) := by rw [to_u8]
      rcases hi2 with rfl | rfl
      · have g : (s.getD 0 default) = 48 ∨ 120 < c ∨ (c ≠ 48 ∧ c ≤ 255) := by
          rcases hcs with ⟨a, _⟩ | ⟨a, _⟩
          · by_cases h48 : c = 48
            · left; apply UInt8.toNat_inj.1; rw [← a, h48]; rfl
            · have := (s.getD 0 default).toNat_lt; right; right; omega
          · right; left; omega
        by_cases hm : c % 256 = 48
        · by_cases h120 : 120 < c
          · have e2 : ((c % 256 : Nat) : Int) = 48 := by omega
            clear g hcs g2 key
            exact wk trueW trueW trueW
          · obtain rfl : wd = 1 := by rcases hcs with ⟨_, a⟩ | ⟨a, _⟩; exact a; omega
            have hok : 0 + 1 ≤ s.length ∧ S.length = 0 + 1 - 2 ∧ (0 < 0 + 1 → s.getD 0 default = 48) ∧ (1 < 0 + 1 → s.getD 1 default = 120) ∧ (∀ k, 2 ≤ k → k < 0 + 1 → (Hx.ud (s.getD k default).toNat).toNat ≤ 15) :=
              ⟨by omega, by omega, fun _ => by rcases g with g | g | g; exact g; omega; omega, fun h => by omega, fun k h1 h2 => by omega⟩
            have e2 : ((c % 256 : Nat) : Int) = 48 := by omega
            clear g hcs g2 key g0 g1
            exact wk trueW trueW trueW
        · have e2 : ¬ ((c % 256 : Nat) : Int) = 48 := by omega
          clear g hcs g2 key
          exact wk trueW trueW trueW
      · have g : (s.getD 1 default) = 120 ∨ 120 < c ∨ (c ≠ 120 ∧ c ≤ 255) := by
          rcases hcs with ⟨a, _⟩ | ⟨a, _⟩
          · by_cases h48 : c = 120
            · left; apply UInt8.toNat_inj.1; rw [← a, h48]; rfl
            · have := (s.getD 1 default).toNat_lt; right; right; omega
          · right; left; omega
        by_cases hm : c % 256 = 120
        · by_cases h120 : 120 < c
          · have e2 : ((c % 256 : Nat) : Int) = 120 := by omega
            clear g hcs g2 key
            exact wk trueW trueW trueW
          · obtain rfl : wd = 1 := by rcases hcs with ⟨_, a⟩ | ⟨a, _⟩; exact a; omega
            have hok : 1 + 1 ≤ s.length ∧ S.length = 1 + 1 - 2 ∧ (0 < 1 + 1 → s.getD 0 default = 48) ∧ (1 < 1 + 1 → s.getD 1 default = 120) ∧ (∀ k, 2 ≤ k → k < 1 + 1 → (Hx.ud (s.getD k default).toNat).toNat ≤ 15) :=
              ⟨by omega, by omega, fun _ => g0 (by omega), fun _ => by rcases g with g | g | g; exact g; omega; omega, fun k h1 h2 => by omega⟩
            have e2 : ((c % 256 : Nat) : Int) = 120 := by omega
            clear g hcs g2 key g0 g1
            exact wk trueW trueW trueW
        · have e2 : ¬ ((c % 256 : Nat) : Int) = 120 := by omega
          clear g hcs g2 key
          exact wk trueW trueW trueW
    · have hi2 : ¬ (i : Int) < 2 := by omega
      have c1 := digit c hc2
      by_cases hu : (Hx.ud c).toNat ≤ 15
      · have hwd : c = (s.getD i default).toNat ∧ wd = 1 := by
          rcases hcs with a | ⟨a, _⟩
          · exact a
          · rw [ud_hi a] at hu; exact absurd hu (by decide)
        obtain ⟨rfl, rfl⟩ := hwd
        have hok : i + 1 ≤ s.length ∧ (S ++ [Hx.ud (s.getD i default).toNat]).length = i + 1 - 2 ∧ (0 < i + 1 → s.getD 0 default = 48) ∧ (1 < i + 1 → s.getD 1 default = 120) ∧ (∀ k, 2 ≤ k → k < i + 1 → (Hx.ud (s.getD k default).toNat).toNat ≤ 15) :=
          ⟨by omega, by rw [List.length_append, hSl]; simp; omega, fun _ => g0 (by omega), fun _ => g1 (by omega), fun k h1 h2 => by
            rcases Nat.lt_or_ge k i with h4 | h4
            · exact g2 k h1 h4
            · obtain rfl : k = i := by omega
              exact hu⟩
        have hu2 : ¬ ((Hx.ud (s.getD i default).toNat).toNat : Int) > 15 := by omega
        generalize Hx.ud (s.getD i default).toNat = u at *
        generalize (s.getD i default).toNat = c at *
        clear hcs g2 key g0 g1
        exact wk trueW trueW trueW
      · have hu2 : ((Hx.ud c).toNat : Int) > 15 := by omega
        generalize Hx.ud c = u at *
        clear hcs g2 key g0 g1
        exact wk trueW trueW trueW
  · obtain rfl : i = s.length := by omega
    have h2 : ¬ 2 ≤ s.length := fun h2 => key h2 (g0 (by omega)) (g1 (by omega)) g2
    have hS : S = [] := List.eq_nil_of_length_eq_zero (by omega)
    subst hS
    have hp : (⟨s.toArray⟩ : ByteArray).size ≤ s.length := by omega
    clear hdec hdhi key g0 g1 g2
    exact wk trueW trueW trueW
end Hw
end Lf
end Go.Proofs.YtgbgplijpomkeaaDoor

/- Package hex: Print, Parse. -/
namespace Go.Proofs.YtgbgplijpomkeaaDoor
open Go.RowKit Rg Wm Ar
set_option linter.unusedVariables false
set_option maxRecDepth 100000
namespace Lf
theorem print_take (l : List UInt8) {i : Nat} (h : i < l.length) : Hx.print (l.take i) ++ ([Hx.dig (UInt8.ofNat ((l.getD i default).toNat / 16)), Hx.dig (UInt8.ofNat ((l.getD i default).toNat % 16))]) = Hx.print (l.take (i + 1)) := by
  rw [List.take_add_one, List.getD_eq_getElem?_getD, List.getElem?_eq_getElem h]
  simp only [Hx.print, Hx.txt, Hx.hv_app, Hx.hv, List.map_append, List.map_cons, List.map_nil, List.cons_append, Option.getD_some, Option.toList_some]
theorem shr_u8c {a : Nat} : ((a : Nat) : Int).fdiv (2 ^ (min (4 : Int).toNat IntKind.u8.bits)) = ((a / 16 : Nat) : Int) := shr_nat (k := .u8) (s := 4) (by decide)
theorem and_u8c {a : UInt8} : IntKind.u8.wrap (((BitVec.ofInt IntKind.u8.bits (a.toNat : Int) &&& BitVec.ofInt IntKind.u8.bits 15).toNat : Nat) : Int) = ((a.toNat % 16 : Nat) : Int) := by
  have := and_nat (k := .u8) rfl (a := a.toNat) (b := 15) (by have := a.toNat_lt; exact this) (by decide)
  rw [show a.toNat % 16 = a.toNat &&& 15 from (Nat.and_two_pow_sub_one_eq_mod a.toNat 4).symm]
  exact this
namespace Hw
set_option maxHeartbeats 2000000 in
theorem Print (l : List UInt8) (hl : l.length < 400000000) : LF Tryd.prog 30 [.s none (l.map bK)] (fun _ => sK (Hx.print l)) none := by
  refine LFx.mk' tt Tryd.func30 rfl rfl rfl (by kernel_rfl) rfl rfl fun F => ?_
  refine wk ?_ trueW trueW
  refine LC.loop2 (fun i S => [(3, .s (some 6) (S.map bK)), (8, .s none (l.map bK)), (9, .k (.int .i64 ((l.length : Nat) : Int))), (10, .k (.int .i64 ((i : Nat) : Int)))]) (fun i S => [(6, .r 5 1 S.length)]) (fun i S => i ≤ l.length ∧ S = Hx.print (l.take i)) ((l.length - ·)) (0) ((Hx.print [])) ⟨by omega, by simp⟩ ⟨rfl, rfl, rfl, rfl, trivial⟩ ⟨rfl, trivial⟩ rfl rfW rfW ?_
  rintro i S ⟨hi, hS⟩
  have hSl : S.length = 2 + 2 * i := by rw [hS, Hx.print_len, List.length_take]; omega
  rcases Nat.lt_or_ge i l.length with h | h
  · have hx := (l.getD i default).toNat_lt
    have e1 := shr_u8c (a := (l.getD i default).toNat)
    have e2 := and_u8c (a := l.getD i default)
    have d1 : Hx.digL.getD ((l.getD i default).toNat / 16) default = Hx.dig (UInt8.ofNat ((l.getD i default).toNat / 16)) := by unfold Hx.dig; rw [UInt8.toNat_ofNat']; congr 1; omega
    have d2 : Hx.digL.getD ((l.getD i default).toNat % 16) default = Hx.dig (UInt8.ofNat ((l.getD i default).toNat % 16)) := by unfold Hx.dig; rw [UInt8.toNat_ofNat']; congr 1; omega
    have hok : i + 1 ≤ l.length ∧ S ++ [Hx.digL.getD ((l.getD i default).toNat / 16) default, Hx.digL.getD ((l.getD i default).toNat % 16) default] = Hx.print (l.take (i + 1)) := ⟨by omega, by rw [d1, d2, hS]; exact print_take l h⟩
    clear hS d1 d2
    exact wk trueW trueW trueW
  · obtain rfl : i = l.length := by omega
    rw [List.take_length] at hS
    subst hS
    clear hi h
    exact wk trueW trueW trueW
end Hw
end Lf
end Go.Proofs.YtgbgplijpomkeaaDoor

/- Package hex: Parse, Number, ParseNumber. -/
namespace Go.Proofs.YtgbgplijpomkeaaDoor
open Go.RowKit Rg Wm Ar
set_option linter.unusedVariables false
set_option maxRecDepth 100000
namespace Lf
abbrev erK (z : Int) : V := .k (.int .i64 z)
theorem or16_0 : ∀ a, a < 16 → ∀ b, b < 16 → (UInt8.ofNat (a * 2 ^ 4) ||| UInt8.ofNat b) = UInt8.ofNat (a * 16 + b) := by decide
theorem or16 {a b : UInt8} (ha : a.toNat < 16) (hb : b.toNat < 16) : (UInt8.ofNat (a.toNat * 2 ^ 4) ||| b) = UInt8.ofNat (a.toNat * 16 + b.toNat) := by
  have := or16_0 a.toNat ha b.toNat hb
  rwa [Hx.of_toNat] at this
theorem pairs_app : ∀ (d : List UInt8) (a b : UInt8), d.length % 2 = 0 → Hx.pairs (d ++ [a, b]) = Hx.pairs d ++ [UInt8.ofNat (a.toNat * 16 + b.toNat)]
  | [], _, _, _ => rfl
  | [_], _, _, h => by simp at h
  | x :: y :: d, a, b, h => by
    have := pairs_app d a b (by simp only [List.length_cons] at h; omega)
    simp only [List.cons_append, Hx.pairs, this]
theorem take_two (d : List UInt8) {i : Nat} (h : i + 1 < d.length) : d.take (i + 2) = d.take i ++ [d.getD i default, d.getD (i + 1) default] := by
  rw [show i + 2 = i + 1 + 1 from rfl, List.take_add_one, List.take_add_one, List.getD_eq_getElem?_getD, List.getD_eq_getElem?_getD, List.getElem?_eq_getElem (show i < d.length by omega), List.getElem?_eq_getElem h, List.append_assoc]
  rfl
theorem small_at {d : List UInt8} (h : Hx.Small d) (i : Nat) : (d.getD i default).toNat < 16 := by
  rw [List.getD_eq_getElem?_getD]
  by_cases hi : i < d.length
  · rw [List.getElem?_eq_getElem hi]; exact h _ (List.getElem_mem hi)
  · rw [List.getElem?_eq_none (by omega)]; decide
namespace Hw
set_option maxHeartbeats 2000000 in
theorem Parse_ok (d : List UInt8) (hd : Hx.Small d) (he : d.length % 2 = 0) (hl : d.length < 1000000000) : LF Tryd.prog 29 [sK (Hx.txt d)] (fun _ => .t [.s none ((Hx.pairs d).map bK), erK 0]) none := by
  have c1 := halves_ok d hd hl
  have hp2 := Hx.pairs_len d
  generalize Hx.txt d = s at *
  have he2 : ((d.length % 2 : Nat) : Int) ≠ 1 := by omega
  refine LFx.mk' tt Tryd.func29 rfl rfl rfl (by kernel_rfl) rfl rfl fun F => ?_
  refine wk ?_ trueW trueW
  refine LC.nilrow 6 50 5 1 rfl rfl rfl ?_
  refine LC.loop2 (fun i S => [(4, .s none (d.map bK)), (6, .s (some 50) (S.map bK)), (7, .k (.int .i64 ((i : Nat) : Int)))]) (fun i S => [(50, .r 5 1 S.length)]) (fun i S => i ≤ d.length ∧ i % 2 = 0 ∧ S = Hx.pairs (d.take i)) ((d.length - ·)) (0) ([]) ⟨by omega, rfl, rfl⟩ ⟨rfl, rfl, rfl, trivial⟩ ⟨rfl, trivial⟩ rfl rfW rfW ?_
  rintro i S ⟨hi, hi2, hS⟩
  have hSl : S.length = i / 2 := by rw [hS, Hx.pairs_len, List.length_take]; omega
  rcases Nat.lt_or_ge i d.length with h | h
  · have hok : i + 2 ≤ d.length ∧ (i + 2) % 2 = 0 ∧ S ++ [UInt8.ofNat ((d.getD i default).toNat * 2 ^ 4) ||| d.getD (i + 1) default] = Hx.pairs (d.take (i + 2)) := ⟨by omega, by omega, by
      rw [or16 (small_at hd _) (small_at hd _), take_two d (by omega), pairs_app _ _ _ (by rw [List.length_take]; omega), hS]⟩
    clear hS
    exact wk trueW trueW trueW
  · obtain rfl : i = d.length := by omega
    rw [List.take_length] at hS
    subst hS
    exact wk trueW trueW trueW
set_option maxHeartbeats 2000000 in
theorem Parse_no (s : List UInt8) (h : Hx.parse s = none) (hl : s.length < 1000000000) : LF Tryd.prog 29 [sK s] (fun _ => .t [.s none [], erK 1]) none := by
  unfold Hx.parse at h
  cases hh : Hx.halves s with
  | none =>
    have c1 := halves_no s hh hl
    clear h hh
    refine LFx.mk' tt Tryd.func29 rfl rfl rfl (by kernel_rfl) rfl rfl fun F => ?_
    exact wk trueW trueW trueW
  | some d =>
    rw [hh] at h
    simp only at h
    have hodd : d.length % 2 = 1 := Classical.byContradiction fun hn => by rw [if_neg hn] at h; cases h
    obtain ⟨hd, rfl⟩ := Hx.halves_spec hh
    have hl2 : d.length < 1000000000 := by simp only [Hx.txt, List.length_cons, List.length_map] at hl; omega
    have c1 := halves_ok d hd hl2
    clear h hh
    generalize Hx.txt d = s at *
    have he2 : ((d.length % 2 : Nat) : Int) = 1 := by omega
    refine LFx.mk' tt Tryd.func29 rfl rfl rfl (by kernel_rfl) rfl rfl fun F => ?_
    exact wk trueW trueW trueW
end Hw
end Lf
end Go.Proofs.YtgbgplijpomkeaaDoor

/- Package hex: Parse, both ways; strings compared. -/
namespace Go.Proofs.YtgbgplijpomkeaaDoor
open Go.RowKit Rg Wm Ar
set_option maxRecDepth 100000
namespace Lf
theorem eqT (a b : List UInt8) : arithS .eql ⟨a.toArray⟩ ⟨b.toArray⟩ = some (.bool (decide (a = b))) := by
  simp only [arithS, ByteArray.toList_mk]
  by_cases h : a = b
  · subst h; simp
  · simp [h]
namespace Hw
theorem Parse_a (s : List UInt8) (hl : s.length < 1000000000) : LF Tryd.prog 29 [sK s] (fun _ => .t [.s none (((Hx.parse s).getD []).map bK), erK (if (Hx.parse s).isSome then 0 else 1)]) none := by
  cases h : Hx.parse s with
  | none => exact Parse_no s h hl
  | some l =>
    unfold Hx.parse at h
    split at h
    · rename_i d hd
      obtain ⟨h1, rfl⟩ := Hx.halves_spec hd
      split at h
      · cases h
      · cases h
        exact Parse_ok d h1 (by omega) (by simp only [Hx.txt, List.length_cons, List.length_map] at hl; omega)
    · cases h
end Hw
end Lf
end Go.Proofs.YtgbgplijpomkeaaDoor

/- Strings: the first space; Cut. -/
namespace Go.Proofs.YtgbgplijpomkeaaDoor
open Go.RowKit Rg Wm Ar
set_option maxRecDepth 100000
namespace Co
theorem index_spc : ∀ s : List UInt8, Lib.indexByte s 32 = if spc s < s.length then ((spc s : Nat) : Int) else -1
  | [] => rfl
  | x :: l => by
    have ih := index_spc l
    by_cases hx : x = 32
    · subst hx
      simp [Lib.indexByte, spc]
    · have hb : (x == 32) = false := by rw [beq_eq_false_iff_ne]; exact hx
      simp only [Lib.indexByte, hb, Bool.false_eq_true, if_false, spc, if_neg hx, List.length_cons]
      rw [ih]
      by_cases h : spc l < l.length
      · have e1 : (((spc l : Nat) : Int) == -1) = false := by rw [beq_eq_false_iff_ne]; omega
        rw [if_pos h, if_pos (show spc l + 1 < l.length + 1 by omega), e1, if_neg Bool.false_ne_true]
        omega
      · rw [if_neg h, if_neg (show ¬ spc l + 1 < l.length + 1 by omega)]
        rfl
/-- Where the first space is, or -1. -/
def ix (s : List UInt8) : Int := if spc s < s.length then ((spc s : Nat) : Int) else -1
end Co
namespace Lf
namespace Cw
theorem IndexByte0 (s : List UInt8) (w : World) : Calls Tryd.prog 45 #[.string ⟨s.toArray⟩, .int .u8 32] w fun e w' => e = .returned (.int .i64 (Co.ix s)) ∧ Ext w w' := by
  go_enter Tryd.func45, Tryd.ntmps45
  go_wp2
  rw [run_callFunc_extern (P := Tryd.prog) (f := 51) (fn := Tryd.f51) (e := Extern.BytealgIndexByte.indexByte) (by kernel_rfl) (by kernel_rfl) (by kernel_rfl) (by kernel_rfl) (by kernel_rfl), Lib.run_indexByteString]
  simp only [Result.andThen]
  rw [Oper.upon_value]
  go_wp2
  go_ret
  exact ⟨by rw [show Co.ix s = Lib.indexByte s 32 from (Co.index_spc s).symm]; rfl, Ext.refl _⟩
theorem IndexByte (s : List UInt8) : LF Tryd.prog 45 [sK s, .k (.int .u8 32)] (fun _ => .k (.int .i64 (Co.ix s))) none := .of_calls (by kernel_rfl) rfl (ex2 (exact_k _) (exact_k _)) (exact_k _) fun w => IndexByte0 s w
end Cw
end Lf
end Go.Proofs.YtgbgplijpomkeaaDoor

/- Strings: Index of a space, Cut at a space. -/
namespace Go.Proofs.YtgbgplijpomkeaaDoor
open Go.RowKit Rg Wm Ar
set_option linter.unusedVariables false
set_option maxRecDepth 100000
namespace Lf
theorem cut_tail (s : List UInt8) (i : Nat) : (s.drop i).take (s.length - i) = s.drop i := List.take_of_length_le (by rw [List.length_drop]; omega)
namespace Cw
theorem Index (s : List UInt8) (hl : s.length < 1000000000) : LF Tryd.prog 38 [sK s, sK [32]] (fun _ => .k (.int .i64 (Co.ix s))) none := by
  have hs := eqT [32] s
  by_cases h : [32] = s
  · subst h
    rw [decide_eq_true rfl] at hs
    rw [show Co.ix [32] = 0 by decide]
    refine LFx.mk' tt Tryd.func38 rfl rfl rfl (by kernel_rfl) rfl rfl fun F => ?_
    exact wk trueW trueW trueW
  · rw [decide_eq_false h] at hs
    have c1 := IndexByte s
    generalize Co.ix s = r at *
    refine LFx.mk' tt Tryd.func38 rfl rfl rfl (by kernel_rfl) rfl rfl fun F => ?_
    exact wk trueW trueW trueW
theorem Cut_yes (s : List UInt8) (h : Co.spc s < s.length) (hl : s.length < 1000000000) : LF Tryd.prog 28 [sK s, sK [32]] (fun _ => .t [sK (s.take (Co.spc s)), sK (s.drop (Co.spc s + 1)), .k (.bool true)]) none := by
  have c1 := Index s hl
  rw [show Co.ix s = ((Co.spc s : Nat) : Int) from if_pos h] at c1
  rw [← cut_tail s (Co.spc s + 1)]
  generalize Co.spc s = i at *
  have hw : IntKind.i64.wrap (((i : Nat) : Int) + ((([32] : List UInt8).length : Nat) : Int)) = ((i + 1 : Nat) : Int) := by
    rw [show ((i : Nat) : Int) + ((([32] : List UInt8).length : Nat) : Int) = ((i + 1 : Nat) : Int) by simp]
    exact wrap_i64 (by omega)
  have q : LF Tryd.prog 32 [sK s, sK [32]] (fun _ => .t [sK (s.take i), sK ((s.drop (i + 1)).take (s.length - (i + 1))), .k (.bool true)]) none := by
    refine LFx.mk' tt Tryd.func32 rfl rfl rfl (by kernel_rfl) rfl rfl fun F => ?_
    exact wk trueW trueW trueW
  clear c1
  have c1 := q
  generalize s.take i = a at *
  generalize (s.drop (i + 1)).take (s.length - (i + 1)) = b at *
  refine LFx.mk' tt Tryd.func28 rfl rfl rfl (by kernel_rfl) rfl rfl fun F => ?_
  exact wk trueW trueW trueW
theorem Cut_no (s : List UInt8) (h : ¬ Co.spc s < s.length) (hl : s.length < 1000000000) : LF Tryd.prog 28 [sK s, sK [32]] (fun _ => .t [sK s, sK [], .k (.bool false)]) none := by
  have c1 := Index s hl
  rw [show Co.ix s = -1 from if_neg h] at c1
  have q : LF Tryd.prog 32 [sK s, sK [32]] (fun _ => .t [sK s, sK [], .k (.bool false)]) none := by
    refine LFx.mk' tt Tryd.func32 rfl rfl rfl (by kernel_rfl) rfl rfl fun F => ?_
    exact wk trueW trueW trueW
  clear c1 h
  have c1 := q
  refine LFx.mk' tt Tryd.func28 rfl rfl rfl (by kernel_rfl) rfl rfl fun F => ?_
  exact wk trueW trueW trueW
end Cw
end Lf
end Go.Proofs.YtgbgplijpomkeaaDoor

/- Package code: line, Disassemble. -/
namespace Go.Proofs.YtgbgplijpomkeaaDoor
open Go.RowKit Rg Wm Ar
set_option linter.unusedVariables false
set_option maxRecDepth 100000
namespace Co
theorem nm_len (b : UInt8) : (nm b).length ≤ 10 := (good_at (toNat_lt b)).2.2.2.2
theorem line_none {c : List UInt8} {p : Nat} (hp : p < c.length) (h : nm (c.getD p default) = []) : line c p = Hx.print ((c.drop p).take (p + 1 - p)) := by
  unfold line
  rw [if_pos h, show p + 1 - p = 1 by omega, List.drop_eq_getElem_cons hp, List.take_succ_cons, List.take_zero, List.getD_eq_getElem?_getD, List.getElem?_eq_getElem hp]
  rfl
theorem line_long {c : List UInt8} {p : Nat} (h : ¬ nm (c.getD p default) = []) (h2 : 0 < psh (c.getD p default)) : line c p = nm (c.getD p default) ++ [32] ++ Hx.print ((c.drop (p + 1)).take (nxt c p - (p + 1))) := by
  unfold line
  rw [if_neg h, if_pos h2]
theorem line_short {c : List UInt8} {p : Nat} (h : ¬ nm (c.getD p default) = []) (h2 : ¬ 0 < psh (c.getD p default)) : line c p = nm (c.getD p default) := by
  unfold line
  rw [if_neg h, if_neg h2]
end Co
namespace Lf
theorem sK_one (l : List (List UInt8)) : ∀ e ∈ l.map sK, e.cells.length = 1 := fun e he => by obtain ⟨x, _, rfl⟩ := List.mem_map.1 he; rfl
namespace Cw
set_option maxHeartbeats 2000000 in
theorem line (c : List UInt8) (p : Nat) (hp : p < c.length) (hl : c.length < 100000000) : LF Tryd.prog 24 [.s none (c.map bK), iN p] (fun _ => sK (Co.line c p)) none := by
  have c1 := NameB (c.getD p default)
  have c2 := pushedB (c.getD p default)
  have hs := eqT (Co.nm (c.getD p default)) []
  have hnl := Co.nm_len (c.getD p default)
  by_cases h1 : Co.nm (c.getD p default) = []
  · rw [Co.line_none hp h1]
    have c3 := Hw.Print ((c.drop p).take (p + 1 - p)) (by rw [List.length_take]; omega)
    rw [decide_eq_true h1] at hs
    rw [h1] at c1 hs
    clear h1 hnl
    generalize Hx.print ((c.drop p).take (p + 1 - p)) = t at *
    refine LFx.mk' tt Tryd.func24 rfl rfl rfl (by kernel_rfl) rfl rfl fun F => ?_
    exact wk trueW trueW trueW
  · rw [decide_eq_false h1] at hs
    by_cases h2 : 0 < Co.psh (c.getD p default)
    · rw [Co.line_long h1 h2]
      have c3 := Next c p hp (by omega)
      have hg := Co.nxt_gt hp
      have hle := Co.nxt_le c p
      have c4 := Hw.Print ((c.drop (p + 1)).take (Co.nxt c p - (p + 1))) (by rw [List.length_take, List.length_drop]; omega)
      have hpl := Hx.print_len ((c.drop (p + 1)).take (Co.nxt c p - (p + 1)))
      rw [List.length_take, List.length_drop] at hpl
      generalize Hx.print ((c.drop (p + 1)).take (Co.nxt c p - (p + 1))) = t at *
      clear h1
      generalize Co.nm (c.getD p default) = m at *
      generalize Co.psh (c.getD p default) = q at *
      generalize Co.nxt c p = r at *
      refine LFx.mk' tt Tryd.func24 rfl rfl rfl (by kernel_rfl) rfl rfl fun F => ?_
      exact wk trueW trueW trueW
    · rw [Co.line_short h1 h2]
      clear h1
      generalize Co.nm (c.getD p default) = m at *
      generalize Co.psh (c.getD p default) = q at *
      refine LFx.mk' tt Tryd.func24 rfl rfl rfl (by kernel_rfl) rfl rfl fun F => ?_
      exact wk trueW trueW trueW
set_option maxHeartbeats 2000000 in
theorem Disassemble (c : List UInt8) (hl : c.length < 100000000) : LF Tryd.prog 13 [.s none (c.map bK)] (fun _ => .s none ((Co.dis c).map sK)) none := by
  refine LFx.mk' tt Tryd.func13 rfl rfl rfl (by kernel_rfl) rfl rfl fun F => ?_
  refine wk ?_ trueW trueW
  refine LC.nilrow 3 60 9 1 rfl rfl rfl ?_
  refine LC.loop2 (fun p S => [(0, .s none (c.map bK)), (3, .s (some 60) (S.map sK)), (4, .k (.int .i64 ((p : Nat) : Int)))]) (fun p S => [(60, .r 9 1 S.length)]) (fun p S => p ≤ c.length ∧ S.length ≤ p ∧ Co.dis c = S ++ (Co.plc c p).map (Co.line c)) ((c.length - ·)) (0) ([]) ⟨Nat.zero_le _, Nat.le_refl _, rfl⟩ ⟨rfl, rfl, rfl, trivial⟩ ⟨rfl, trivial⟩ rfl rfW rfW ?_
  rintro p S ⟨hp, hSl, hS⟩
  have hz := sK_one S
  rcases Nat.lt_or_ge p c.length with h | h
  · have c1 := line c p h hl
    have c2 := Next c p h (by omega)
    have hg := Co.nxt_gt h
    have hle := Co.nxt_le c p
    rw [Co.plc_at h, List.map_cons] at hS
    have hok : Co.nxt c p ≤ c.length ∧ (S ++ [Co.line c p]).length ≤ Co.nxt c p ∧ Co.dis c = (S ++ [Co.line c p]) ++ (Co.plc c (Co.nxt c p)).map (Co.line c) := ⟨hle, by rw [List.length_append, List.length_singleton]; omega, by rw [hS, List.append_assoc]; rfl⟩
    clear hS
    generalize Co.nxt c p = r at *
    generalize Co.line c p = t at *
    exact wk trueW trueW trueW
  · rw [Co.plc_end h, List.map_nil, List.append_nil] at hS
    rw [hS]
    clear hS
    exact wk trueW trueW trueW
end Cw
end Lf
end Go.Proofs.YtgbgplijpomkeaaDoor

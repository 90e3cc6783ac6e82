/- A part of the proof: texts joined. -/
import Derived.Test.YtpchigdcikknmaaProg
import Derived.Shelf.Bits.Mul64
import Derived.RangeFuncIn
import Derived.RangeFuncRecord
import Derived.RangeFuncSeq
import Derived.Test.YtpchigdcikknmaaQ483cde9
/- Numbers by their digits, the greatest first: lists without noughts ahead are one for each number, and are ordered as the numbers are. Plain Lean. -/
namespace Go.Proofs.Ytpchigdcikknmaa
namespace Ps
def pos (B : Nat) : List Nat → Nat
  | [] => 0
  | a :: l => a * B ^ l.length + pos B l
def NL (l : List Nat) : Prop := l.head? ≠ some 0
def lexN : List Nat → List Nat → Bool
  | a :: l, b :: m => decide (a < b) || (decide (a = b) && lexN l m)
  | [], _ :: _ => true
  | _, [] => false
theorem pos_append (B : Nat) (l m : List Nat) : pos B (l ++ m) = pos B l * B ^ m.length + pos B m := by
  induction l with
  | nil => simp [pos]
  | cons a l ih =>
    simp only [List.cons_append, pos, ih, List.length_append, Nat.pow_add, Nat.add_mul, Nat.mul_assoc, Nat.add_assoc]
theorem pos_lt {B : Nat} {l : List Nat} (h : ∀ a ∈ l, a < B) : pos B l < B ^ l.length := by
  induction l with
  | nil => simp [pos]
  | cons a l ih =>
    have h1 := ih fun x hx => h x (by simp [hx])
    have h2 : (a + 1) * B ^ l.length ≤ B * B ^ l.length := Nat.mul_le_mul_right _ (h a (by simp))
    simp only [pos, List.length_cons, Nat.pow_succ]
    rw [Nat.mul_comm (B ^ l.length) B]
    rw [Nat.add_mul, Nat.one_mul] at h2
    omega
theorem pos_ge {B : Nat} {a : Nat} {l : List Nat} (h : a ≠ 0) : B ^ l.length ≤ pos B (a :: l) := by
  simp only [pos]
  have : 1 * B ^ l.length ≤ a * B ^ l.length := Nat.mul_le_mul_right _ (by omega)
  omega
theorem pos_lex {B : Nat} : ∀ {l m : List Nat}, l.length = m.length → (∀ a ∈ l, a < B) → (∀ a ∈ m, a < B) → (pos B l < pos B m ↔ lexN l m = true)
  | [], [], _, _, _ => by simp [pos, lexN]
  | a :: l, b :: m, hl, h1, h2 => by
    have hl' : l.length = m.length := by simpa using hl
    have ih := pos_lex hl' (fun x hx => h1 x (by simp [hx])) (fun x hx => h2 x (by simp [hx]))
    have k1 := pos_lt (B := B) (l := l) fun x hx => h1 x (by simp [hx])
    have k2 := pos_lt (B := B) (l := m) fun x hx => h2 x (by simp [hx])
    simp only [pos, lexN, Bool.or_eq_true, Bool.and_eq_true, decide_eq_true_eq, ← ih]
    rw [← hl'] at k2 ⊢
    generalize B ^ l.length = p at *
    rcases Nat.lt_trichotomy a b with h | h | h
    · have := Nat.mul_le_mul_right p (Nat.succ_le_of_lt h)
      rw [Nat.succ_mul] at this
      exact ⟨fun _ => .inl h, fun _ => by omega⟩
    · subst h
      exact ⟨fun k => .inr ⟨rfl, by omega⟩, fun k => by rcases k with k | k <;> omega⟩
    · have := Nat.mul_le_mul_right p (Nat.succ_le_of_lt h)
      rw [Nat.succ_mul] at this
      exact ⟨fun k => by omega, fun k => by rcases k with k | k <;> omega⟩
  | [], _ :: _, hl, _, _ => by simp at hl
  | _ :: _, [], hl, _, _ => by simp at hl
theorem pos_len {B : Nat} {l m : List Nat} (hB : 0 < B) (hl : l.length < m.length) (h1 : ∀ a ∈ l, a < B) (hm : NL m) : pos B l < pos B m := by
  cases m with
  | nil => simp at hl
  | cons b m =>
    have h2 : b ≠ 0 := fun e => hm (by simp [e])
    have := pos_ge (B := B) (l := m) h2
    have k := pos_lt h1
    have : B ^ l.length ≤ B ^ m.length := Nat.pow_le_pow_right hB (by simp at hl; omega)
    omega
theorem pos_order {B : Nat} {l m : List Nat} (hB : 0 < B) (h1 : ∀ a ∈ l, a < B) (h2 : ∀ a ∈ m, a < B) (k1 : NL l) (k2 : NL m) : pos B l < pos B m ↔ l.length < m.length ∨ (l.length = m.length ∧ lexN l m = true) := by
  rcases Nat.lt_trichotomy l.length m.length with h | h | h
  · exact ⟨fun _ => .inl h, fun _ => pos_len hB h h1 k2⟩
  · rw [pos_lex h h1 h2]
    exact ⟨fun k => .inr ⟨h, k⟩, fun k => by rcases k with k | k <;> first | omega | exact k.2⟩
  · have := pos_len hB h h2 k1
    exact ⟨fun k => by omega, fun k => by omega⟩
theorem lexN_irr (l : List Nat) : lexN l l = false := by induction l <;> simp [lexN, *]
theorem lexN_eq : ∀ {l m : List Nat}, l.length = m.length → lexN l m = false → lexN m l = false → l = m
  | [], [], _, _, _ => rfl
  | a :: l, b :: m, hl, h1, h2 => by
    simp only [lexN, Bool.or_eq_false_iff, Bool.and_eq_false_iff, decide_eq_false_iff_not] at h1 h2
    obtain rfl : a = b := by omega
    rw [lexN_eq (l := l) (m := m) (by simpa using hl) (by rcases h1.2 with h | h; exact absurd rfl h; exact h) (by rcases h2.2 with h | h; exact absurd rfl h; exact h)]
  | [], _ :: _, hl, _, _ => by simp at hl
  | _ :: _, [], hl, _, _ => by simp at hl
theorem pos_inj {B : Nat} {l m : List Nat} (hB : 0 < B) (h1 : ∀ a ∈ l, a < B) (h2 : ∀ a ∈ m, a < B) (k1 : NL l) (k2 : NL m) (h : pos B l = pos B m) : l = m := by
  have e1 := pos_order hB h1 h2 k1 k2
  have e2 := pos_order hB h2 h1 k2 k1
  have n1 : ¬ (l.length < m.length ∨ (l.length = m.length ∧ lexN l m = true)) := fun h' => by have := e1.2 h'; omega
  have n2 : ¬ (m.length < l.length ∨ (m.length = l.length ∧ lexN m l = true)) := fun h' => by have := e2.2 h'; omega
  have hl : l.length = m.length := by omega
  refine lexN_eq hl ?_ ?_
  · rw [← Bool.not_eq_true]; exact fun h' => n1 (.inr ⟨hl, h'⟩)
  · rw [← Bool.not_eq_true]; exact fun h' => n2 (.inr ⟨hl.symm, h'⟩)
/-- Without noughts ahead. -/
def strip (l : List UInt8) : List UInt8 := l.dropWhile (· == 0)
def nat8 (l : List UInt8) : List Nat := l.map UInt8.toNat
theorem nat8_lt (l : List UInt8) : ∀ a ∈ nat8 l, a < 256 := fun a ha => by
  obtain ⟨x, _, rfl⟩ := List.mem_map.1 ha
  exact x.toNat_lt
theorem nat8_inj {l m : List UInt8} (h : nat8 l = nat8 m) : l = m := by
  induction l generalizing m with
  | nil => cases m with
    | nil => rfl
    | cons _ _ => simp [nat8] at h
  | cons a l ih => cases m with
    | nil => simp [nat8] at h
    | cons b m =>
      simp only [nat8, List.map_cons, List.cons.injEq] at h
      rw [UInt8.toNat_inj.1 h.1, ih h.2]
theorem strip_nl (l : List UInt8) : NL (nat8 (strip l)) := by
  unfold strip
  induction l with
  | nil => simp [NL, nat8]
  | cons a l ih =>
    rw [List.dropWhile_cons]
    split
    · exact ih
    · rename_i h
      intro e
      simp only [nat8, List.map_cons, List.head?_cons, Option.some.injEq] at e
      apply h
      have : a = 0 := UInt8.toNat_inj.1 (by rw [e]; rfl)
      simp [this]
theorem strip_pos (B : Nat) (l : List UInt8) : pos B (nat8 (strip l)) = pos B (nat8 l) := by
  unfold strip
  induction l with
  | nil => rfl
  | cons a l ih =>
    rw [List.dropWhile_cons]
    split
    · rename_i h
      have : a = 0 := by simpa using h
      subst this
      rw [ih]
      simp [nat8, pos]
    · rfl
theorem strip_len (l : List UInt8) : (strip l).length ≤ l.length := (List.dropWhile_sublist _).length_le
theorem nl_iff (l : List UInt8) : NL (nat8 l) ↔ l.head? ≠ some 0 := by
  cases l with
  | nil => simp [NL, nat8]
  | cons a l =>
    simp only [NL, nat8, List.map_cons, List.head?_cons, ne_eq, Option.some.injEq]
    constructor
    · intro h e; apply h; rw [e]; rfl
    · intro h e; apply h; exact UInt8.toNat_inj.1 (by rw [e]; rfl)
theorem strip_id {l : List UInt8} (h : l.head? ≠ some 0) : strip l = l := by
  cases l with
  | nil => rfl
  | cons a l =>
    unfold strip
    rw [List.dropWhile_cons, if_neg]
    intro e
    apply h
    have : a = 0 := by simpa using e
    rw [this]; rfl
/-- The number of a list of bytes. -/
def beN (l : List UInt8) : Nat := pos 256 (nat8 l)
theorem beN_lt (l : List UInt8) : beN l < 256 ^ l.length := by
  have := pos_lt (nat8_lt l)
  rwa [show (nat8 l).length = l.length by simp [nat8]] at this
theorem beN_strip (l : List UInt8) : beN (strip l) = beN l := strip_pos 256 l
theorem beN_inj {l m : List UInt8} (k1 : l.head? ≠ some 0) (k2 : m.head? ≠ some 0) (h : beN l = beN m) : l = m :=
  nat8_inj (pos_inj (by decide) (nat8_lt l) (nat8_lt m) ((nl_iff l).2 k1) ((nl_iff m).2 k2) h)
theorem strip_head (l : List UInt8) : (strip l).head? ≠ some 0 := (nl_iff _).1 (strip_nl l)
theorem strip_of {l m : List UInt8} (k : m.head? ≠ some 0) (h : beN l = beN m) : strip l = m := beN_inj (strip_head l) k ((beN_strip l).trans h)
end Ps
end Go.Proofs.Ytpchigdcikknmaa

/- A region that draws its order, as in XRegion; what makes memory may turn the blocks that are not kept. -/
namespace Go.Proofs.Ytpchigdcikknmaa
open Go.RowKit
namespace Rf
open Rg (noCall noCall_spec np wp_monoQ wpOp_monoQ Closed Closed.step waits waitsB waits_listed nth pick freeW chkS chkT chk planSize nth_of)
/-- A later world: every kept block that was there is as it was. -/
structure Ext (F : Nat → Prop) (w w' : World) : Prop where
  size : w.heap.size ≤ w'.heap.size
  block : ∀ k, k < w.heap.size → F k → w'.heap[k]? = w.heap[k]?
theorem Ext.refl {F : Nat → Prop} (w : World) : Ext F w w := ⟨Nat.le_refl _, fun _ _ _ => rfl⟩
theorem Ext.trans {F : Nat → Prop} {a b c : World} (h : Ext F a b) (k : Ext F b c) : Ext F a c := ⟨Nat.le_trans h.size k.size, fun i hi hF => (k.block i (Nat.lt_of_lt_of_le hi h.size) hF).trans (h.block i hi hF)⟩
theorem Ext.of {F : Nat → Prop} {w w' : World} (h : Rg.Ext w w') : Ext F w w' := ⟨h.size, fun k hk _ => h.block k hk⟩
theorem Ext.setCell {F : Nat → Prop} (w : World) (p : Addr) (u : Value) (h : ¬ F p.block) : Ext F w (w.setCell p u) :=
  ⟨by simp, fun k _ hF => Below.heap_setCell w p u k (fun e => h (e ▸ hF))⟩
theorem Ext.setRow {F : Nat → Prop} (w : World) (g : Nat) (cs : Array Value) (h : ¬ F g) : Ext F w (w.setRow g cs) :=
  ⟨by simp, fun k _ hF => setRow_other w g k cs (fun e => h (e ▸ hF))⟩
/-- The class of the later worlds, in the spelling that the quiet walk reads. -/
structure Lt (F : Nat → Prop) (w : World) where
  v : World
  ext : Ext F w v
instance (F : Nat → Prop) (w : World) : Nonempty (Lt F w) := ⟨⟨w, Ext.refl w⟩⟩
def Cls (F : Nat → Prop) (w : World) (w' : World) : Prop := ∃ x : Lt F w, w' = x.v
theorem Cls.mk {F : Nat → Prop} {w w' : World} (h : Ext F w w') : Cls F w w' := ⟨⟨w', h⟩, rfl⟩
@[go_sem] theorem cls_iff (F : Nat → Prop) (w w' : World) : Cls F w w' ↔ ∃ x : Lt F w, w' = x.v := Iff.rfl
/-- A cell of a kept block is there in every later world. -/
theorem Ext.cell {F : Nat → Prop} {w w' : World} (h : Ext F w w') {a : Addr} {v : Value} (hc : w.cell? a = some v) (hF : F a.block) : w'.cell? a = some v := by
  rw [World.cell?_of_block (w := w) (h.block a.block (World.block_lt_of_cell? w a hc) hF)]; exact hc
theorem later {F : Nat → Prop} {w : World} {a : Addr} {v : Value} (hc : w.cell? a = some v) (hF : F a.block) : ∀ x : Lt F w, x.v.cell? a = some v := fun x => x.ext.cell hc hF
theorem laterB {F : Nat → Prop} {w : World} {g : Nat} {o : Obj} (hc : w.heap[g]? = some o) (hF : F g) : ∀ x : Lt F w, x.v.heap[g]? = some o := fun x => by
  rw [x.ext.block g (Array.getElem?_eq_some_iff.1 hc).1 hF]; exact hc

section
variable {F : Nat → Prop} {P : Program} {ops : Array Oper} {Q : Exit → Act → World → Prop} {md : Region.Mode}

/-- In every later world operation 'o' leaves 'v', and the world as it is. -/
def Yld (F : Nat → Prop) (P : Program) (ops : Array Oper) (w : World) (o : Oper) (v : Value) (a : Act) : Prop :=
  (Region.wanted o (yielded ops a.tmps) = true ∧ ∀ w', Ext F w w' → (execOp a.eval o).run P w' = .ok (.value v) w' ∨ ((execOp a.eval o).run P w' = .ok .skip w' ∧ v = undef)) ∨
  (Region.wanted o (yielded ops a.tmps) = false ∧ v = undef)

theorem Yld.later {w w1 : World} {o : Oper} {v : Value} {a : Act} (h : Yld F P ops w o v a) (he : Ext F w w1) : Yld F P ops w1 o v a := by
  rcases h with ⟨hw, h⟩ | h
  · exact .inl ⟨hw, fun w' hw' => h w' (he.trans hw')⟩
  · exact .inr h

theorem Yld.of_same {w : World} {o : Oper} {v : Value} {a a' : Act} (hy : Yld F P ops w o v a) (he : execOp a'.eval o = execOp a.eval o)
    (hw : Region.wanted o (yielded ops a'.tmps) = Region.wanted o (yielded ops a.tmps)) : Yld F P ops w o v a' := by
  unfold Yld at *
  rw [he, hw]
  exact hy

theorem Yld.wpOp {w : World} {i : Nat} {o : Oper} {v : Value} {a : Act} (hi : ops[i]? = some o) (hy : Yld F P ops w o v a) {K : Act → World → Prop} (h : K (a.put o.dst v) w) : wpOp P ops Q i K a w := by
  unfold Go.wpOp
  simp only [hi]
  rcases hy with ⟨hw, hv⟩ | ⟨hw, rfl⟩
  · rw [if_pos hw]
    refine .inl ?_
    unfold Oper.wp
    rcases hv w (Ext.refl w) with hx | ⟨hx, rfl⟩
    · rw [hx]; exact h
    · rw [hx]; exact h
  · simp only [hw, Bool.false_eq_true, if_false]; exact h

theorem yld_of_quiet {w : World} {o : Oper} {a : Act} {K : Act → Prop} (hn : noCall o.op = true)
    (h : if Region.wanted o (yielded ops a.tmps) then o.quiet P a (Cls F w) K else K (a.put o.dst undef)) : ∃ v, Yld F P ops w o v a ∧ K (a.put o.dst v) := by
  by_cases hw : Region.wanted o (yielded ops a.tmps) = true
  · simp only [hw, if_true] at h
    obtain ⟨v, h1, h2⟩ := h
    refine ⟨v, .inl ⟨hw, fun w' hw' => ?_⟩, h2⟩
    have h3 := h1 w' (Cls.mk hw')
    unfold Oper.quietAt at h3
    have hne := fun f args w'' => noCall_spec (P := P) hn a.eval w' f args w''
    generalize (execOp a.eval o).run P w' = r at *
    cases r with
    | halt x w'' => simp only [Oper.quietUpon] at h3
    | ok n w'' =>
      cases n <;> simp only [Oper.quietUpon] at h3
      case value u => obtain ⟨rfl, rfl⟩ := h3; exact .inl rfl
      case skip => obtain ⟨rfl, rfl⟩ := h3; exact .inr ⟨rfl, rfl⟩
      case enter f args => exact absurd rfl (hne f args w'')
  · simp only [hw] at h
    exact ⟨undef, .inr ⟨by simpa using hw, rfl⟩, h⟩

/-- Whatever order is picked; what is not of the tail leaves a later world than 'wb'. -/
def anyE (F : Nat → Prop) (P : Program) (md : Region.Mode) (ops : Array Oper) (Q : Exit → Act → World → Prop) (tl : List Nat) (wb : World) : Nat → Array Bool → Act → World → Prop
  | 0, listed, a, w => Region.ready md ops listed = [] ∧ Q .normal a w
  | fuel + 1, listed, a, w =>
    (Region.ready md ops listed = [] → Q .normal a w) ∧
    ∀ i ∈ Region.ready md ops listed, wpOp P ops (if tl.contains i then Q else np Q) i (fun a' w' => (tl.contains i = false → Ext F wb w') ∧ anyE F P md ops Q tl wb fuel (listed.setIfInBounds i true) a' w') a w

theorem anyE_any {tl : List Nat} {wb : World} : ∀ (fuel : Nat) (listed : Array Bool) (a : Act) (w : World), anyE F P md ops Q tl wb fuel listed a w → wpAny P md ops Q fuel listed a w
  | 0, _, _, _, h => h
  | fuel + 1, _, _, _, h => ⟨h.1, fun i hi => wpOp_monoQ (fun c a w hq => by split at hq; exact hq; exact hq.2) (fun a w hq => by split at hq; exact hq; exact hq.2) (wpOp_mono (fun a' w' h' => anyE_any fuel _ a' w' h'.2) (h.2 i hi))⟩

theorem anyE_base {tl : List Nat} {wb wb' : World} (he : Ext F wb wb') : ∀ (fuel : Nat) (listed : Array Bool) (a : Act) (w : World), anyE F P md ops Q tl wb' fuel listed a w → anyE F P md ops Q tl wb fuel listed a w
  | 0, _, _, _, h => h
  | fuel + 1, _, _, _, h => ⟨h.1, fun i hi => wpOp_mono (fun a' w' h' => ⟨fun ht => he.trans (h'.1 ht), anyE_base he fuel _ a' w' h'.2⟩) (h.2 i hi)⟩

/-- Taken first: a reading operation. -/
theorem anyE_first {tl : List Nat} {wb : World} {i : Nat} {oi : Oper} {v : Value} {W : Array Nat} (hW : waitsB md ops W = true) (hi : ops[i]? = some oi)
    (hsel : ∀ (j : Nat) (o : Oper) cs b, ops[j]? = some o → o.op ≠ .select cs b) :
    ∀ (fuel : Nat) (listed : Array Bool) (a : Act) (w : World), Closed md ops listed → Ext F wb w →
      (∀ j oj, ops[j]? = some oj → j ≠ i → listed.getD j true = false → waits W j i = true ∨ (oi.apart ops oj = true ∧ tl.contains j = false)) →
      i ∈ Region.ready md ops listed → Yld F P ops wb oi v a →
      anyE F P md ops Q tl wb fuel (listed.setIfInBounds i true) (a.put oi.dst v) w → anyE F P md ops Q tl wb (fuel + 1) listed a w := by
  intro fuel
  induction fuel with
  | zero =>
    intro listed a w hc hwb hfree hr hy H
    refine ⟨fun h => (by rw [h] at hr; cases hr), fun j hj => ?_⟩
    by_cases hji : j = i
    · subst hji; exact (hy.later hwb).wpOp hi ⟨fun _ => hwb, H⟩
    · have := ready_mono hj hji
      rw [H.1] at this
      cases this
  | succ fuel ih =>
    intro listed a w hc hwb hfree hr hy H
    refine ⟨fun h => (by rw [h] at hr; cases hr), fun j hj => ?_⟩
    by_cases hji : j = i
    · subst hji; exact (hy.later hwb).wpOp hi ⟨fun _ => hwb, H⟩
    · have h1 := H.2 j (ready_mono hj hji)
      obtain ⟨hjun, oj, hoj, hall⟩ := mem_ready.1 hj
      have hilt : i < ops.size := (Array.getElem?_eq_some_iff.1 hi).1
      have hiun : listed.getD i false = false := by
        have h0 := (mem_ready.1 hr).1
        rcases Nat.lt_or_ge i listed.size with h' | h'
        · simpa [h'] using h0
        · simp [Array.getElem?_eq_none h']
      have hap : oi.apart ops oj = true ∧ tl.contains j = false := by
        rcases hfree j oj hoj hji hjun with hw | h
        · have := waits_listed hW hc hilt j j oj (Nat.le_refl _) hoj hall hw
          rw [hiun] at this
          cases this
        · exact h
      obtain ⟨p1, p2, p3⟩ := Oper.apart_spec hap.1
      have hsi := fun cs b => hsel i oi cs b hi
      have hsj := fun cs b => hsel j oj cs b hoj
      have keep : ∀ (a : Act), Yld F P ops wb oi v a → ∀ u, Yld F P ops wb oi v (a.put oj.dst u) := fun a hy u =>
        hy.of_same (execOp_put oi hsi a oj.dst u p3) (wanted_put oi a oj.dst u p3)
      have keepD : ∀ d, Yld F P ops wb oi v { a with defers := d :: a.defers } := fun d => hy.of_same rfl rfl
      have hfree' : ∀ k ok, ops[k]? = some ok → k ≠ i → (listed.setIfInBounds j true).getD k true = false → waits W k i = true ∨ (oi.apart ops ok = true ∧ tl.contains k = false) := fun k ok hk hki hun => by
        refine hfree k ok hk hki ?_
        by_cases hjk : j = k
        · subst hjk; exact hjun
        · rw [getD_set_ne true hjk] at hun; exact hun
      have fin : ∀ (a' : Act) (w' : World), Yld F P ops wb oi v a' → Ext F wb w' → anyE F P md ops Q tl wb fuel ((listed.setIfInBounds i true).setIfInBounds j true) (a'.put oi.dst v) w' →
          (True → Ext F wb w') ∧ anyE F P md ops Q tl wb (fuel + 1) (listed.setIfInBounds j true) a' w' := fun a' w' hy' he' h' =>
        ⟨fun _ => he', ih _ a' w' (hc.step hj) he' hfree' (ready_mono hr (Ne.symm hji)) hy' (by rw [Array.setIfInBounds_comm _ _ hji]; exact h')⟩
      rw [hap.2] at h1 ⊢
      simp only [Bool.false_eq_true, if_false] at h1 ⊢
      unfold wpOp at *
      simp only [hoj] at *
      rw [wanted_put oj a oi.dst v p1] at h1
      split
      · rename_i hw
        simp only [hw, if_true] at h1
        rcases h1 with h1 | ⟨hasks, hlets⟩
        case inr => exact .inr ⟨by unfold Oper.asks at *; rw [execOp_put oj hsj a oi.dst v p1] at hasks; exact hasks, hlets⟩
        refine .inl ?_
        unfold Oper.wp at *
        rw [execOp_put oj hsj a oi.dst v p1] at h1
        generalize (execOp a.eval oj).run P w = r at *
        cases r with
        | ok n w' =>
          cases n <;> simp only [Oper.upon] at h1 ⊢
          case value u => exact fin _ _ (keep a hy u) (h1.1 trivial) (by rw [← Act.put_comm a v u p2]; exact h1.2)
          case skip => exact fin _ _ (keep a hy _) (h1.1 trivial) (by rw [← Act.put_comm a v undef p2]; exact h1.2)
          case defer d =>
            refine fin _ _ (keep _ (keepD d) _) (h1.1 trivial) ?_
            rw [← Act.put_comm _ v undef p2, ← Act.put_defers]
            exact h1.2
          case enter f args =>
            refine Calls.mono h1 fun e w'' he => ?_
            cases e with
            | returned u => exact fin _ _ (keep a hy u) (he.1 trivial) (by rw [← Act.put_comm a v u p2]; exact he.2)
            | panicked c => exact absurd rfl (he.1 c)
            | outgrown => exact he
          case row row args => exact Rows.mono h1 fun u w'' he => fin _ _ (keep a hy u) (he.1 trivial) (by rw [← Act.put_comm a v u p2]; exact he.2)
        | halt x w' =>
          cases x <;> simp only [Oper.upon] at h1 ⊢
          case panic u => exact absurd rfl (h1.1 _)
      · rename_i hw
        simp only [hw] at h1
        exact fin _ _ (keep a hy _) (h1.1 trivial) (by rw [← Act.put_comm a v undef p2]; exact h1.2)

/-- Pieces that only read, an operation that makes memory behind each; a last piece; the tail, in its forced order. -/
def walk (F : Nat → Prop) (P : Program) (ops : Array Oper) (Q : Exit → Act → World → Prop) (tail : List Oper) : List (List Oper × Oper) → List Oper → World → Act → Prop
  | [], last, w, a => wpQuiet P ops (Cls F w) (fun a' => wpList P ops Q tail a' w) last a
  | (S, oc) :: t, last, w, a => wpQuiet P ops (Cls F w) (fun a' => wpList P ops (Exit.then (fun a'' w'' => Ext F w w'' ∧ walk F P ops Q tail t last w'' a'') (fun _ _ _ => False)) [oc] a' w) S a

theorem tail_sound {tl : List Nat} {wb : World} : ∀ (l : List Nat) (listed : Array Bool) (a : Act) (w : World), chkT md ops tl l listed = true → wpList P ops Q (pick ops.toList l) a w →
    anyE F P md ops Q tl wb l.length listed a w
  | [], listed, a, w, hc, h => ⟨by simpa [chkT] using hc, by simpa [pick, wpList] using h⟩
  | i :: l, listed, a, w, hc, h => by
    simp only [chkT, Bool.and_eq_true, beq_iff_eq] at hc
    obtain ⟨⟨hr, ht⟩, hc⟩ := hc
    refine ⟨fun h0 => (by rw [h0] at hr; cases hr), fun j hj => ?_⟩
    rw [hr] at hj
    obtain rfl : j = i := by simpa using hj
    have hmem : j ∈ Region.ready md ops listed := by rw [hr]; simp
    obtain ⟨_, o, ho, _⟩ := mem_ready.1 hmem
    have hn : nth ops.toList j = o := nth_of (by simpa using ho)
    simp only [pick, hn, wpList] at h
    rw [if_pos ht]
    unfold wpOp
    simp only [ho]
    have fin : ∀ a' w', wpList P ops Q (pick ops.toList l) a' w' → (tl.contains j = false → Ext F wb w') ∧ anyE F P md ops Q tl wb l.length (listed.setIfInBounds j true) a' w' :=
      fun a' w' h' => ⟨fun hf => (by rw [ht] at hf; cases hf), tail_sound l _ a' w' hc h'⟩
    split
    · rename_i hw
      rw [if_pos hw] at h
      rcases h with h | h
      · exact .inl (Oper.wp_mono fin h)
      · exact .inr h
    · rename_i hw
      rw [if_neg hw] at h
      exact fin _ _ h

theorem seg_sound {tl : List Nat} {W : Array Nat} {wb : World} (hW : waitsB md ops W = true) (hs : Region.noSelect ops = true) {k : Array Bool → Bool} {n : Nat} {K : Act → Prop}
    (hk : ∀ (listed : Array Bool) (a : Act), Closed md ops listed → k listed = true → K a → anyE F P md ops Q tl wb n listed a wb) :
    ∀ (l : List Nat) (listed : Array Bool) (a : Act), Closed md ops listed → chkS md ops W tl l listed k = true → wpQuiet P ops (Cls F wb) K (pick ops.toList l) a →
      anyE F P md ops Q tl wb (l.length + n) listed a wb
  | [], listed, a, hcl, hc, h => by simpa using hk listed a hcl (by simpa [chkS] using hc) (by simpa [pick, wpQuiet] using h)
  | i :: l, listed, a, hcl, hc, h => by
    simp only [chkS, Bool.and_eq_true] at hc
    obtain ⟨⟨hr, hf⟩, hc⟩ := hc
    have hmem : i ∈ Region.ready md ops listed := by simpa using hr
    obtain ⟨_, o, ho, _⟩ := mem_ready.1 hmem
    have hn : nth ops.toList i = o := nth_of (by simpa using ho)
    simp only [freeW, ho, Bool.and_eq_true, List.all_eq_true, List.mem_range] at hf
    obtain ⟨⟨hnc, htl⟩, hall⟩ := hf
    simp only [pick, hn, wpQuiet] at h
    obtain ⟨v, hy, h'⟩ := yld_of_quiet hnc h
    have := seg_sound hW hs hk l _ _ (hcl.step hmem) hc h'
    rw [List.length_cons, Nat.add_right_comm]
    refine anyE_first hW ho (Region.noSelect_spec hs) _ listed a wb hcl (Ext.refl _) (fun j oj hj hne hun => ?_) hmem hy this
    have h2 := hall j (Array.getElem?_eq_some_iff.1 hj).1
    simp only [hj, Bool.or_eq_true, beq_iff_eq, hne, hun, Bool.false_eq_true, false_or, Bool.and_eq_true, Bool.not_eq_true'] at h2
    exact h2

theorem walk_sound {tl : List Nat} {W : Array Nat} (hW : waitsB md ops W = true) (hs : Region.noSelect ops = true) : ∀ (pl : List (List Nat × Nat)) (last : List Nat) (listed : Array Bool) (a : Act) (w : World),
    Closed md ops listed → chk md ops W tl pl last listed = true → walk F P ops Q (pick ops.toList tl) (pl.map fun x => (pick ops.toList x.1, nth ops.toList x.2)) (pick ops.toList last) w a →
    anyE F P md ops Q tl w (planSize pl last tl) listed a w
  | [], last, listed, a, w, hcl, hc, h => by
    have := seg_sound (P := P) (Q := Q) hW hs (k := chkT md ops tl tl) (n := tl.length) (K := fun a' => wpList P ops Q (pick ops.toList tl) a' w) (wb := w)
      (fun l a' _ hk h' => tail_sound tl l a' w hk h') last listed a hcl (by simpa [chk] using hc) (by simpa [walk] using h)
    simpa [planSize] using this
  | (S, i) :: t, last, listed, a, w, hcl, hc, h => by
    have := seg_sound (P := P) (Q := Q) hW hs (wb := w) (n := planSize t last tl + 1) (tl := tl)
      (k := fun l' => Region.ready md ops l' == [i] && !tl.contains i && chk md ops W tl t last (l'.setIfInBounds i true))
      (K := fun a' => wpList P ops (Exit.then (fun a'' w'' => Ext F w w'' ∧ walk F P ops Q (pick ops.toList tl) (t.map fun x => (pick ops.toList x.1, nth ops.toList x.2)) (pick ops.toList last) w'' a'') (fun _ _ _ => False)) [nth ops.toList i] a' w)
      (fun l a' hcl' hk h' => by
        simp only [Bool.and_eq_true, beq_iff_eq, Bool.not_eq_true'] at hk
        obtain ⟨⟨hr, ht⟩, hc'⟩ := hk
        refine ⟨fun h0 => (by rw [h0] at hr; cases hr), fun j hj => ?_⟩
        rw [hr] at hj
        obtain rfl : j = i := by simpa using hj
        have hmem : j ∈ Region.ready md ops l := by rw [hr]; simp
        obtain ⟨_, o, ho, _⟩ := mem_ready.1 hmem
        have hn : nth ops.toList j = o := nth_of (by simpa using ho)
        rw [ht]
        simp only [Bool.false_eq_true, if_false]
        simp only [hn, wpList, Exit.then] at h'
        have fin : ∀ a'' w'', (Ext F w w'' ∧ walk F P ops Q (pick ops.toList tl) (t.map fun x => (pick ops.toList x.1, nth ops.toList x.2)) (pick ops.toList last) w'' a'') →
            (True → Ext F w w'') ∧ anyE F P md ops Q tl w (planSize t last tl) (l.setIfInBounds j true) a'' w'' := fun a'' w'' hh =>
          ⟨fun _ => hh.1, anyE_base hh.1 _ _ _ _ (walk_sound hW hs t last _ a'' w'' (hcl'.step hmem) hc' hh.2)⟩
        unfold wpOp
        simp only [ho]
        split
        · rename_i hw
          rw [if_pos hw] at h'
          rcases h' with h' | ⟨_, a0, w0, hq⟩
          · refine .inl (wp_monoQ (Q' := Exit.then (fun a'' w'' => Ext F w w'' ∧ walk F P ops Q (pick ops.toList tl) (t.map fun x => (pick ops.toList x.1, nth ops.toList x.2)) (pick ops.toList last) w'' a'') (fun _ _ _ => False)) (fun c a1 w1 hq => hq.elim) (fun a1 w1 hq => hq.elim) (Oper.wp_mono fin h'))
          · exact hq.elim
        · rename_i hw
          rw [if_neg hw] at h'
          exact fin _ _ h') S listed a hcl (by simpa [chk] using hc) (by simpa [walk] using h)
    have e : planSize ((S, i) :: t) last tl = S.length + (planSize t last tl + 1) := by simp [planSize]; omega
    rw [e]
    exact this

theorem region (F : Nat → Prop) {id : Nat} {l : List Oper} {a : Act} {w : World} (pl : List (List Nat × Nat)) (last tl : List Nat) (hm : P.follows .mixedOrders = true)
    (hB : (waitsB .any l.toArray (Region.before l.toArray) && Region.noSelect l.toArray && chk .any l.toArray (Region.before l.toArray) tl pl last (Array.replicate l.length false) && planSize pl last tl == l.length) = true)
    (h : ∀ w', Rg.Ext w w' → walk F P l.toArray Q (pick l tl) (pl.map fun x => (pick l x.1, nth l x.2)) (pick l last) w' a) : (Code.region id l.toArray true).wp P Q a w := by
  simp only [Bool.and_eq_true, beq_iff_eq] at hB
  obtain ⟨⟨⟨hW, hs⟩, hc⟩, hsz⟩ := hB
  refine wp_region_any hm (anyE_any (F := F) (tl := tl) (wb := { w with drawn := w.drawn + 1 }) _ _ _ _ ?_)
  have := walk_sound (F := F) (P := P) (Q := Q) (md := .any) (ops := l.toArray) (tl := tl) hW hs pl last (Array.replicate l.length false) a { w with drawn := w.drawn + 1 } (by
    intro j o _ hl
    exfalso
    simp [Array.getElem?_replicate] at hl
    split at hl <;> simp_all) (by simpa using hc) (by simpa using h _ (Below.drew (Below.refl _ w)))
  rw [hsz] at this
  simpa using this

/-- The first piece and its operation; what follows is held back. -/
theorem walk_at {l : List Oper} {tail last : List Oper} {S : List Nat} {i : Nat} {t : List (List Nat × Nat)} {w : World} {a : Act}
    (h : ∀ K : Act → World → Prop, RowKit.Hid (∀ a' w', walk F P ops Q tail (t.map fun x => (pick l x.1, nth l x.2)) last w' a' → K a' w') →
      wpQuiet P ops (Cls F w) (fun a' => wpList P ops (Exit.then (fun a'' w'' => Ext F w w'' ∧ K a'' w'') (fun _ _ _ => False)) [nth l i] a' w) (pick l S) a) :
    walk F P ops Q tail (((S, i) :: t).map fun x => (pick l x.1, nth l x.2)) last w a :=
  h _ (Lib.hid fun _ _ h => h)
/-- The last piece and the tail. -/
theorem walk_end {l : List Oper} {tail last : List Oper} {w : World} {a : Act}
    (h : wpQuiet P ops (Cls F w) (fun a' => wpList P ops Q tail a' w) last a) :
    walk F P ops Q tail (([] : List (List Nat × Nat)).map fun x => (pick l x.1, nth l x.2)) last w a := h
end
end Rf
end Go.Proofs.Ytpchigdcikknmaa

/- Walks of package word: Int, sum, Add, Sub, Cmp. -/
namespace Go.Proofs.Ytpchigdcikknmaa
open Go.RowKit Rp Rg Ops Mm Ar Wm
namespace Wd
theorem aggW : Agg Try.prog 35 4 := ⟨⟨.array 4 33, by kernel_rfl, rfl⟩, by kernel_rfl⟩

/-- Cell k is set: the rest is as it was. -/
theorem grow_at {α : Type} (V : α → Value) (f : Nat → α) (z : α) (k i : Nat) : V (if i < k + 1 then f i else z) = if i = k then V (f k) else V (if i < k then f i else z) := by
  by_cases h : i = k
  · subst h; simp
  · rw [if_neg h]
    by_cases h2 : i < k
    · rw [if_pos h2, if_pos (Nat.lt_succ_of_lt h2)]
    · rw [if_neg h2, if_neg (by omega)]

theorem word_small (n : Nat) (h0 : n < m64) : wordA n = #[.int .u64 (n : Int), .int .u64 0, .int .u64 0, .int .u64 0] := by
  simp only [wordA, arr, List.range_succ_eq_map, List.range_zero, List.map_cons, List.map_nil, u64V]
  have e0 : limb n 0 = n := by simp [limb, Nat.mod_eq_of_lt h0]
  have e : ∀ k, limb n (k + 1) = 0 := fun k => by
    unfold limb
    rw [Nat.div_eq_of_lt (Nat.lt_of_lt_of_le h0 (by rw [Nat.pow_succ]; exact Nat.le_mul_of_pos_left _ (pow_pos' k)))]
    simp
  simp [e0, e]

theorem IntW (n : Nat) (hn : n < m64) (w : World) : Calls Try.prog 18 #[.int .u64 (n : Int)] w fun e w' => e = .returned (.agg (wordA n)) ∧ Ext w w' := by
  have hz := word_small n hn
  have HZ := Lib.hid hz
  clear hz
  have s1 := (St.start w).alloc (arr 4 fun _ => .int .u64 0) 35
  have s2 := s1.setRow 0 rfl #[.int .u64 (n : Int), .int .u64 0, .int .u64 0, .int .u64 0]
  go_enter Try.func18, Try.ntmps18
  go_wp2_with (refine stAll aggW (vs := #[.int .u64 (n : Int), .int .u64 0, .int .u64 0, .int .u64 0]) rfl _ _ rfl (by rfl) (by rfl) (s1.at 0 rfl) (by rfl) (by rfl) (by simp [Value.oneCell']) ?_)
  go_wp2
  refine bodyPost_ret (v := .agg _) (ret_cell aggW rfl rfl (s2.at 0 rfl) rfl) rfl ⟨by rw [HZ.out], s2.below⟩
def sub64Entry : Array Value → Sem Value := fun args => do
  let (x, y, b) ← Extern.MathBitsCarry.three "Sub64" args
  pure (Extern.MathBitsCarry.pair ((x + Extern.MathBitsCarry.m64 - y - b) % Extern.MathBitsCarry.m64) (if x < y + b then 1 else 0))
theorem run_sub64 {P : Program} (x y c : Nat) (hc : c ≤ 1) (w : World) : (sub64Entry #[.int .u64 x, .int .u64 y, .int .u64 c]).run P w =
    .ok (.tuple #[.int .u64 ((x + m64 - y - c) % m64 : Nat), .int .u64 ((if x < y + c then 1 else 0 : Nat) : Int)]) w := by
  have : c = 0 ∨ c = 1 := by omega
  rcases this with rfl | rfl <;> rfl
end Wd
end Go.Proofs.Ytpchigdcikknmaa

/- Walks of package word: Add, Sub, Cmp. -/
namespace Go.Proofs.Ytpchigdcikknmaa
open Go.RowKit Rp Rg Ops Mm Ar Wm
namespace Wd
theorem cmp_step {x y k : Nat} (h : x / m64 ^ (k + 1) = y / m64 ^ (k + 1)) : (limb x k < limb y k ↔ x / m64 ^ k < y / m64 ^ k) ∧ (x / m64 ^ k = y / m64 ^ k ↔ limb x k = limb y k) := by
  unfold limb
  rw [Nat.pow_succ, ← Nat.div_div_eq_div_mul, ← Nat.div_div_eq_div_mul] at h
  generalize x / m64 ^ k = A at *
  generalize y / m64 ^ k = B at *
  have := Nat.div_add_mod A m64
  have := Nat.div_add_mod B m64
  rw [h] at *
  omega

end Wd
end Go.Proofs.Ytpchigdcikknmaa

/- Words over the lifted state: as lists of four numbers; contracts of package word. -/
namespace Go.Proofs.Ytpchigdcikknmaa
open Go.RowKit Rg Wm Ar
namespace Lf
def limbs (x : Nat) : List Nat := [limb x 0, limb x 1, limb x 2, limb x 3]
abbrev wV (x : Nat) : V := .a ((limbs x).map uK)
theorem limbs_len (x : Nat) : (limbs x).length = 4 := rfl
theorem limbs_get (x : Nat) {k : Nat} (h : k < 4) : (limbs x).getD k default = limb x k := by
  match k, h with
  | 0, _ => rfl
  | 1, _ => rfl
  | 2, _ => rfl
  | 3, _ => rfl
theorem limb_lt64 (x k : Nat) : limb x k < 18446744073709551616 := limb_lt x k
theorem limbs_lt (x k : Nat) : (limbs x).getD k default < 18446744073709551616 := by
  rcases Nat.lt_or_ge k 4 with h | h
  · rw [limbs_get x h]; exact limb_lt64 x k
  · rw [List.getD_eq_getElem?_getD, List.getElem?_eq_none (by rw [limbs_len]; exact h)]; exact Nat.zero_lt_succ _
theorem wordA_list (x : Nat) : wordA x = #[.int .u64 (limb x 0 : Int), .int .u64 (limb x 1 : Int), .int .u64 (limb x 2 : Int), .int .u64 (limb x 3 : Int)] := rfl
theorem exact_word (x : Nat) : Exact (wV x) (.agg (wordA x)) := by
  rw [wordA_list]
  refine ⟨fun w g => .a rfl (fun u hu => ?_) (fun j u y hj hy => ?_), fun w g y h => ?_⟩
  · obtain ⟨a, _, rfl⟩ := List.mem_map.1 hu; rfl
  · match j with
    | 0 => simp [limbs] at hj hy; subst hj; subst hy; exact .k _
    | 1 => simp [limbs] at hj hy; subst hj; subst hy; exact .k _
    | 2 => simp [limbs] at hj hy; subst hj; subst hy; exact .k _
    | 3 => simp [limbs] at hj hy; subst hj; subst hy; exact .k _
    | j + 4 => simp [limbs] at hj
  · cases h with
    | @a _ _ vs hl h1 hc =>
      have hs : vs.size = 4 := by simpa [limbs] using hl.symm
      congr 1
      apply Array.ext
      · simpa using hs
      · intro i h1 h2
        have hv : vs[i]? = some vs[i] := Array.getElem?_eq_getElem h1
        match i with
        | 0 => exact rep_k (hc 0 _ _ rfl hv)
        | 1 => exact rep_k (hc 1 _ _ rfl hv)
        | 2 => exact rep_k (hc 2 _ _ rfl hv)
        | 3 => exact rep_k (hc 3 _ _ rfl hv)
        | i + 4 => omega
theorem limbs_eq {x y : Nat} (h : x % M256 = y % M256) : limbs x = limbs y := by
  have := wordA_eq h
  rw [wordA_list, wordA_list] at this
  simp only [Array.mk.injEq, List.cons.injEq, Value.int.injEq, true_and, and_true] at this
  obtain ⟨h1, h2, h3, h4⟩ := this
  simp only [limbs, List.cons.injEq, and_true]
  exact ⟨by omega, by omega, by omega, by omega⟩
theorem limbs_inj {x y : Nat} (h : limbs x = limbs y) : x % M256 = y % M256 := by
  refine wordA_inj ?_
  simp only [limbs, List.cons.injEq, and_true] at h
  obtain ⟨h1, h2, h3, h4⟩ := h
  rw [wordA_list, wordA_list, h1, h2, h3, h4]
theorem limbs_iff {x y : Nat} : limbs x = limbs y ↔ x % M256 = y % M256 := ⟨limbs_inj, limbs_eq⟩
theorem limbs_small {n : Nat} (h : n < m64) : limbs n = [n, 0, 0, 0] := by
  have h0 : limb n 0 = n := by unfold limb; rw [Nat.pow_zero, Nat.div_one, Nat.mod_eq_of_lt h]
  have hi : ∀ i, 1 ≤ i → limb n i = 0 := fun i hi => by
    have : m64 ≤ m64 ^ i := by
      have := Nat.pow_le_pow_right (show 0 < m64 from m64_pos) hi
      rwa [Nat.pow_one] at this
    unfold limb; rw [Nat.div_eq_of_lt (by omega), Nat.zero_mod]
  unfold limbs
  rw [h0, hi 1 (by decide), hi 2 (by decide), hi 3 (by decide)]
/-- The number of four parts. -/
def numOf (l : List Nat) : Nat := val (fun k => l.getD k 0) 4
theorem limbs_num {l : List Nat} (h : l.length = 4) (hl : ∀ a ∈ l, a < m64) : limbs (numOf l) = l := by
  match l, h with
  | [a, b, c, d], _ =>
    have hk : ∀ k, k < 4 → (fun k => [a, b, c, d].getD k 0) k < m64 := fun k hk => by
      match k, hk with
      | 0, _ => exact hl a (by simp)
      | 1, _ => exact hl b (by simp)
      | 2, _ => exact hl c (by simp)
      | 3, _ => exact hl d (by simp)
    unfold limbs numOf
    rw [limb_val hk (by decide : 0 < 4), limb_val hk (by decide : 1 < 4), limb_val hk (by decide : 2 < 4), limb_val hk (by decide : 3 < 4)]
    rfl
theorem numOf_lt {l : List Nat} (h : l.length = 4) (hl : ∀ a ∈ l, a < m64) : numOf l < M256 := by
  match l, h with
  | [a, b, c, d], _ =>
    refine val_lt fun k hk => ?_
    match k, hk with
    | 0, _ => exact hl a (by simp)
    | 1, _ => exact hl b (by simp)
    | 2, _ => exact hl c (by simp)
    | 3, _ => exact hl d (by simp)
/-! ### Bytes -/
def beB (x : Nat) : Nat → List UInt8
  | 0 => []
  | n + 1 => UInt8.ofNat (x / 256 ^ n % 256) :: beB x n
theorem beB_len (x n : Nat) : (beB x n).length = n := by induction n <;> simp [beB, *]
theorem beB_num (x : Nat) : ∀ n, Ps.beN (beB x n) = x % 256 ^ n
  | 0 => by simp [beB, Ps.beN, Ps.nat8, Ps.pos, Nat.mod_one]
  | n + 1 => by
    have ih := beB_num x n
    have e : Ps.beN (beB x (n + 1)) = x / 256 ^ n % 256 * 256 ^ n + Ps.beN (beB x n) := by
      simp only [beB, Ps.beN, Ps.nat8, List.map_cons, Ps.pos, List.length_map, beB_len, UInt8.toNat_ofNat']
      simp
    rw [e, ih, Nat.pow_succ, Nat.mod_mul, Nat.mul_comm]
    omega
theorem m256_bytes : M256 = 256 ^ 32 := by unfold M256 m64; decide
def wordB (x : Nat) : List UInt8 := beB x 32
theorem wordB_len (x : Nat) : (wordB x).length = 32 := beB_len x 32
theorem wordB_num (x : Nat) : Ps.beN (wordB x) = x % M256 := by rw [m256_bytes]; exact beB_num x 32
def bytesR (x i : Nat) : List UInt8 := (List.range 32).map fun j => if j < i then UInt8.ofNat (x / 256 ^ (31 - j) % 256) else 0
theorem bytesR_len (x i : Nat) : (bytesR x i).length = 32 := by simp [bytesR]
theorem bytesR_full (x : Nat) : bytesR x 32 = wordB x := by
  have e : ∀ n, beB x n = (List.range n).map fun j => UInt8.ofNat (x / 256 ^ (n - 1 - j) % 256) := by
    intro n
    induction n with
    | zero => rfl
    | succ n ih =>
      rw [beB, ih, List.range_succ_eq_map, List.map_cons, List.map_map]
      congr 1
      refine List.map_congr_left fun j hj => ?_
      have := List.mem_range.1 hj
      simp only [Function.comp]
      rw [show n + 1 - 1 - (j + 1) = n - 1 - j by omega]
  unfold wordB bytesR
  rw [e]
  refine List.map_congr_left fun j hj => ?_
  rw [if_pos (List.mem_range.1 hj)]
theorem bytesR_set (x i : Nat) (hi : i < 32) {b : Nat} (hb : b % 256 = x / 256 ^ (31 - i) % 256) : (bytesR x i).set i (UInt8.ofNat b) = bytesR x (i + 1) := by
  apply List.ext_getElem
  · simp [bytesR]
  · intro j h1 h2
    rw [List.getElem_set]
    simp only [bytesR, List.getElem_map, List.getElem_range]
    by_cases h : i = j
    · subst h
      rw [if_pos rfl, if_pos (by omega)]
      apply UInt8.toNat_inj.1
      rw [UInt8.toNat_ofNat', UInt8.toNat_ofNat']
      omega
    · rw [if_neg h]
      by_cases h3 : j < i
      · rw [if_pos h3, if_pos (by omega)]
      · rw [if_neg h3, if_neg (by omega)]
theorem limb_byte (x k r : Nat) (hr : r < 8) : limb x k / 2 ^ (r * 8) % 256 = x / 256 ^ (8 * k + r) % 256 := by
  unfold limb
  have e1 : (256 : Nat) ^ (8 * k + r) = m64 ^ k * 2 ^ (r * 8) := by
    rw [Nat.pow_add, Nat.pow_mul]
    have h1 : (256 : Nat) ^ 8 = m64 := by unfold m64; decide
    have h2 : (256 : Nat) ^ r = 2 ^ (r * 8) := by rw [Nat.mul_comm, Nat.pow_mul]
    rw [h1, h2]
  rw [e1, ← Nat.div_div_eq_div_mul]
  generalize x / m64 ^ k = y
  have h3 : m64 = 2 ^ (r * 8) * 2 ^ ((8 - r) * 8) := by rw [← Nat.pow_add, show r * 8 + (8 - r) * 8 = 64 from by omega]; unfold m64; decide
  have h4 : (256 : Nat) ∣ 2 ^ ((8 - r) * 8) := by
    refine ⟨2 ^ ((8 - r) * 8 - 8), ?_⟩
    have : (8 - r) * 8 = 8 + ((8 - r) * 8 - 8) := by omega
    rw [this, Nat.pow_add]; simp
  rw [h3, Nat.mod_mul_right_div_self]
  exact Nat.mod_mod_of_dvd _ h4
theorem pow256 (i : Nat) : (256 : Nat) ^ i = m64 ^ (i / 8) * 2 ^ (i % 8 * 8) := by
  have h1 : (256 : Nat) ^ 8 = m64 := by unfold m64; decide
  have h2 : (256 : Nat) ^ (i % 8) = 2 ^ (i % 8 * 8) := by rw [Nat.mul_comm, Nat.pow_mul]
  rw [← h1, ← h2, ← Nat.pow_mul, ← Nat.pow_add, Nat.div_add_mod]
theorem limb_set {V b i : Nat} (hV : V < 256 ^ i) (hb : b < 256) (k : Nat) : limb (V + b * 256 ^ i) k = if k = i / 8 then limb V k ||| (b * 2 ^ (i % 8 * 8) % 2 ^ 64) else limb V k := by
  have hp := pow256 i
  have hm : 2 ^ 64 = m64 := by unfold m64; decide
  have hr : i % 8 < 8 := Nat.mod_lt _ (by decide)
  have h64 : m64 = 2 ^ (i % 8 * 8) * 2 ^ (64 - i % 8 * 8) := by rw [← Nat.pow_add, ← hm, show i % 8 * 8 + (64 - i % 8 * 8) = 64 from by omega]
  have hpos : ∀ j, 0 < m64 ^ j := fun j => pow_pos' j
  have hle : b * 2 ^ (i % 8 * 8) + 2 ^ (i % 8 * 8) ≤ m64 := by
    have h1 : (2 : Nat) ^ 8 ≤ 2 ^ (64 - i % 8 * 8) := Nat.pow_le_pow_right (by decide) (by omega)
    have h2 : (b + 1) * 2 ^ (i % 8 * 8) ≤ 2 ^ (64 - i % 8 * 8) * 2 ^ (i % 8 * 8) := Nat.mul_le_mul_right _ (by omega)
    rw [Nat.mul_comm (2 ^ (64 - i % 8 * 8)), ← h64, Nat.add_mul, Nat.one_mul] at h2
    exact h2
  have hs0 : 0 < 2 ^ (i % 8 * 8) := Nat.two_pow_pos _
  rcases Nat.lt_trichotomy k (i / 8) with h | h | h
  · rw [if_neg (by omega)]
    obtain ⟨j, hj⟩ : ∃ j, i / 8 = k + 1 + j := ⟨i / 8 - k - 1, by omega⟩
    unfold limb
    rw [hp, hj, show b * (m64 ^ (k + 1 + j) * 2 ^ (i % 8 * 8)) = m64 ^ k * (m64 * (m64 ^ j * (b * 2 ^ (i % 8 * 8)))) from by rw [Nat.pow_add, Nat.pow_add, Nat.pow_one]; ac_rfl, Nat.add_mul_div_left _ _ (hpos k), Nat.add_mul_mod_self_left]
  · rw [if_pos h]
    subst h
    have hlt : V / m64 ^ (i / 8) < 2 ^ (i % 8 * 8) := Nat.div_lt_of_lt_mul (by rw [← hp]; exact hV)
    unfold limb
    rw [hp, show b * (m64 ^ (i / 8) * 2 ^ (i % 8 * 8)) = m64 ^ (i / 8) * (b * 2 ^ (i % 8 * 8)) from by ac_rfl, Nat.add_mul_div_left _ _ (hpos _)]
    rw [Nat.mod_eq_of_lt (show V / m64 ^ (i / 8) < m64 by omega), hm, Nat.mod_eq_of_lt (show b * 2 ^ (i % 8 * 8) < m64 by omega), Nat.mod_eq_of_lt (by omega)]
    rw [Nat.or_comm, Nat.mul_comm b, ← Nat.two_pow_add_eq_or_of_lt hlt, Nat.add_comm]
  · rw [if_neg (by omega)]
    have h1 : (256 : Nat) ^ (i + 1) ≤ m64 ^ k := by
      have : (256 : Nat) ^ (i + 1) ≤ 256 ^ (8 * k) := Nat.pow_le_pow_right (by decide) (by omega)
      rw [Nat.pow_mul] at this
      have e : (256 : Nat) ^ 8 = m64 := by unfold m64; decide
      rwa [e] at this
    have h2 : V + b * 256 ^ i < 256 ^ (i + 1) := by
      have h2 := Nat.mul_le_mul_right (256 ^ i) (Nat.succ_le_of_lt hb)
      rw [Nat.pow_succ, Nat.mul_comm (256 ^ i)]
      rw [Nat.succ_mul] at h2
      omega
    unfold limb
    rw [Nat.div_eq_of_lt (by omega), Nat.div_eq_of_lt (by omega)]
/-- The number of the last i bytes. -/
def tailN (l : List UInt8) (i : Nat) : Nat := Ps.beN (l.drop (l.length - i))
theorem tailN_zero (l : List UInt8) : tailN l 0 = 0 := by unfold tailN; rw [Nat.sub_zero, List.drop_length]; rfl
theorem tailN_all (l : List UInt8) : tailN l l.length = Ps.beN l := by unfold tailN; rw [Nat.sub_self, List.drop_zero]
theorem tailN_lt (l : List UInt8) {i : Nat} (h : i ≤ l.length) : tailN l i < 256 ^ i := by
  have := Ps.beN_lt (l.drop (l.length - i))
  rwa [List.length_drop, show l.length - (l.length - i) = i by omega] at this
theorem tailN_succ (l : List UInt8) {i : Nat} (h : i < l.length) : tailN l (i + 1) = tailN l i + (l.getD (l.length - 1 - i) default).toNat * 256 ^ i := by
  unfold tailN
  rw [show l.length - (i + 1) = l.length - 1 - i by omega, List.drop_eq_getElem_cons (by omega)]
  have e : l.length - 1 - i + 1 = l.length - i := by omega
  rw [e]
  have e2 : ∀ (a : UInt8) (r : List UInt8), Ps.beN (a :: r) = a.toNat * 256 ^ r.length + Ps.beN r := fun a r => by simp [Ps.beN, Ps.nat8, Ps.pos]
  rw [e2, List.length_drop, show l.length - (l.length - i) = i by omega, Nat.add_comm]
  simp [List.getD_eq_getElem?_getD, List.getElem?_eq_getElem (show l.length - 1 - i < l.length by omega)]
attribute [irreducible] bytesR limbs tailN wordB
end Lf
end Go.Proofs.Ytpchigdcikknmaa

/- Contracts of package word, lifted. -/
namespace Go.Proofs.Ytpchigdcikknmaa
open Go.RowKit Rg Wm Ar
set_option linter.unusedVariables false
set_option maxRecDepth 100000
namespace Lf
namespace Wo
theorem IntW (n : Nat) (h : n < m64) : LF Try.prog 18 [uK n] (fun _ => wV n) none := .of_calls (by kernel_rfl) rfl (ex1 (exact_k _)) (exact_word _) fun w => Wd.IntW n h w
end Wo
theorem byte_at (x : Nat) {i : Nat} (h : i < 32) : (limbs x).getD ((31 - i) / 8) default / 2 ^ ((31 - i) % 8 * 8) % 256 = x / 256 ^ (31 - i) % 256 := by
  rw [limbs_get x (by omega), limb_byte _ _ _ (Nat.mod_lt _ (by decide))]
  congr 3
  omega
theorem set_more {i n V b : Nat} (_h : i < n) (hn : i < 32) (hV : V < 256 ^ i) (hb : b < 256) : (limbs V).set (i / 8) ((limbs V).getD (i / 8) default ||| b * 2 ^ (i % 8 * 8) % 2 ^ 64) = limbs (V + b * 256 ^ i) := by
  rw [limbs_get V (by omega)]
  have h : ∀ k, limb (V + b * 256 ^ i) k = _ := limb_set hV hb
  have hq : i / 8 = 0 ∨ i / 8 = 1 ∨ i / 8 = 2 ∨ i / 8 = 3 := by omega
  unfold limbs
  simp only [h]
  rcases hq with e | e | e | e <;> rw [e] <;> rfl
namespace Wo
set_option maxHeartbeats 1000000 in
theorem Bytes (x : Nat) : LF Try.prog 32 [wV x] (fun _ => .a ((wordB x).map bK)) none := by
  have hl := limbs_len x
  refine LFx.mk' tt Try.func32 rfl rfl rfl (by kernel_rfl) rfl rfl fun F => ?_
  refine wk ?_ trueW trueW
  refine LC.loop2 (fun i L => [(1, .p 1 0), (2, .p 2 0), (3, .p 3 0), (6, .k (.int .i64 ((i : Nat) : Int)))]) (fun i L => [(1, .b ((limbs x).map uK)), (2, .b ((List.replicate 32 0).map bK)), (3, .b (L.map bK))]) (fun i L => i ≤ 32 ∧ L = bytesR x i) ((32 - ·)) (0) ((List.replicate 32 0)) ⟨by omega, by unfold bytesR; rfl⟩ ⟨rfl, rfl, rfl, rfl, trivial⟩ ⟨rfl, rfl, rfl, trivial⟩ rfl rfW rfW ?_
  rintro i L ⟨hi, hL⟩
  have hb := bytesR_len x i
  rw [← hL] at hb
  rcases Nat.lt_or_ge i 32 with h | h
  · have hok : i + 1 ≤ 32 ∧ L.set i (UInt8.ofNat ((limbs x).getD ((31 - i) / 8) default / 2 ^ ((31 - i) % 8 * 8))) = bytesR x (i + 1) := ⟨h, by rw [hL]; exact bytesR_set x i h (byte_at x h)⟩
    clear hL
    exact wk trueW trueW trueW
  · obtain rfl : i = 32 := by omega
    have hv1 : V.a (L.map bK) = V.a ((wordB x).map bK) := by rw [hL, bytesR_full]
    clear hL
    exact wk trueW trueW trueW
end Wo
end Lf
end Go.Proofs.Ytpchigdcikknmaa

/- The sponge's arithmetic, no program in sight. -/
namespace Go.Proofs.Ytpchigdcikknmaa
namespace Lf
def rotl (x : UInt64) (k : Nat) : UInt64 := UInt64.ofNat ((x.toNat * 2 ^ k % 2 ^ 64) ||| (x.toNat / 2 ^ (64 - k)))
theorem rotl_toNat (x : UInt64) (k : Nat) : (rotl x k).toNat = ((x.toNat * 2 ^ k % 2 ^ 64) ||| (x.toNat / 2 ^ (64 - k))) := by
  unfold rotl
  rw [UInt64.toNat_ofNat']
  exact Nat.mod_eq_of_lt (Nat.or_lt_two_pow (Nat.mod_lt _ (Nat.two_pow_pos 64)) (Nat.lt_of_le_of_lt (Nat.div_le_self _ _) x.toNat_lt))
def qmix (s : List UInt64) (i : Nat) : UInt64 := rotl (s.getD ((i + 1) % 8) default ^^^ s.getD ((i + 5) % 8) default) (5 * i + 3)
def qstep (s : List UInt64) (i : Nat) : List UInt64 := s.set i (s.getD i default + qmix s i)
def kr (r : Nat) : UInt64 := UInt64.ofNat ((r + 1) * 11400714819323198485 % 2 ^ 64)
def qkey (s : List UInt64) (r : Nat) : List UInt64 := s.set 0 (s.getD 0 default ^^^ kr r)
def qround (s : List UInt64) (r : Nat) : List UInt64 := iter qstep (qkey s r) 8
def mixQ (s : List UInt64) : List UInt64 := iter qround s 12
def ustep (s : List UInt64) (k : Nat) : List UInt64 := s.set (7 - k) (s.getD (7 - k) default - qmix s (7 - k))
def uround (s : List UInt64) (k : Nat) : List UInt64 := qkey (iter ustep s 8) (11 - k)
def unmixQ (s : List UInt64) : List UInt64 := iter uround s 12
theorem qstep_len (s : List UInt64) (i : Nat) : (qstep s i).length = s.length := by simp [qstep]
theorem ustep_len (s : List UInt64) (i : Nat) : (ustep s i).length = s.length := by simp [ustep]
theorem qkey_len (s : List UInt64) (i : Nat) : (qkey s i).length = s.length := by simp [qkey]
theorem iter_len {f : List UInt64 → Nat → List UInt64} (hf : ∀ s i, (f s i).length = s.length) (s : List UInt64) (n : Nat) : (iter f s n).length = s.length := iter_inv (p := fun t => t.length = s.length) (fun t i h => (hf t i).trans h) rfl n
theorem qround_len (s : List UInt64) (i : Nat) : (qround s i).length = s.length := (iter_len qstep_len _ 8).trans (qkey_len s i)
theorem uround_len (s : List UInt64) (i : Nat) : (uround s i).length = s.length := (qkey_len _ _).trans (iter_len ustep_len _ 8)
theorem mixQ_len (s : List UInt64) : (mixQ s).length = s.length := iter_len qround_len s 12
theorem unmixQ_len (s : List UInt64) : (unmixQ s).length = s.length := iter_len uround_len s 12
/-! Back and forth -/
theorem qmix_set {s : List UInt64} {i : Nat} (x : UInt64) (h : i < 8) : qmix (s.set i x) i = qmix s i := by
  have h1 : i ≠ (i + 1) % 8 := by omega
  have h2 : i ≠ (i + 5) % 8 := by omega
  simp only [qmix, List.getD_eq_getElem?_getD, List.getElem?_set_ne h1, List.getElem?_set_ne h2]
theorem set_get {s : List UInt64} {i : Nat} : s.set i (s.getD i default) = s := by
  apply List.ext_getElem?
  intro j
  rw [List.getElem?_set]
  split
  · rename_i h; subst h
    split
    · rename_i h; simp [h]
    · rename_i h; simp at h; simp [h]
  · rfl
theorem getD_set {s : List UInt64} {i : Nat} {x : UInt64} (h : i < s.length) : (s.set i x).getD i default = x := by
  simp [List.getD_eq_getElem?_getD, h]
theorem ustep_qstep {s : List UInt64} (hs : s.length = 8) {k : Nat} (hk : k < 8) : ustep (qstep s (7 - k)) k = s := by
  unfold ustep
  rw [show qstep s (7 - k) = s.set (7 - k) (s.getD (7 - k) default + qmix s (7 - k)) from rfl, qmix_set _ (by omega), getD_set (by omega), List.set_set, UInt64.add_sub_cancel, set_get]
theorem qstep_ustep {s : List UInt64} (hs : s.length = 8) {k : Nat} (hk : k < 8) : qstep (ustep s k) (7 - k) = s := by
  unfold qstep
  rw [show ustep s k = s.set (7 - k) (s.getD (7 - k) default - qmix s (7 - k)) from rfl, qmix_set _ (by omega), getD_set (by omega), List.set_set, UInt64.sub_add_cancel, set_get]
theorem qkey_qkey {s : List UInt64} (hs : s.length = 8) (r : Nat) : qkey (qkey s r) r = s := by
  unfold qkey
  rw [getD_set (by omega), List.set_set, UInt64.xor_assoc, UInt64.xor_self, UInt64.xor_zero, set_get]
/-- What is undone step by step is as it was. -/
theorem iter_undo {σ : Type} {f g : σ → Nat → σ} {p : σ → Prop} (hf : ∀ s i, p s → p (f s i)) (n : Nat) (h : ∀ s k, p s → k < n → g (f s (n - 1 - k)) k = s) {s : σ} (hs : p s) : ∀ k, k ≤ n → iter g (iter f s n) k = iter f s (n - k)
  | 0, _ => rfl
  | k + 1, hk => by
    rw [iter, iter_undo hf n h hs k (by omega), show n - k = (n - 1 - k) + 1 from by omega, iter, h _ k (iter_inv hf hs _) (by omega)]
    congr 1; omega
theorem uround_qround {s : List UInt64} (hs : s.length = 8) {k : Nat} (hk : k < 12) : uround (qround s (11 - k)) k = s := by
  unfold uround qround
  have := iter_undo (f := qstep) (g := ustep) (p := fun t => t.length = 8) (fun t i h => (qstep_len t i).trans h) 8 (fun t k ht hk => ustep_qstep ht hk) (s := qkey s (11 - k)) ((qkey_len _ _).trans hs) 8 (Nat.le_refl _)
  rw [this]
  exact qkey_qkey hs _
theorem iter_redo {σ : Type} {f g : σ → Nat → σ} {p : σ → Prop} (hg : ∀ s i, p s → p (g s i)) (n : Nat) (h : ∀ s k, p s → k < n → f (g s k) (n - 1 - k) = s) {s : σ} (hs : p s) : ∀ k, k ≤ n → iter f (iter g s n) k = iter g s (n - k) := by
  refine iter_undo hg n (fun t k ht hk => ?_) hs
  have := h t (n - 1 - k) ht (by omega)
  rwa [show n - 1 - (n - 1 - k) = k from by omega] at this
theorem qround_uround {s : List UInt64} (hs : s.length = 8) {k : Nat} (hk : k < 12) : qround (uround s k) (11 - k) = s := by
  unfold uround qround
  have hl : (iter ustep s 8).length = 8 := (iter_len ustep_len _ _).trans hs
  rw [qkey_qkey hl]
  exact iter_redo (f := qstep) (g := ustep) (p := fun t => t.length = 8) (fun t i h => (ustep_len t i).trans h) 8 (fun t k ht hk => qstep_ustep ht hk) hs 8 (Nat.le_refl _)
theorem unmix_mix {s : List UInt64} (hs : s.length = 8) : unmixQ (mixQ s) = s :=
  iter_undo (f := qround) (g := uround) (p := fun t => t.length = 8) (fun t i h => (qround_len t i).trans h) 12 (fun t k ht hk => uround_qround ht hk) hs 12 (Nat.le_refl _)
theorem mix_unmix {s : List UInt64} (hs : s.length = 8) : mixQ (unmixQ s) = s :=
  iter_redo (f := qround) (g := uround) (p := fun t => t.length = 8) (fun t i h => (uround_len t i).trans h) 12 (fun t k ht hk => qround_uround ht hk) hs 12 (Nat.le_refl _)
theorem mixQ_eq (s : List UInt64) : mixQ s = iter qround s 12 := rfl
theorem unmixQ_eq (s : List UInt64) : unmixQ s = iter uround s 12 := rfl
attribute [irreducible] mixQ unmixQ rotl
end Lf
end Go.Proofs.Ytpchigdcikknmaa

/- The sponge: walks of Mix, Unmix, read, write8. -/
namespace Go.Proofs.Ytpchigdcikknmaa
open Go.RowKit Rg
set_option linter.unusedVariables false
set_option maxRecDepth 100000
namespace Lf
namespace Sp
theorem Rotl (x : UInt64) (k : Nat) (h : k < 64) : LF Try.prog 53 [qK x, .k (.int .i64 (k : Int))] (fun _ => qK (rotl x k)) none := by
  have h1 : IntKind.u64.wrap ((k : Nat) : Int) = ((k : Nat) : Int) := wrap_u64 (by omega)
  have h2 : IntKind.u64.wrap (((BitVec.ofInt IntKind.u64.bits (k : Int) &&& BitVec.ofInt IntKind.u64.bits (63 : Int)).toNat : Nat) : Int) = ((k : Nat) : Int) := by
    have := and_u64 (a := k) (b := 63) (by omega) (by decide)
    rw [show (k &&& 63) = k from by rw [show (63 : Nat) = 2 ^ 6 - 1 from rfl, Nat.and_two_pow_sub_one_eq_mod]; exact Nat.mod_eq_of_lt h] at this
    exact this
  have h3 := x.toNat_lt
  have h4 : x.toNat * 2 ^ k % 2 ^ 64 < 18446744073709551616 := Nat.mod_lt _ (by decide)
  have h5 : x.toNat / 2 ^ (64 - k) < 18446744073709551616 := Nat.lt_of_le_of_lt (Nat.div_le_self _ _) h3
  unfold qK
  rw [rotl_toNat]
  refine LFx.mk' tt Try.func53 rfl rfl rfl (by kernel_rfl) rfl rfl fun F => ?_
  exact wk trueW trueW trueW
set_option maxHeartbeats 1000000 in
theorem Mix (s : List UInt64) (hs : s.length = 8) : LF Try.prog 52 [.a (s.map qK)] (fun _ => .a ((mixQ s).map qK)) none := by
  have c1 := Rotl
  refine LFx.mk' tt Try.func52 rfl rfl rfl (by kernel_rfl) rfl rfl fun F => ?_
  refine wk ?_ trueW trueW
  refine LC.loop2 (fun r S => [(1, .p 1 0), (2, .p 2 0), (5, .k (.int .i64 (r : Int)))]) (fun r S => [(1, .b (S.map qK)), (2, .b (List.replicate 8 (.k (.int .u64 0))))]) (fun r S => r ≤ 12 ∧ S = iter qround s r) (12 - ·) 0 s ⟨by omega, rfl⟩ ⟨rfl, rfl, rfl, trivial⟩ ⟨rfl, rfl, trivial⟩ rfl rfl (by first | exact rfl | (simp only [V.cells, refsE, refsM, V.refs, V.refs.go, refs_mapq, refs_mapb, refs_append, Bool.and_true, Bool.true_and, Bool.and_self, keysOk]; done) | (simp only [V.cells, refsE, refsM, V.refs, V.refs.go, refs_mapq, refs_mapb, refs_append, Bool.and_true, Bool.true_and, Bool.and_self]; exact rfl)) fun r S ⟨hr, hS⟩ => ?_
  have hl : S.length = 8 := hS ▸ (iter_len qround_len s r).trans hs
  rcases Nat.lt_or_ge r 12 with h | h
  · refine wk ?_ trueW trueW
    refine LC.loop2 (fun i S => [(1, .p 1 0), (2, .p 2 0), (5, .k (.int .i64 (r : Int))), (16, .k (.int .i64 (i : Int)))]) (fun i S => [(1, .b (S.map qK)), (2, .b (List.replicate 8 (.k (.int .u64 0))))]) (fun i S2 => i ≤ 8 ∧ S2 = iter qstep (qkey S r) i) (8 - ·) 0 (qkey S r) ⟨by omega, rfl⟩ ⟨rfl, rfl, rfl, rfl, trivial⟩ ⟨rfl, rfl, trivial⟩ rfl rfl (by first | exact rfl | (simp only [V.cells, refsE, refsM, V.refs, V.refs.go, refs_mapq, refs_mapb, refs_append, Bool.and_true, Bool.true_and, Bool.and_self, keysOk]; done) | (simp only [V.cells, refsE, refsM, V.refs, V.refs.go, refs_mapq, refs_mapb, refs_append, Bool.and_true, Bool.true_and, Bool.and_self]; exact rfl)) fun i S2 ⟨hi, hS2⟩ => ?_
    have hl2 : S2.length = 8 := hS2 ▸ (iter_len qstep_len _ i).trans ((qkey_len _ _).trans hl)
    rcases Nat.lt_or_ge i 8 with h2 | h2
    · have hok : i + 1 ≤ 8 ∧ qstep S2 i = iter qstep (qkey S r) (i + 1) := ⟨by omega, by rw [iter, ← hS2]⟩
      exact wk trueW trueW trueW
    · obtain rfl : i = 8 := by omega
      have hok : r + 1 ≤ 12 ∧ S2 = iter qround s (r + 1) := ⟨by omega, by rw [iter, ← hS]; exact hS2⟩
      exact wk trueW trueW trueW
  · obtain rfl : r = 12 := by omega
    have hv : V.a (S.map qK) = V.a ((mixQ s).map qK) := congrArg (fun z => V.a (List.map qK z)) (hS.trans (mixQ_eq s).symm)
    exact wk trueW trueW trueW
end Sp
end Lf
end Go.Proofs.Ytpchigdcikknmaa

/- The sponge: read, write8, the hasher. -/
namespace Go.Proofs.Ytpchigdcikknmaa
open Go.RowKit Rg
set_option linter.unusedVariables false
set_option maxRecDepth 100000
namespace Lf
/-! ### What they come to -/
def readStep (l : List UInt8) (x : UInt64) (i : Nat) : UInt64 := x ||| UInt64.ofNat ((l.getD i default).toNat * 2 ^ (8 * i) % 2 ^ 64)
def readQ (l : List UInt8) : UInt64 := iter (readStep l) 0 8
def wr8 (x : UInt64) (off : Nat) (L : List UInt8) (i : Nat) : List UInt8 := L.set (off + i) (UInt8.ofNat (x.toNat / 2 ^ (8 * i)))
structure Hs where
  st : List UInt64
  pt : List UInt8
  n : Nat
structure Hs.ok (h : Hs) : Prop where
  st : h.st.length = 8
  pt : h.pt.length = 32
  n : h.n < 32
def Hs.cells (h : Hs) : List V := h.st.map qK ++ (h.pt.map bK ++ [.k (.int .i64 ((h.n : Nat) : Int))])
def xorIn (P : List UInt8) (S : List UInt64) (j : Nat) : List UInt64 := S.set j (S.getD j default ^^^ readQ ((P.drop (8 * j)).take (32 - 8 * j)))
def takeH (h : Hs) (x : UInt8) : Hs :=
  if h.n + 1 < 32 then ⟨h.st, h.pt.set h.n x, h.n + 1⟩ else ⟨mixQ (iter (xorIn (h.pt.set h.n x)) h.st 4), h.pt.set h.n x, 0⟩
theorem xorIn_len (P : List UInt8) (S : List UInt64) (j : Nat) : (xorIn P S j).length = S.length := by simp [xorIn]
theorem takeH_ok {h : Hs} (k : h.ok) (x : UInt8) : (takeH h x).ok := by
  unfold takeH
  split
  · exact ⟨k.st, by simp [k.pt], by assumption⟩
  · exact ⟨by rw [mixQ_len, iter_len (xorIn_len _)]; exact k.st, by simp [k.pt], Nat.zero_lt_succ _⟩
theorem readQ_eq (l : List UInt8) : readQ l = iter (readStep l) 0 8 := rfl
attribute [irreducible] readQ takeH
theorem refs_cells (m : Mem) (h : Hs) : V.refs.go m h.cells = true := by
  simp only [Hs.cells, refs_append, refs_mapq, refs_mapb]; rfl
namespace Sp
set_option maxHeartbeats 1000000 in
theorem read (l : List UInt8) (hl : 8 ≤ l.length) : LF Try.prog 51 [.s none (l.map bK)] (fun _ => qK (readQ l)) none := by
  refine LFx.mk' tt Try.func51 rfl rfl rfl (by kernel_rfl) rfl rfl fun F => ?_
  refine wk ?_ trueW trueW
  refine LC.loop2 (fun i x => [(0, .s none (l.map bK)), (3, qK x), (5, .k (.int .i64 ((i : Nat) : Int)))]) (fun i x => []) (fun i x => i ≤ 8 ∧ x = iter (readStep l) 0 i) ((8 - ·)) (0) (0) ⟨by omega, rfl⟩ ⟨rfl, rfl, rfl, trivial⟩ trivial rfl rfW rfW ?_
  rintro i x ⟨hi, hx⟩
  rcases Nat.lt_or_ge i 8 with h | h
  · have hok : i + 1 ≤ 8 ∧ readStep l x i = iter (readStep l) 0 (i + 1) := ⟨by omega, by rw [iter, ← hx]⟩
    have hb := (l.getD i default).toNat_lt
    exact wk trueW trueW trueW
  · obtain rfl : i = 8 := by omega
    have hv : qK x = qK (readQ l) := congrArg qK (hx.trans (readQ_eq l).symm)
    exact wk trueW trueW trueW
set_option maxHeartbeats 1000000 in
theorem take1 (h : Hs) (k : h.ok) (x : UInt8) : LM Try.prog 49 [.p 1000 0, bK x] [(1000, .b h.cells)] fun o m => o = .ret (.t []) ∧ m = [(1000, .b (takeH h x).cells)] := by
  have c1 := read
  obtain ⟨S, P, n⟩ := h
  obtain ⟨h1, h2, h3⟩ := k
  simp only at h1 h2 h3
  generalize hT : takeH ⟨S, P, n⟩ x = T
  simp only [Hs.cells]
  refine LM.enter tt Try.func49 rfl rfl rfl (by kernel_rfl) rfl rfl rfl (fun o mo h => by rw [h.2]; rfl) fun F _ => ?_
  rcases Nat.lt_or_ge (n + 1) 32 with h | (h : 32 ≤ n + 1)
  · have e : T = ⟨S, P.set n x, n + 1⟩ := hT.symm.trans (by unfold takeH; exact if_pos h)
    clear hT
    subst e
    exact wk trueW trueW trueW
  · have e : T = ⟨mixQ (iter (xorIn (P.set n x)) S 4), P.set n x, 0⟩ := hT.symm.trans (by unfold takeH; exact if_neg (by show ¬ n + 1 < 32; omega))
    clear hT
    obtain rfl : n = 31 := by omega
    refine wk ?_ trueW trueW
    refine LC.loop2 (fun j S' => [(0, .p 1000 0), (29, .k (.int .i64 ((j : Nat) : Int)))]) (fun j S' => [(1000, .b (S'.map qK ++ ((P.set 31 x).map bK ++ [.k (.int .i64 0)])))]) (fun j S' => j ≤ 4 ∧ S' = iter (xorIn (P.set 31 x)) S j) ((4 - ·)) (0) (S) ⟨by omega, rfl⟩ ⟨rfl, rfl, trivial⟩ ⟨rfl, trivial⟩ rfl rfW rfW ?_
    rintro j S' ⟨hj, hS⟩
    have hl : S'.length = 8 := by rw [hS, iter_len (xorIn_len _)]; exact h1
    rcases Nat.lt_or_ge j 4 with h | h
    · have hok : j + 1 ≤ 4 ∧ xorIn (P.set 31 x) S' j = iter (xorIn (P.set 31 x)) S (j + 1) := ⟨by omega, by rw [iter, ← hS]⟩
      clear hS e
      exact wk trueW trueW trueW
    · obtain rfl : j = 4 := by omega
      have hm := mixQ_len S'
      have c2 := Mix S' hl
      rw [← hS] at e
      clear hS
      generalize mixQ S' = M at e hm c2
      subst e
      exact wk trueW trueW trueW
theorem take (h : Hs) (k : h.ok) (x : UInt8) (i : Nat) : LM Try.prog 49 [.p i 0, bK x] [(i, .b h.cells)] fun o m => o = .ret (.t []) ∧ m = [(i, .b (takeH h x).cells)] :=
  LM.box1 (fun k => [.p k 0, bK x]) (fun _ _ => rfl) (refs_cells _ h) (refs_cells _ _) rfl (take1 h k x) i
end Sp
def writeH (h : Hs) (b : List UInt8) : Hs := b.foldl takeH h
theorem writeH_ok {h : Hs} (k : h.ok) : ∀ b, (writeH h b).ok := by
  intro b
  induction b generalizing h with
  | nil => exact k
  | cons x r ih => exact ih (takeH_ok k x)
theorem foldl_take {α β : Type} [Inhabited α] {f : β → α → β} {s : β} {l : List α} {k : Nat} (h : k < l.length) : (l.take (k + 1)).foldl f s = f ((l.take k).foldl f s) (l.getD k default) := by
  rw [List.take_succ_eq_append_getElem h, List.foldl_append, List.getD_eq_getElem?_getD, List.getElem?_eq_getElem h]; rfl
attribute [irreducible] writeH Hs.cells
namespace Sp
set_option maxHeartbeats 1000000 in
theorem Write1 (h : Hs) (k : h.ok) (l : List UInt8) (hl : l.length < 1073741824) : LM Try.prog 45 [.p 1000 0, .s none (l.map bK)] [(1000, .b h.cells)] fun o m => o = .ret (.t []) ∧ m = [(1000, .b (writeH h l).cells)] := by
  have c1 := take
  refine LM.enter tt Try.func45 rfl rfl rfl (by kernel_rfl) rfl rfl rfl (fun o mo h => by rw [h.2]; rfl) fun F _ => ?_
  have hrf := refs_cells
  refine wk ?_ trueW trueW
  refine LC.loop2 (fun j H => [(0, .p 1000 0), (6, .s none (l.map bK)), (7, .k (.int .i64 ((l.length : Nat) : Int))), (8, .k (.int .i64 ((j : Nat) : Int)))]) (fun j H => [(1000, .b H.cells)]) (fun j H => j ≤ l.length ∧ H = writeH h (l.take j)) ((l.length - ·)) (0) (h) ⟨by omega, by simp [writeH]⟩ ⟨rfl, rfl, rfl, rfl, trivial⟩ ⟨rfl, trivial⟩ rfl rfW rfW ?_
  rintro j H ⟨hj, hH⟩
  have hk : H.ok := hH ▸ writeH_ok k _
  rcases Nat.lt_or_ge j l.length with h2 | h2
  · have hok : j + 1 ≤ l.length ∧ takeH H (l.getD j default) = writeH h (l.take (j + 1)) := ⟨by omega, by rw [hH]; unfold writeH; exact (foldl_take h2).symm⟩
    exact wk trueW trueW trueW
  · obtain rfl : j = l.length := by omega
    rw [List.take_length] at hH
    subst hH
    exact wk trueW trueW trueW
theorem Write (h : Hs) (k : h.ok) (l : List UInt8) (hl : l.length < 1073741824) (i : Nat) : LM Try.prog 45 [.p i 0, .s none (l.map bK)] [(i, .b h.cells)] fun o m => o = .ret (.t []) ∧ m = [(i, .b (writeH h l).cells)] :=
  LM.box1 (fun k => [.p k 0, .s none (l.map bK)]) (fun _ _ => rfl) (refs_cells _ h) (refs_cells _ _) rfl (Write1 h k l hl) i
end Sp
end Lf
end Go.Proofs.Ytpchigdcikknmaa

/- The sponge: sums, padding; what is alive. -/
namespace Go.Proofs.Ytpchigdcikknmaa
open Go.RowKit Rg
set_option linter.unusedVariables false
set_option maxRecDepth 100000
namespace Lf
theorem wr8_len (x : UInt64) (off : Nat) (L : List UInt8) (i : Nat) : (wr8 x off L i).length = L.length := by simp [wr8]
theorem iterB_len {f : List UInt8 → Nat → List UInt8} (hf : ∀ s i, (f s i).length = s.length) (s : List UInt8) (n : Nat) : (iter f s n).length = s.length := iter_inv (p := fun t => t.length = s.length) (fun t i h => (hf t i).trans h) rfl n
def wrQ (st : List UInt64) (L : List UInt8) (j : Nat) : List UInt8 := iter (wr8 (st.getD j default) (8 * j)) L 8
theorem wrQ_len (st : List UInt64) (L : List UInt8) (j : Nat) : (wrQ st L j).length = L.length := iterB_len (wr8_len _ _) _ _
def outQ (st : List UInt64) : List UInt8 := iter (wrQ st) (List.replicate 32 0) 4
theorem outQ_eq (st : List UInt64) : outQ st = iter (wrQ st) (List.replicate 32 0) 4 := rfl
theorem wrQ_eq (st : List UInt64) (L : List UInt8) (j : Nat) : iter (wr8 (st.getD j default) (8 * j)) L 8 = wrQ st L j := rfl
theorem outQ_len (st : List UInt64) : (outQ st).length = 32 := by unfold outQ; rw [iterB_len (wrQ_len st)]; rfl
def padN (h : Hs) (i : Nat) : Hs := iter (fun h _ => takeH h 0) h i
def padH (h : Hs) : Hs := padN (takeH h 1) (31 - (takeH h 1).n)
def sumH (h : Hs) : List UInt8 := outQ (takeH (padH h) 128).st
def hs0 : Hs := ⟨List.replicate 8 0, List.replicate 32 0, 0⟩
theorem hs0_ok : hs0.ok := ⟨rfl, rfl, Nat.zero_lt_succ _⟩
def sumB (b : List UInt8) : List UInt8 := sumH (writeH hs0 b)
theorem sumB_len (b : List UInt8) : (sumB b).length = 32 := by unfold sumB sumH; exact outQ_len _
theorem padN_ok {h : Hs} (k : h.ok) (i : Nat) : (padN h i).ok := iter_inv (f := fun h _ => takeH h 0) (p := Hs.ok) (fun s _ h => takeH_ok h 0) k i
theorem cells_len {h : Hs} (k : h.ok) : h.cells.length = 41 := by simp [Hs.cells, k.st, k.pt]
theorem takeH_n {h : Hs} (x : UInt8) (hn : h.n + 1 < 32) : (takeH h x).n = h.n + 1 := by unfold takeH; rw [if_pos hn]
theorem ld_n {ti : TI} {h : Hs} (k : h.ok) (hd : ti.d.agg = false) : ti.part h.cells 40 = some (.k (.int .i64 ((h.n : Nat) : Int))) := by
  unfold TI.part Hs.cells
  rw [hd]
  simp [k.st, k.pt]
theorem ld_st {ti : TI} {h : Hs} {j : Nat} (k : h.ok) (hd : ti.d.agg = false) (hj : j < 8) : ti.part h.cells j = some (qK (h.st.getD j default)) := by
  unfold TI.part Hs.cells
  rw [hd]
  have := k.st
  simp [List.getElem?_append_left, show j < h.st.length by omega, List.getD_eq_getElem?_getD]
attribute [irreducible] outQ padN padH sumH sumB wrQ
namespace Sp
set_option maxHeartbeats 1000000 in
theorem write8 (x : UInt64) (L : List UInt8) (off n cap : Nat) (hn : 8 ≤ n) (hL : off + 8 ≤ L.length) (i : Nat) : LM Try.prog 50 [.sb i off n cap, qK x] [(i, .b (L.map bK))] fun o m => o = .ret (.t []) ∧ m = [(i, .b ((iter (wr8 x off) L 8).map bK))] := by
  refine LM.box1 (fun k => [.sb k off n cap, qK x]) (fun _ _ => rfl) (refs_mapb _ _) (refs_mapb _ _) rfl ?_ i
  refine LM.enter tt Try.func50 rfl rfl rfl (by kernel_rfl) rfl rfl rfl (fun o mo h => by rw [h.2]; rfl) fun F _ => ?_
  refine wk ?_ trueW trueW
  refine LC.loop2 (fun j M => [(0, .sb 1000 off n cap), (1, qK x), (5, .k (.int .i64 ((j : Nat) : Int)))]) (fun j M => [(1000, .b (M.map bK))]) (fun j M => j ≤ 8 ∧ M = iter (wr8 x off) L j) ((8 - ·)) (0) (L) ⟨by omega, rfl⟩ ⟨rfl, rfl, rfl, trivial⟩ ⟨rfl, trivial⟩ rfl rfW rfW ?_
  rintro j M ⟨hj, hM⟩
  have hl : M.length = L.length := by rw [hM, iterB_len (wr8_len _ _)]
  rcases Nat.lt_or_ge j 8 with h | h
  · have hok : j + 1 ≤ 8 ∧ wr8 x off M j = iter (wr8 x off) L (j + 1) := ⟨by omega, by rw [iter, ← hM]⟩
    clear hM
    have h3 := x.toNat_lt
    unfold qK
    exact wk trueW trueW trueW
  · obtain rfl : j = 8 := by omega
    rw [← hM]
    exact wk trueW trueW trueW
set_option maxHeartbeats 1000000 in
theorem HSum (h : Hs) (k : h.ok) : LF Try.prog 46 [.a h.cells] (fun _ => .a ((sumH h).map bK)) none := by
  have c1 := fun (h : Hs) (k : h.ok) (i : Nat) => take h k 1 i
  have c2 := fun (h : Hs) (k : h.ok) (i : Nat) => take h k 0 i
  have c3 := fun (h : Hs) (k : h.ok) (i : Nat) => take h k 128 i
  have c4 := write8
  have hrf := refs_cells
  have ld1 := @ld_n
  have ld2 := @ld_st
  have k1 := takeH_ok k 1
  generalize hs : sumH h = R
  unfold sumH padH at hs
  refine LFx.mk' tt Try.func46 rfl rfl rfl (by kernel_rfl) rfl rfl fun F => ?_
  refine wk ?_ trueW trueW
  generalize hH : takeH h 1 = H1 at hs k1
  have hn := k1.n
  refine LC.loop2 (fun i H => [(1, .p 1 0), (2, .p 2 0)]) (fun i H => [(1, .b H.cells), (2, .b ((List.replicate 32 0).map bK))]) (fun i H => i ≤ 31 - H1.n ∧ H = padN H1 i ∧ H.n = H1.n + i) ((31 - H1.n - ·)) (0) (H1) ⟨by omega, by unfold padN; rfl, rfl⟩ ⟨rfl, rfl, trivial⟩ ⟨rfl, rfl, trivial⟩ rfl rfW rfW ?_
  rintro i H ⟨hi, hH2, hn2⟩
  have k2 : H.ok := hH2 ▸ padN_ok k1 i
  rcases Nat.lt_or_ge i (31 - H1.n) with h2 | h2
  · have hok : i + 1 ≤ 31 - H1.n ∧ takeH H 0 = padN H1 (i + 1) ∧ (takeH H 0).n = H1.n + (i + 1) := ⟨by omega, by rw [hH2]; unfold padN; rfl, by rw [takeH_n 0 (by omega)]; omega⟩
    clear hH2
    exact wk trueW trueW trueW
  · obtain rfl : i = 31 - H1.n := by omega
    rw [← hH2] at hs
    clear hH2
    have k3 := takeH_ok k2 128
    refine wk ?_ trueW trueW
    generalize takeH H 128 = H3 at hs k3
    refine LC.loop2 (fun j L => [(1, .p 1 0), (2, .p 2 0), (3, .p 3 0), (11, .k (.int .i64 ((j : Nat) : Int)))]) (fun j L => [(1, .b H3.cells), (2, .b ((List.replicate 32 0).map bK)), (3, .b (L.map bK))]) (fun j L => j ≤ 4 ∧ L = iter (wrQ H3.st) (List.replicate 32 0) j) ((4 - ·)) (0) ((List.replicate 32 0)) ⟨by omega, rfl⟩ ⟨rfl, rfl, rfl, rfl, trivial⟩ ⟨rfl, rfl, rfl, trivial⟩ rfl rfW rfW ?_
    rintro j L ⟨hj, hL⟩
    have hl : L.length = 32 := by rw [hL, iterB_len (wrQ_len _)]; rfl
    rcases Nat.lt_or_ge j 4 with h4 | h4
    · have hok : j + 1 ≤ 4 ∧ iter (wr8 (H3.st.getD j default) (8 * j)) L 8 = iter (wrQ H3.st) (List.replicate 32 0) (j + 1) := ⟨by omega, (wrQ_eq _ _ _).trans (by rw [iter, ← hL])⟩
      clear hL
      exact wk trueW trueW trueW
    · obtain rfl : j = 4 := by omega
      have hv1 : V.a (L.map bK) = V.a (R.map bK) := congrArg (fun z => V.a (List.map bK z)) (hL.trans ((outQ_eq _).symm.trans hs))
      clear hL
      exact wk trueW trueW trueW
end Sp
end Lf
end Go.Proofs.Ytpchigdcikknmaa

/- The sponge: the sum of a text, what is filled up; what is alive; nothing is lost in mixing. -/
namespace Go.Proofs.Ytpchigdcikknmaa
open Go.RowKit Rg
set_option linter.unusedVariables false
set_option maxRecDepth 100000
namespace Lf
def padZ (b : List UInt8) (i : Nat) : List UInt8 := b ++ [1] ++ List.replicate i 0
def padB (b : List UInt8) : List UInt8 := padZ b (31 - (b.length + 1) % 32) ++ [128]
theorem padZ_len (b : List UInt8) (i : Nat) : (padZ b i).length = b.length + 1 + i := by simp [padZ]; omega
theorem padB_len (b : List UInt8) : (padB b).length = b.length + 1 + (31 - (b.length + 1) % 32) + 1 := by simp [padB, padZ_len]
theorem padZ_succ (b : List UInt8) (i : Nat) : padZ b i ++ [UInt8.ofNat 0] = padZ b (i + 1) := by
  have e : [UInt8.ofNat 0] = [(0 : UInt8)] := rfl
  unfold padZ
  rw [e, List.append_assoc _ (List.replicate i 0), ← List.replicate_succ']
theorem padZ_zero (b : List UInt8) : b ++ [UInt8.ofNat 1] = padZ b 0 := by unfold padZ; rw [List.replicate_zero, List.append_nil]; rfl
theorem padB_eq (b : List UInt8) : padZ b (31 - (b.length + 1) % 32) ++ [UInt8.ofNat 128] = padB b := rfl
attribute [irreducible] padB padZ
theorem hs0_cells : hs0.cells = (List.replicate 8 (0 : UInt64)).map qK ++ ((List.replicate 32 (0 : UInt8)).map bK ++ [.k (.int .i64 0)]) := by unfold Hs.cells; rfl
namespace Sp
set_option maxHeartbeats 1000000 in
theorem Sum (l : List UInt8) (hl : l.length < 1073741824) : LF Try.prog 39 [.s none (l.map bK)] (fun _ => .a ((sumB l).map bK)) none := by
  have c1 := Write hs0 hs0_ok l hl
  rw [hs0_cells] at c1
  have k1 := writeH_ok hs0_ok l
  have e : sumB l = sumH (writeH hs0 l) := by unfold sumB; rfl
  rw [e]
  generalize writeH hs0 l = H at c1 k1
  have l2 : (sumH H).length = 32 := by unfold sumH; exact outQ_len _
  have c2 := HSum H k1
  generalize sumH H = R at c2 l2
  have hrf := refs_cells
  have hlen := cells_len k1
  refine LFx.mk' tt Try.func39 rfl rfl rfl (by kernel_rfl) rfl rfl fun F => ?_
  exact wk trueW trueW trueW
theorem alive_mix : ¬ mixQ (List.replicate 8 0) = List.replicate 8 0 := by decide +kernel
theorem alive_sum : ¬ sumB [] = List.replicate 32 0 := by decide +kernel
theorem alive_pad : (padB []).length = 32 := by rw [padB_len]; rfl
end Sp
end Lf
end Go.Proofs.Ytpchigdcikknmaa

/- Sets of bits, no program in sight. -/
namespace Go.Proofs.Ytpchigdcikknmaa
open Go.RowKit Rg
namespace Lf
def joinS (g f : List UInt8) (i : Nat) : List UInt8 := f.set i (f.getD i default ||| g.getD i default)
def J (f g : List UInt8) : List UInt8 := List.zipWith (· ||| ·) f g
theorem joinS_len (g f : List UInt8) (i : Nat) : (joinS g f i).length = f.length := by simp [joinS]
theorem J_len {f g : List UInt8} (hf : f.length = 32) (hg : g.length = 32) : (J f g).length = 32 := by simp [J, hf, hg]
theorem join_at (g f : List UInt8) (n : Nat) (j : Nat) : (iter (joinS g) f n).getD j default = if j < n ∧ j < f.length then f.getD j default ||| g.getD j default else f.getD j default := by
  induction n with
  | zero => simp [iter]
  | succ n ih =>
    have hl : (iter (joinS g) f n).length = f.length := iterB_len (joinS_len g) _ _
    rw [iter, joinS]
    by_cases h : n = j
    · subst h
      by_cases h2 : n < f.length
      · rw [List.getD_eq_getElem?_getD, List.getElem?_set, if_pos rfl, if_pos (by omega), ih, if_neg (by omega), if_pos ⟨by omega, h2⟩]; rfl
      · rw [List.getD_eq_getElem?_getD, List.getElem?_set, if_pos rfl, if_neg (by omega), if_neg (by omega), List.getD_eq_getElem?_getD, List.getElem?_eq_none (by omega)]
    · rw [List.getD_eq_getElem?_getD, List.getElem?_set, if_neg h, ← List.getD_eq_getElem?_getD, ih]
      by_cases h2 : j < n ∧ j < f.length
      · rw [if_pos h2, if_pos ⟨by omega, h2.2⟩]
      · rw [if_neg h2, if_neg (by omega)]
theorem join_eq {f g : List UInt8} (hf : f.length = 32) (hg : g.length = 32) : iter (joinS g) f 32 = J f g := by
  have hl : (iter (joinS g) f 32).length = 32 := (iterB_len (joinS_len g) _ _).trans hf
  apply List.ext_getElem (by rw [hl, J_len hf hg])
  intro i h1 h2
  have := join_at g f 32 i
  rw [if_pos ⟨by omega, by omega⟩] at this
  simp only [List.getD_eq_getElem?_getD, List.getElem?_eq_getElem h1, List.getElem?_eq_getElem (show i < f.length by omega), List.getElem?_eq_getElem (show i < g.length by omega), Option.getD_some] at this
  rw [this]
  simp [J]
theorem J_self (f : List UInt8) : J f f = f := by
  induction f with
  | nil => rfl
  | cons x f ih => simp only [J, List.zipWith_cons_cons, UInt8.or_self]; exact congrArg _ ih
theorem J_comm (f g : List UInt8) : J f g = J g f := by
  induction f generalizing g with
  | nil => cases g <;> rfl
  | cons x f ih => cases g with
    | nil => rfl
    | cons y g => simp only [J, List.zipWith_cons_cons, UInt8.or_comm x y]; exact congrArg _ (ih g)
theorem J_assoc (f g h : List UInt8) : J (J f g) h = J f (J g h) := by
  induction f generalizing g h with
  | nil => rfl
  | cons x f ih => cases g with
    | nil => rfl
    | cons y g => cases h with
      | nil => rfl
      | cons z h => simp only [J, List.zipWith_cons_cons, UInt8.or_assoc]; exact congrArg _ (ih g h)
/-- All bits of f are in g. -/
def W (f g : List UInt8) : Prop := J f g = g
theorem W_refl (f : List UInt8) : W f f := J_self f
theorem W_anti {f g : List UInt8} (h : W f g) (k : W g f) : f = g := by unfold W at h k; rw [← k, J_comm, h]
theorem W_trans {f g h : List UInt8} (a : W f g) (b : W g h) : W f h := by unfold W at *; rw [← b, ← J_assoc, a]
theorem W_lub {f g h : List UInt8} : W (J f g) h ↔ W f h ∧ W g h := by
  unfold W
  constructor
  · intro a
    have e1 : J f (J f g) = J f g := by rw [← J_assoc, J_self]
    have e2 : J g (J f g) = J f g := by rw [J_comm f g, ← J_assoc, J_self]
    constructor
    · rw [← a, ← J_assoc, e1]
    · rw [← a, ← J_assoc, e2]
  · rintro ⟨a, b⟩; rw [J_assoc, b, a]
theorem W_left (f g : List UInt8) : W f (J f g) := by unfold W; rw [← J_assoc, J_self]
theorem W_right (f g : List UInt8) : W g (J f g) := by rw [J_comm]; exact W_left g f
/-! What goes in -/
def setb (f : List UInt8) (n : UInt8) : List UInt8 := f.set (n.toNat / 8) (f.getD (n.toNat / 8) default ||| UInt8.ofNat (1 * 2 ^ (n.toNat % 8)))
def addT (f t : List UInt8) : List UInt8 := iter (fun f k => setb f ((sumB t).getD k default)) f 3
def z32 : List UInt8 := List.replicate 32 0
def ofB (ts : List (List UInt8)) : List UInt8 := ts.foldl addT z32
theorem setb_len (f : List UInt8) (n : UInt8) : (setb f n).length = f.length := by simp [setb]
theorem addT_len (f t : List UInt8) : (addT f t).length = f.length := by unfold addT; exact iterB_len (f := fun f k => setb f ((sumB t).getD k default)) (fun s i => setb_len s _) f 3
theorem foldT_len (f : List UInt8) (ts : List (List UInt8)) : (ts.foldl addT f).length = f.length := by
  induction ts generalizing f with
  | nil => rfl
  | cons t ts ih => rw [List.foldl_cons, ih, addT_len]
theorem ofB_len (ts : List (List UInt8)) : (ofB ts).length = 32 := by unfold ofB; rw [foldT_len]; rfl
theorem J_get {f g : List UInt8} (hf : f.length = 32) (hg : g.length = 32) {i : Nat} (hi : i < 32) : (J f g).getD i default = f.getD i default ||| g.getD i default := by
  simp [J, List.getD_eq_getElem?_getD, List.getElem?_zipWith, hf, hg, hi]
theorem J_set {f g : List UInt8} (hf : f.length = 32) (hg : g.length = 32) {k : Nat} (hk : k < 32) (x : UInt8) : (J f g).set k (f.getD k default ||| x) = J f (g.set k x) := by
  apply List.ext_getElem?
  intro i
  rw [List.getElem?_set]
  by_cases h : k = i
  · subst h
    rw [if_pos rfl, if_pos (by rw [J_len hf hg]; exact hk)]
    simp [J, List.getElem?_zipWith, hf, hg, hk, List.getD_eq_getElem?_getD]
  · rw [if_neg h]
    simp [J, List.getElem?_zipWith, List.getElem?_set, h]
theorem setb_J {f g : List UInt8} (hf : f.length = 32) (hg : g.length = 32) (n : UInt8) : setb (J f g) n = J f (setb g n) := by
  have hn : n.toNat / 8 < 32 := by have := n.toNat_lt; omega
  unfold setb
  rw [J_get hf hg hn, UInt8.or_assoc]
  exact J_set hf hg hn _
theorem addT_J {f g : List UInt8} (hf : f.length = 32) (hg : g.length = 32) (t : List UInt8) : addT (J f g) t = J f (addT g t) := by
  unfold addT
  have : ∀ k, iter (fun f k => setb f ((sumB t).getD k default)) (J f g) k = J f (iter (fun f k => setb f ((sumB t).getD k default)) g k) ∧ (iter (fun f k => setb f ((sumB t).getD k default)) g k).length = 32 := by
    intro k
    induction k with
    | zero => exact ⟨rfl, hg⟩
    | succ k ih =>
      obtain ⟨e, l⟩ := ih
      exact ⟨by rw [iter, e, iter]; exact setb_J hf l _, by rw [iter]; exact (setb_len _ _).trans l⟩
  exact (this 3).1
theorem J_zero {f : List UInt8} (hf : f.length = 32) : J f z32 = f := by
  apply List.ext_getElem?
  intro i
  unfold J z32
  rw [List.getElem?_zipWith]
  rcases Nat.lt_or_ge i 32 with h | h
  · rw [List.getElem?_replicate, if_pos h, List.getElem?_eq_getElem (by omega)]
    simp
  · rw [List.getElem?_eq_none (l := f) (by omega)]
theorem addT_eq {f : List UInt8} (hf : f.length = 32) (t : List UInt8) : addT f t = J f (ofB [t]) := by
  have := addT_J hf (show z32.length = 32 from rfl) t
  rw [J_zero hf] at this
  exact this
theorem foldT_W {f : List UInt8} (hf : f.length = 32) : ∀ ts : List (List UInt8), W f (ts.foldl addT f) := by
  intro ts
  induction ts generalizing f with
  | nil => exact W_refl f
  | cons t ts ih =>
    rw [List.foldl_cons]
    refine W_trans ?_ (ih ((addT_len f t).trans hf))
    rw [addT_eq hf]
    exact W_left _ _
theorem ofB_mem {t : List UInt8} : ∀ {ts : List (List UInt8)} {f : List UInt8}, f.length = 32 → t ∈ ts → W (ofB [t]) (ts.foldl addT f) := by
  intro ts
  induction ts with
  | nil => intro f _ h; cases h
  | cons x ts ih =>
    intro f hf h
    rw [List.foldl_cons]
    rcases List.mem_cons.1 h with rfl | h
    · refine W_trans ?_ (foldT_W ((addT_len f t).trans hf) ts)
      rw [addT_eq hf]
      exact W_right _ _
    · exact ih ((addT_len f x).trans hf) h
attribute [irreducible] J addT ofB
end Lf
end Go.Proofs.Ytpchigdcikknmaa

/- Sets of bits: walks. -/
namespace Go.Proofs.Ytpchigdcikknmaa
open Go.RowKit Rg
set_option linter.unusedVariables false
set_option maxRecDepth 100000
namespace Lf
theorem part_cut {α : Type} {f : α → V} {ti : TI} {l : List α} {n : Nat} (hd : ti.d.agg = true) (hs : ti.size = n) (h : n ≤ l.length) : ti.part (l.map f) 0 = some (.a ((l.take n).map f)) := by
  rw [part_mk hd (by rw [hs, List.length_map]; omega), hs, List.drop_zero, List.map_take]
namespace Bl
set_option maxHeartbeats 1000000 in
theorem Join (f g : List UInt8) (hf : f.length = 32) (hg : g.length = 32) : LF Try.prog 48 [.a (f.map bK), .a (g.map bK)] (fun _ => .a ((J f g).map bK)) none := by
  rw [← join_eq hf hg]
  refine LFx.mk' tt Try.func48 rfl rfl rfl (by kernel_rfl) rfl rfl fun F => ?_
  refine wk ?_ trueW trueW
  refine LC.loop2 (fun i F => [(2, .p 2 0), (4, .p 4 0), (7, .a (g.map bK)), (8, .k (.int .i64 ((i : Nat) : Int)))]) (fun i F => [(2, .b (F.map bK)), (4, .b ((List.replicate 32 0).map bK))]) (fun i F => i ≤ 32 ∧ F = iter (joinS g) f i) ((32 - ·)) (0) (f) ⟨by omega, rfl⟩ ⟨rfl, rfl, rfl, rfl, trivial⟩ ⟨rfl, rfl, trivial⟩ rfl rfW rfW ?_
  rintro i F ⟨hi, hF⟩
  have hl : F.length = 32 := by rw [hF, iterB_len (joinS_len g)]; exact hf
  rcases Nat.lt_or_ge i 32 with h | h
  · have hok : i + 1 ≤ 32 ∧ joinS g F i = iter (joinS g) f (i + 1) := ⟨by omega, by rw [iter, ← hF]⟩
    clear hF
    exact wk trueW trueW trueW
  · obtain rfl : i = 32 := by omega
    rw [← hF]
    exact wk trueW trueW trueW
set_option maxHeartbeats 1000000 in
theorem Within (f g : List UInt8) (hf : f.length = 32) (hg : g.length = 32) {r : Bool} (hr : decide (J f g = g) = r) : LF Try.prog 43 [.a (f.map bK), .a (g.map bK)] (fun _ => .k (.bool r)) none := by
  have c1 := Join f g hf hg
  have hl := J_len hf hg
  cases r
  · have h : ¬ J f g = g := of_decide_eq_false hr
    clear hr
    generalize J f g = M at c1 hl h
    refine LFx.mk' tt Try.func43 rfl rfl rfl (by kernel_rfl) rfl rfl fun F => ?_
    exact wk trueW trueW trueW
  · have h : J f g = g := of_decide_eq_true hr
    clear hr
    generalize J f g = M at c1 hl h
    refine LFx.mk' tt Try.func43 rfl rfl rfl (by kernel_rfl) rfl rfl fun F => ?_
    exact wk trueW trueW trueW
set_option maxHeartbeats 1000000 in
theorem bits (t : List UInt8) (ht : t.length < 1073741824) : LF Try.prog 31 [.s none (t.map bK)] (fun _ => .a (((sumB t).take 3).map bK)) none := by
  have c1 := Sp.Sum t ht
  have l2 := sumB_len t
  generalize sumB t = S at c1 l2
  have l3 : (S.take 3).length = 3 := by simp [l2]
  have ld1 := fun {ti : TI} {l : List UInt8} (hd : ti.d.agg = true) (hs : ti.size = 3) (h : 3 ≤ l.length) => part_cut (f := bK) hd hs h
  refine LFx.mk' tt Try.func31 rfl rfl rfl (by kernel_rfl) rfl rfl fun F => ?_
  exact wk trueW trueW trueW
set_option maxHeartbeats 1000000 in
theorem Of (ts : List (List UInt8)) (hn : ts.length < 1073741824) (ht : ∀ t ∈ ts, t.length < 1073741824) : LF Try.prog 19 [.s none (ts.map fun t => .s none (t.map bK))] (fun _ => .a ((ofB ts).map bK)) none := by
  have c1 := bits
  refine LFx.mk' tt Try.func19 rfl rfl rfl (by kernel_rfl) rfl rfl fun F => ?_
  refine wk ?_ trueW trueW
  refine LC.loop2 (fun i F => [(2, .p 2 0), (3, .p 3 0), (8, .s none (ts.map fun t => .s none (t.map bK))), (9, .k (.int .i64 ((ts.length : Nat) : Int))), (10, .k (.int .i64 ((i : Nat) : Int)))]) (fun i F => [(2, .b ((List.replicate 32 0).map bK)), (3, .b (F.map bK))]) (fun i F => i ≤ ts.length ∧ F = (ts.take i).foldl addT z32) ((ts.length - ·)) (0) (z32) ⟨by omega, rfl⟩ ⟨rfl, rfl, rfl, rfl, rfl, trivial⟩ ⟨rfl, rfl, trivial⟩ rfl rfW rfW ?_
  rintro i F ⟨hi, hF⟩
  have hl : F.length = 32 := by rw [hF, foldT_len]; rfl
  rcases Nat.lt_or_ge i ts.length with h | h
  · have hT : (ts.getD i default).length < 1073741824 := by
      rw [List.getD_eq_getElem?_getD, List.getElem?_eq_getElem h]; exact ht _ (List.getElem_mem h)
    have hstep : addT F (ts.getD i default) = (ts.take (i + 1)).foldl addT z32 := by rw [hF]; exact (foldl_take h).symm
    clear hF
    refine wk ?_ trueW trueW
    generalize ts.getD i default = T at hT hstep ⊢
    have l3 : ((sumB T).take 3).length = 3 := by simp [sumB_len]
    refine LC.loop2 (fun k G => [(2, .p 2 0), (3, .p 3 0), (8, .s none (ts.map fun t => .s none (t.map bK))), (9, .k (.int .i64 ((ts.length : Nat) : Int))), (10, .k (.int .i64 ((i : Nat) : Int))), (15, .a (((sumB T).take 3).map bK)), (16, .k (.int .i64 ((k : Nat) : Int)))]) (fun k G => [(2, .b ((List.replicate 32 0).map bK)), (3, .b (G.map bK))]) (fun k G => k ≤ 3 ∧ G = iter (fun f k => setb f ((sumB T).getD k default)) F k) ((3 - ·)) (0) (F) ⟨by omega, rfl⟩ ⟨rfl, rfl, rfl, rfl, rfl, rfl, rfl, trivial⟩ ⟨rfl, rfl, trivial⟩ rfl rfW rfW ?_
    rintro k G ⟨hk, hG⟩
    have hl2 : G.length = 32 := by rw [hG, iterB_len (fun s i => setb_len s _)]; exact hl
    rcases Nat.lt_or_ge k 3 with h2 | h2
    · have hb := (((sumB T).take 3).getD k default).toNat_lt
      have e3 : (sumB T).getD k default = ((sumB T).take 3).getD k default := by
        rw [List.getD_eq_getElem?_getD, List.getD_eq_getElem?_getD, List.getElem?_take, if_pos h2]
      have hok : k + 1 ≤ 3 ∧ setb G (((sumB T).take 3).getD k default) = iter (fun f k => setb f ((sumB T).getD k default)) F (k + 1) := ⟨by omega, by rw [iter, ← hG, e3]⟩
      clear hG e3
      generalize ((sumB T).take 3) = B at l3 hb hok
      unfold setb at hok
      exact wk trueW trueW trueW
    · obtain rfl : k = 3 := by omega
      have hok : i + 1 ≤ ts.length ∧ G = (ts.take (i + 1)).foldl addT z32 := ⟨by omega, by rw [hG, ← hstep]; unfold addT; rfl⟩
      clear hG hstep
      exact wk trueW trueW trueW
  · obtain rfl : i = ts.length := by omega
    rw [List.take_length] at hF
    have hv : V.a (F.map bK) = V.a ((ofB ts).map bK) := by rw [hF]; unfold ofB; rfl
    clear hF
    exact wk trueW trueW trueW
set_option maxHeartbeats 1000000 in
theorem May (f t : List UInt8) (hf : f.length = 32) (ht : t.length < 1073741824) {r : Bool} (hr : decide (J (ofB [t]) f = f) = r) : LF Try.prog 36 [.a (f.map bK), .s none (t.map bK)] (fun _ => .k (.bool r)) none := by
  have c1 := Of [t] (by simp) (by simpa using ht)
  have c2 := Within (ofB [t]) f (ofB_len _) hf hr
  clear hr
  generalize ofB [t] = B at c1 c2
  refine LFx.mk' tt Try.func36 rfl rfl rfl (by kernel_rfl) rfl rfl fun F => ?_
  exact wk trueW trueW trueW
theorem al1 : ¬ ofB [[97]] = List.replicate 32 0 := by decide +kernel
theorem al2 : decide (J (ofB [[97]]) (List.replicate 32 0) = List.replicate 32 0) = false := by decide +kernel
theorem al3 : decide (J (List.replicate 32 0) (ofB [[97]]) = ofB [[97]]) = true := by decide +kernel
end Bl
end Lf
end Go.Proofs.Ytpchigdcikknmaa

/- A slice held against nil; a fresh row that a call hands back; Clone. -/
namespace Go.Proofs.Ytpchigdcikknmaa
open Go.RowKit Rg
set_option linter.unusedVariables false
set_option maxRecDepth 100000
namespace Lf
section
variable {P : Program} {F : Fr0} {N : Nat} {Q : LQ} {env : Env} {mem : Mem} {ops : Array Oper} {o : Oper} {rs : List Oper} {d : Nat}
/-- Whether a slice is nil is not told: both ways are walked. -/
theorem LS.eqNil {T Y e : Nat} {x : Operand} {t : Option Nat} {es : List V} (X : TOk P) {ti : TI} (hg : gd ops env o = some true) (hds : o.dst = some d) (ho : o.op = .binOp .eql T x (.const (.slice none 0 0)) Y) (hx : evo env x = some (.s t es)) (hT : aget X.tab T = some ti) (hdt : ti.d = .sl e) (hd : Nat.blt d N = true)
    (h1 : es = [] → LS P F N ops rs Q ((d, .k (.bool true)) :: env) mem) (h2 : LS P F N ops rs Q ((d, .k (.bool false)) :: env) mem) : LS P F N ops (o :: rs) Q env mem := ⟨fun F0 hxe g a w hr => by
  have hu := (X.get hT).sl hdt
  have hgt : P.eqGuardType P.depth T = false := by
    obtain ⟨m, hm⟩ : ∃ m, P.depth = m + 1 := ⟨2 * (P.types.size + Made.depth) + 1, rfl⟩
    rw [hm]
    simp [Program.eqGuardType, hu]
  have hrun : ∀ (ad : Option Addr) (n c : Nat), a.eval x = .slice ad n c → (execOp a.eval o).run P w = .ok (.value (.bool ad.isNone)) w := fun ad n c h => by
    have q1 : (eqGuard .eql T x (.const (.slice none 0 0)) (.slice ad n c) (.slice none 0 0)).run P w = .ok () w := by
      unfold eqGuard
      simp [hgt, program, Sem.run]
    have q2 : (binOp .eql T (.slice ad n c) (.slice none 0 0)).run P w = .ok (.bool ad.isNone) w := by
      have e : Op.equal T (.slice ad n c) (.slice none 0 0) = Op.equalIn (9999 + 1) T (.slice ad n c) (.slice none 0 0) := rfl
      have q3 : (Op.equalIn (9999 + 1) T (.slice ad n c) (.slice none 0 0)).run P w = .ok ad.isNone w := by
        rw [Op.equalIn, Sem.run_bind, run_underlying hu w]
        cases ad <;> rfl
      simp only [binOp, e, Sem.run_bind, q3, Result.andThen_ok]
      rfl
    have hx2 : a.eval (.const (.slice none 0 0)) = .slice none 0 0 := rfl
    simp only [execOp, ho, h, hx2, Sem.run_bind, q1, Result.andThen_ok, q2]
    rfl
  have hdd : dok o.dst N = true := by rw [hds]; exact hd
  have hrep := hr.evo hx
  refine wpListIn_step fun K hK => ?_
  rw [gd_wanted hr hg, if_pos rfl]
  have go : ∀ b : Bool, (execOp a.eval o).run P w = .ok (.value (.bool b)) w → LS P F N ops rs Q ((d, .k (.bool b)) :: env) mem → o.wpIn F0.fz 0 P a w K (liftQ F0 N Q) := fun b hb hl => by
    refine op_in ?_ (fun c e => by rw [ho] at e; cases e)
    unfold Oper.wp
    rw [hb]
    refine hK _ _ (hl.go F0 hxe g _ w ?_)
    have := hr.put (Ev.refl g w) hr.mem hr.kept (Rep.k (w := w) (g := g) (.bool b)) hdd
    rw [hds] at this
    rw [hds]
    exact this
  generalize hv : a.eval x = v at hrep
  cases hrep with
  | s0 => exact go true (hrun _ _ _ hv) (h1 rfl)
  | se => exact go false (hrun _ _ _ hv) h2
  | s => exact go false (hrun _ _ _ hv) h2⟩
end
theorem LM.row1 {P : Program} {f : Nat} {args es : List V} {E sz n k0 : Nat} (hA : ∀ (ρ : Nat → Nat), args.map (V.ren ρ) = args) (h : LM P f args [] fun o m => o = .ret (.s (some k0) es) ∧ m = [(k0, .r E sz n)]) (k : Nat) : LM P f args [] fun o m => o = .ret (.s (some k) es) ∧ m = [(k, .r E sz n)] :=
  LM.gen [k0] [k] (by simp) (by simp) rfl h fun ρ hρ => by
    simp at hρ
    refine ⟨hA _, rfl, ?_, ?_⟩
    · simp [Out.ren, V.ren, hρ]
    · simp [Mem.ren, M.ren, hρ]
/-- A call that hands back a fresh row. -/
theorem DR.cr {P : Program} {N : Nat} {ops : Array Oper} {chk : List (Nat × Tch) → Bool} {K : Env → Mem → Prop} {acc : List (Nat × Tch)} {env : Env} {mem : Mem} {i d : Nat} {o : Oper} {rs : List (Nat × Oper)} {fx E sz n : Nat} {xs : List Operand} {ts : Array Nat} {us args es : List V}
    (ho : o.op = .call { callee := .value (.func fx), args := xs.toArray, argTypes := ts }) (hg : gd ops env o = some true) (hds : o.dst = some d) (hx : evs env xs = some us) (hc : ∀ k, LM P fx args [] fun o m => o = .ret (.s (some k) es) ∧ m = [(k, .r E sz n)]) (hu : Fits us args) (hr : V.refs.go [] args = true) (ht : aget mem d = none) (hd : Nat.blt d N = true)
    (hK : DR P N ops chk K rs ((i, callT [] [(d, .r E sz n)]) :: acc) ((d, .s (some d) es) :: env) ((d, .r E sz n) :: mem)) : DR P N ops chk K ((i, o) :: rs) acc env mem :=
  DR.cm hg hds (Does.callM (hc d) ho hx hu (by rw [hr]; rfl)) ⟨ht, trivial⟩ hd hK
end Lf
end Go.Proofs.Ytpchigdcikknmaa

/- Room made ahead (append of make onto nil, cut back to nothing): slices.Grow; Concat. -/
namespace Go.Proofs.Ytpchigdcikknmaa
open Go.RowKit Rg
namespace Lf
section
variable {P : Program} {o : Oper} {env : Env}
theorem run_appMake {T Tx E ty n : Nat} {kd kx : IntKind} {ei : TI} {w : World} (hu : P.underlying T = some (.slice E)) (hx : P.underlying Tx = some (.int kx)) (hE : TIok P E ei) (hn : 0 < n) (hmax : n ≤ 140737488355328) (hb : n * ei.bytes ≤ 140737488355328) :
    ∃ cs : Array Value, (Builtin.append_ #[T, Tx] ty #[.slice none 0 0, .int kd (n : Int)]).run P w = .ok (.slice (some ⟨w.heap.size, 0, none⟩) n (grownCap w n 0 E)) (w.drew.alloc (.cells cs E)) ∧ cs.size = grownCap w n 0 E * ei.size ∧ n ≤ grownCap w n 0 E ∧ grownCap w n 0 E ≤ maxLen := by
  obtain ⟨i, hi, hsz, hby, z, hz, _, hzs, _⟩ := hE.info
  rw [← hby] at hb
  rw [← hsz] at hzs ⊢
  have hge := grownCap_ge w n 0 E
  have h63 : n ≤ maxLen := by simp only [maxLen]; omega
  have hcm : grownCap w n 0 E ≤ maxLen := grownCap_le_maxLen w n 0 E h63
  have hw : IntKind.i64.wrap (n : Int) = (n : Int) := wrap_i64 (by omega)
  have hfit : Builtin.nextslicecap n 0 * i.bytes ≤ 281474976710656 := by have := growslice_fits (old := 0) (need := n) (by omega) hb; simpa using this
  have h1 : ¬ n = 0 := by omega
  have h2 : ¬ (9223372036854775807 < (n : Int)) := by omega
  have h3 : ¬ (281474976710656 < Builtin.nextslicecap n 0 * i.bytes) := by omega
  have h4 : ¬ (281474976710656 < (n : Int) * (i.bytes : Int)) := by
    have : (n : Int) * (i.bytes : Int) = ((n * i.bytes : Nat) : Int) := by rw [Int.natCast_mul]
    rw [this]; omega
  have h5 : ¬ ((n : Int) < 0) := by omega
  refine ⟨#[] ++ Builtin.zeroCells z.cells n ++ Builtin.zeroCells z.cells (grownCap w n 0 E - n), ?_, ?_, hge, hcm⟩
  · simp [Builtin.append_, run_underlying hu, run_underlying hx, sizeOf, typeInfo, zeroValue, hi, hz, asInt, asIntOf, hw, h1, h2, h3, h4, h5, Question.forced, newRow, grownCap, Builtin.firstCells]
    intro h
    have : Builtin.zeroCells z.cells n = #[] := Array.eq_empty_of_size_eq_zero (by rw [size_zeroCells, hzs]; exact h)
    rw [this]
    simp
  · simp only [Array.size_append, List.size_toArray, List.length_nil, size_zeroCells, hzs, Nat.zero_add, ← Nat.add_mul]
    congr 1
    omega
theorem drew_rel {F : Fr0} {g : Gh} {w : World} {mem : Mem} (h : RelM F g mem w) (hk : Kept F g w) : Ev g w g w.drew ∧ RelM F g mem w.drew ∧ Kept F g w.drew :=
  h.ext hk (Below.refl w.heap.size w).drew (fun _ _ _ => Iff.rfl) rfl rfl fun b o hb => h.fut b o hb
/-- append of so many noughts onto nil: room. -/
theorem Does.appMake {T Tx E i n : Nat} {kd kx : IntKind} {x y : Operand} {z : Int} (X : TOk P) {ti xi ei : TI} (ho : o.op = .call { callee := .builtin .append, args := #[x, y], argTypes := #[T, Tx] }) (hx : evo env x = some .nil) (hy : evo env y = some (.k (.int kd z))) (hz : z = ((n : Nat) : Int)) (hT : aget X.tab T = some ti) (hd : ti.d = .sl E) (hX : aget X.tab Tx = some xi) (hdx : xi.d = .int kx) (hE : aget X.tab E = some ei) (hpos : Nat.blt 0 ei.size = true)
    (hn : 0 < n) (hmax : n ≤ 140737488355328) (hb : n * ei.bytes ≤ 140737488355328) : Does P o env (.w i 0 ei.size 0 n) [(i, none, some (.w E ei.size 0 []))] := by
  subst hz
  refine ⟨fun F g a w mem h1 h2 h3 h4 _ K Q hK => ?_⟩
  have hi := h4 _ _ _ mem_one
  have hrx := h1 x (by simp [ho, Op.operands, Call.operands]) _ hx
  have hry := rep_k (h1 y (by simp [ho, Op.operands, Call.operands]) _ hy)
  have hxe : a.eval x = .slice none 0 0 := by generalize a.eval x = v at hrx; cases hrx; rfl
  obtain ⟨cs, hrun, hcs, hle, hcm⟩ := run_appMake (P := P) (ty := o.type) (kd := kd) (w := w) ((X.get hT).sl hd) ((X.get hX).int hdx) (X.get hE) hn hmax hb
  obtain ⟨d1, d2, d3⟩ := drew_rel h2 h3
  have hpos' : 0 < ei.size := Nat.le_of_ble_eq_true hpos
  have hH : w.drew.heap.size = w.heap.size := rfl
  have hrw : (g.newR i w.drew.heap.size 0 0 (grownCap w n 0 E)).rw i = some (some w.drew.heap.size, 0, grownCap w n 0 E) := by simp [Gh.newR]
  have hown : (w.drew.alloc (.cells cs E)).oRow 0 E ei.size (.slice (some ⟨w.drew.heap.size, 0, none⟩) 0 (grownCap w n 0 E)) 0 [] :=
    ⟨by simp, .inr ⟨w.drew.heap.size, grownCap w n 0 E, cs, _, rfl, Nat.zero_le _, heap_alloc_new w.drew _, Nat.zero_le _, hcm, hcs, by simp, .inl rfl⟩⟩
  obtain ⟨e1, e2, e3⟩ := d2.newR d3 (i := i) (n := 0) (l := 0) (c := grownCap w n 0 E) (m' := .w E ei.size 0 []) (o := .cells cs E) hi (.w hrw ⟨hpos', by simp, ⟨[], hown, by simp⟩, fun b hb o hS => by cases hb; have := hS.2 rfl; omega⟩) fun b o' ⟨l, c', hp'⟩ => by rw [hrw] at hp'; cases hp'; rfl
  unfold Oper.wp
  have hrun' : (execOp a.eval o).run P w = .ok (.value (.slice (some ⟨w.heap.size, 0, none⟩) n (grownCap w n 0 E))) (w.drew.alloc (.cells cs E)) := by
    simp [execOp, ho, resolve, invoke, builtin, hxe, hry, hrun]
  rw [hrun']
  exact hK _ _ _ (d1.trans e1) e2 e3 (.w ⟨_, _, _, hrw, Nat.le_refl _, fun _ => ⟨by omega, by omega, fun _ => by simp [hH]⟩⟩)
/-- Room cut back to nothing: the beginning of a row. -/
theorem Does.cutW0 {T E i n e : Nat} {x : Operand} {hi : Option Operand} {es : List V} (X : TOk P) {ti ei : TI} (ho : o.op = .slice T x none hi none) (hx : evo env x = some (.w i 0 ei.size 0 n)) (hT : aget X.tab T = some ti) (hd : ti.d = .sl e) (hE : aget X.tab e = some ei) (hhi : Bd env n hi 0) :
    Does P o env (.s (some i) []) [(i, some (.w E ei.size 0 es), some (.r E ei.size 0))] := by
  refine ⟨fun F g a w mem h1 h2 h3 h4 _ K Q hK => ?_⟩
  have hi' := h4 _ _ _ mem_one
  have hrx := h1 x (by simp [ho, Op.operands]) _ hx
  have b2 := hhi.val (a := a) (fun y hy u hu => h1 y (by subst hy; simp [ho, Op.operands]) u hu)
  obtain ⟨ao, c, hrw, hB⟩ := h2.buf hi'
  obtain ⟨xs, hown, _⟩ := hB.own
  generalize hv : a.eval x = v at hrx
  cases hrx with
  | @w _ _ _ _ _ _ ad cap h =>
    obtain ⟨a', l, c', k1, k2, k3⟩ := h
    rw [hrw] at k1; cases k1
    obtain ⟨w1, w2, w3⟩ := k3 rfl
    have hcap : cap = c := by omega
    subst hcap
    have had := w3 (.inr rfl)
    simp only [Nat.zero_mul] at had
    have hcut := run_cutG (P := P) (a := ad) (n := n) (cap := cap) ((X.get hT).sl hd) (X.get hE).run_size (.inl ⟨rfl, rfl⟩) b2 (Nat.zero_le _) (Nat.zero_le _) w
    have hres : (if cap = 0 then ad else ad.map (·.add (0 * ei.size))) = ad := by
      split
      · rfl
      · rw [had]; cases ao <;> simp [Addr.add_lit]
    have hown0 : w.oRow 0 E ei.size (.slice (ao.map fun b => ⟨b, 0, none⟩) 0 cap) 0 [] := by
      refine ⟨by simp, ?_⟩
      rcases hown.2 with ⟨hv', _⟩ | ⟨q, cp, cur, fz, hv', hb0, hq, hnc, hcm, hcs, htk, hfz⟩
      · cases ao with
        | none => simp at hv'; exact .inl ⟨by simp [hv'.2], rfl⟩
        | some b => simp at hv'
      · cases ao with
        | none => simp at hv'
        | some b =>
          simp at hv'
          obtain ⟨rfl, rfl⟩ := hv'
          exact .inr ⟨b, cap, cur, fz, rfl, hb0, hq, Nat.zero_le _, hcm, hcs, by simp, hfz⟩
    obtain ⟨k1, k2⟩ := h2.step h3 (i := i) (m' := .r E ei.size 0) (Ev.refl g w) rfl rfl rfl (fun _ _ _ _ => ⟨rfl, rfl, fun h => h⟩) (fun _ _ _ => rfl) (fun _ _ => rfl) (fun _ _ => rfl) (.r hrw ⟨hB.pos, ⟨[], hown0⟩, fun b hb o _ => hB.free b hb o⟩) (fun b o hp => .inl ⟨_, hi', hp⟩) h2.fut
    unfold Oper.wp
    have hrun' : (execOp a.eval o).run P w = .ok (.value (.slice ad 0 cap)) w := by
      rw [hres] at hcut
      simp [execOp, ho, hv, hcut]
    rw [hrun']
    refine hK _ g w (Ev.refl g w) k1 k2 ?_
    have := Rep.row (es := []) (n := 0) (i := i) rfl hB.pos hrw hown0 (fun b hb => ?_) (by simp) (by simp)
    · rw [had]; exact this
    · subst hb; exact ⟨hB.lt rfl, fun o ho => by omega⟩
end
end Lf
end Go.Proofs.Ytpchigdcikknmaa

/- Grow from nil, and Concat, of bytes. -/
namespace Go.Proofs.Ytpchigdcikknmaa
open Go.RowKit Rg
set_option linter.unusedVariables false
set_option maxRecDepth 100000
namespace Lf
theorem Does.capNil {P : Program} {o : Oper} {env : Env} {x : Operand} {T : Nat} {ts : Array Nat} {e : Nat} (X : TOk P) {ti : TI} (ho : o.op = .call { callee := .builtin .cap, args := #[x], argTypes := ts }) (hts : ts[0]? = some T) (hx : evo env x = some .nil) (hT : aget X.tab T = some ti) (hd : ti.d = .sl e) : Does P o env (.k (.int .i64 ((0 : Nat) : Int))) [] :=
  .pure fun F g a w mem hr _ => by
    have hr0 := hr x (by simp [ho, Op.operands, Call.operands]) _ hx
    have hxe : a.eval x = .slice none 0 0 := by generalize a.eval x = v at hr0; cases hr0; rfl
    exact ⟨.int .i64 ((0 : Nat) : Int), by simp [execOp, ho, resolve, invoke, builtin, hxe, Builtin.cap_, hts, run_underlying ((X.get hT).sl hd), goInt], .k _⟩
theorem Does.cutNil {P : Program} {o : Oper} {env : Env} {T e : Nat} {x : Operand} {hi : Option Operand} (X : TOk P) {ti ei : TI} (ho : o.op = .slice T x none hi none) (hx : evo env x = some .nil) (hT : aget X.tab T = some ti) (hd : ti.d = .sl e) (hE : aget X.tab e = some ei) (hhi : Bd env 0 hi 0) : Does P o env .nil [] :=
  .pure fun F g a w mem hr _ => by
    have hr0 := hr x (by simp [ho, Op.operands]) _ hx
    have hxe : a.eval x = .slice none 0 0 := by generalize a.eval x = v at hr0; cases hr0; rfl
    have b2 := hhi.val (a := a) (fun y hy u hu => hr y (by subst hy; simp [ho, Op.operands]) u hu)
    have := run_cutG (P := P) (a := none) (n := 0) (cap := 0) ((X.get hT).sl hd) (X.get hE).run_size (.inl ⟨rfl, rfl⟩) b2 (Nat.zero_le _) (Nat.zero_le _) w
    rw [hxe] at hr0
    refine ⟨.slice none 0 0, ?_, hr0⟩
    simp [execOp, ho, hxe, this]
/-- A contract that hands back nil hands back the beginning of a row. -/
theorem LM.nilrow {P : Program} {f : Nat} {args : List V} (E sz k : Nat) (hp : Nat.blt 0 sz = true) (h : LM P f args [] fun o m => o = .ret .nil ∧ m = []) : LM P f args [] fun o m => o = .ret (.s (some k) []) ∧ m = [(k, .r E sz 0)] :=
  ⟨h.ok, fun g w vals h1 h2 h3 => Calls.mono (h.go g w vals h1 h2 h3) fun e w' ⟨o, mo, g', ⟨ho, hm⟩, hev, hrel, hk, hat⟩ => by
    subst ho; subst hm
    have hown0 : w'.oRow 0 E sz (.slice (Option.map (fun b => (⟨b, 0, none⟩ : Addr)) none) 0 0) 0 [] := oRow_nil w' 0 E sz
    have hgi : (g'.addRow k (none, 0, 0)).rw k = some (none, 0, 0) := by simp [Gh.addRow]
    obtain ⟨he, r2, r3⟩ := hrel.nilRow hk (i := k) (m := .r E sz 0) rfl (.r hgi ⟨Nat.le_of_ble_eq_true hp, ⟨_, hown0⟩, fun _ h => by cases h⟩) fun b o ⟨l, c, hp⟩ => by rw [hgi] at hp; cases hp
    obtain ⟨x, hx, hrep⟩ := hat
    cases hrep
    exact ⟨_, _, _, ⟨rfl, rfl⟩, hev.trans he, r2, r3, ⟨_, hx, .s0 fun r hr' => by cases hr'; exact ⟨none, 0, 0, hgi, Nat.le_refl _, fun _ => .inl rfl⟩⟩⟩⟩
end Lf
end Go.Proofs.Ytpchigdcikknmaa

/- Concat of bytes. -/
namespace Go.Proofs.Ytpchigdcikknmaa
open Go.RowKit Rg
set_option linter.unusedVariables false
set_option maxRecDepth 100000
namespace Lf
abbrev bV (l : List UInt8) : V := .s none (l.map bK)
theorem flat_take {α : Type} {ls : List (List α)} {i : Nat} (h : i < ls.length) : (ls.take (i + 1)).flatten = (ls.take i).flatten ++ ls.getD i default := by
  rw [List.take_succ_eq_append_getElem h, List.flatten_append]
  simp [List.getD, h]
theorem flat_takeL {α : Type} {ls : List (List α)} {i : Nat} (h : i < ls.length) : (ls.take (i + 1)).flatten.length = (ls.take i).flatten.length + (ls.getD i default).length := by rw [flat_take h, List.length_append]
theorem flat_le {α : Type} {ls : List (List α)} {i : Nat} : (ls.take i).flatten.length ≤ ls.flatten.length := by
  have e : ls = ls.take i ++ ls.drop i := (List.take_append_drop i ls).symm
  have : ls.flatten.length = (ls.take i).flatten.length + (ls.drop i).flatten.length := by
    rw [← List.length_append, ← List.flatten_append, List.take_append_drop]
  omega
end Lf
end Go.Proofs.Ytpchigdcikknmaa

/- Loops over a function's values: the call of the round, the round, the loop. -/
namespace Go.Proofs.Ytpchigdcikknmaa
open Go.RowKit Rg
namespace Lf
/-- The ghost at the frame's start. -/
def Fr0.gh (F : Fr0) : Gh := ⟨F.S0, F.bx0, F.rw0⟩
theorem ev_start {F : Fr0} {g : Gh} {mem : Mem} {w : World} (hm : RelM F g mem w) (hk : Kept F g w) : Ev F.gh F.w0 g w :=
  ⟨hk.size, fun b o hb hs => ⟨hk.S2 b o hb hs, hk.cellS b o hb hs⟩, hm.loc.bx, hm.loc.rw⟩
theorem ev_only {g0 g : Gh} {w0 w : World} {mi : Mem} (h : Ev g0 w0 g w) (hk : ∀ i, aget mi i = none → g0.bx i = none ∧ g0.rw i = none) : Ev g0 w0 (g.only mi) w := by
  refine ⟨h.size, h.st, fun i z hz => ?_, fun i a l c hr => ?_⟩
  · have : (aget mi i).isSome = true := by
      cases hi : aget mi i with
      | some m => rfl
      | none => rw [(hk i hi).1] at hz; cases hz
    simp only [Gh.only]; rw [if_pos this]; exact h.bx i z hz
  · have : (aget mi i).isSome = true := by
      cases hi : aget mi i with
      | some m => rfl
      | none => rw [(hk i hi).2] at hr; cases hr
    obtain ⟨a', l', c', k1, k2⟩ := h.rw i a l c hr
    exact ⟨a', l', c', by simp only [Gh.only]; rw [if_pos this]; exact k1, k2⟩
section
variable {P : Program}
/-- The contract of a loop's round as the iterator calls it: from some state on (ghost and world). -/
structure LY (P : Program) (g0 : Gh) (w0 : World) (y : Nat) (args : List V) (mi : Mem) (R : Out → Mem → Prop) : Prop where
  go : ∀ (g : Gh) (w : World) (vals : Array Value) (l o : Nat), Ev g0 w0 g w → RelM (lentF g mi w) g mi w → g.bx y = some (l, o) → args.length = vals.size → (∀ (j : Nat) u x, args[j]? = some u → vals[j]? = some x → Rep w g u x) →
    YieldAt Fence.wide 0 P l vals w fun e w' => ∃ q mo g', R q mo ∧ Ev g w g' w' ∧ RelM (lentF g mi w) g' mo w' ∧ Kept (lentF g mi w) g' w' ∧ q.At w' g' e
theorem round_any {F : Fr0} {m l f : Nat} {tmps : Array Value} {assign body : Code} {w : World} {R : Ending → World → Prop} (h : RoundIn Fence.wide m P l f tmps assign body w R) (n : Nat) : RoundIn F.fz n P l f tmps assign body w R :=
  ⟨trivial, fun c cs _ => h.2 c cs (room_wide _)⟩
theorem exec_yield {o : Oper} {l fn : Nat} {f : Operand} {xs : List Operand} {ts : Array Nat} {tmps : Array Value} {assign body : Code} (ho : o.op = .call { callee := .value f, args := xs.toArray, argTypes := ts }) (a : Act) (w : World) (hf : a.eval f = .func (.yield l) #[] #[])
    (hy : (Instr.yield l (xs.map a.eval).toArray).run P w = .ok (.round l fn tmps assign body) w) : (execOp a.eval o).run P w = .ok (.round l fn tmps assign body) w := by
  have hy' : (Instr.yield l (xs.toArray.map a.eval)).run P w = .ok (.round l fn tmps assign body) w := by simpa using hy
  simp [execOp, ho, resolve, hf, Deferred.ofValue, invoke]
  exact hy
/-- The iterator calls the round. -/
theorem DoesF.yield {F : Fr0} {o : Oper} {env : Env} {y : Nat} {f : Operand} {xs : List Operand} {ts : Array Nat} {us args : List V} {mi mo : Mem} {v : V} (hc : LY P F.gh F.w0 y args mi fun q m => q = .ret v ∧ m = mo)
    (ho : o.op = .call { callee := .value f, args := xs.toArray, argTypes := ts }) (hf : evo env f = some (.y y)) (hx : evs env xs = some us) (hu : Fits us args) (hr : (V.refs.go mi args && (refsM mi mi && keysOk mi mo)) = true) (hy : (aget mi y).isSome = true) (hk : ∀ i, aget mi i = none → F.bx0 i = none ∧ F.rw0 i = none) : DoesF P F o env v (callT mi mo) := by
  refine ⟨fun F0 hx0 g a w mem h1 h2 h3 h4 hd K Q hK => ?_⟩
  simp only [Bool.and_eq_true] at hr
  obtain ⟨l1, l2⟩ := args_rep (fun x hxm u hxu => h1 x (by simp [ho, Op.operands, Call.operands]; exact .inr hxm) u hxu) hx hu
  obtain ⟨t1, t2⟩ := tpre_call h4 hr.2.2
  have hfv := h1 f (by simp [ho, Op.operands, Call.operands]) _ hf
  obtain ⟨l, o', hb, hfe⟩ : ∃ l o', g.bx y = some (l, o') ∧ a.eval f = .func (.yield l) #[] #[] := by
    generalize a.eval f = z at hfv
    cases hfv with
    | y h => exact ⟨_, _, h, rfl⟩
  have hrel : RelM (lentF (g.only mi) mi w) (g.only mi) mi w := h2.sub t1 hr.2.1 ⟨(show TabAt w g.S from h2.loc.tab.kept h3), fun _ _ h => h, fun _ a l c h => ⟨a, l, c, h, Nat.le_refl _, fun _ => ⟨rfl, rfl⟩⟩⟩ fun i m b o hi hp => .inr ⟨i, m, hi, (fp_congr (only_at hi).1 (only_at hi).2).2 hp⟩
  have hev : Ev F.gh F.w0 (g.only mi) w := ev_only (ev_start (hx0.relM h2) (hx0.kept _ _ h3)) hk
  have hby : (g.only mi).bx y = some (l, o') := by simp only [Gh.only]; rw [if_pos hy]; exact hb
  obtain ⟨fn, tmps, assign, body, hrun, hround⟩ := hc.go (g.only mi) w _ l o' hev hrel hby l1 fun j u x hj hxj => (l2 j u x hj hxj).only (refs_go hr.1 u (List.mem_of_getElem? hj))
  refine ⟨fun _ _ => trivial, ?_⟩
  rw [Oper.semAt_eq _ _ _ (fun c e => by rw [ho] at e; cases e), exec_yield ho a w hfe hrun, Oper.uponIn_round]
  refine ⟨fun h => (by cases h), RoundIn.mono (round_any hround _) ?_⟩
  rintro e w' ⟨q, mo', g', ⟨rfl, rfl⟩, he, hm', hk', x, rfl, hat⟩
  obtain ⟨g2, k1, k2, k3, k4⟩ := call_state h2 h3 t1 hr.2.2 t2 he hm' hk'
  exact hK x g2 w' k1 (by rw [tset_call]; exact k2) k3 (k4 _ _ hat)
/-- The contract of an iterator: it asks that the rounds have theirs. -/
structure LI (P : Program) (f : Nat) (args : List V) (mi : Mem) (Y : Gh → World → Prop) (R : Out → Mem → Prop) : Prop where
  ok : callOk P f = true
  go : ∀ (g : Gh) (w : World) (vals : Array Value), Y g w → RelM (lentF g mi w) g mi w → args.length = vals.size → (∀ (j : Nat) u x, args[j]? = some u → vals[j]? = some x → Rep w g u x) →
    Calls P f vals w fun e w' => ∃ o mo g', R o mo ∧ Ev g w g' w' ∧ RelM (lentF g mi w) g' mo w' ∧ Kept (lentF g mi w) g' w' ∧ o.At w' g' e
theorem LI.enter (X : TOk P) {f N : Nat} {fn : Func} {c : Code} {args : List V} {rs : List ResultVar} {mi : Mem} {Y : Gh → World → Prop} {R : Out → Mem → Prop} (hf : P.funcs[f]? = some fn) (hb : fn.body = some c) (hN : fn.ntmps = N) (hrs : fn.results = rs.toArray) (hok : callOk P f = true)
    (hle : Nat.ble args.length N = true) (hrl : Nat.ble rs.length 3 = true) (hbig : (mi.all fun x => Nat.ble 1000 x.1) = true) (hks : ∀ o mo, R o mo → keysOk mi mo = true) (h : ∀ F, F.D = [] → Y F.gh F.w0 → (∀ i, aget mi i = none → F.bx0 i = none ∧ F.rw0 i = none) → LC P F N c (LRet X rs R) (params 0 args) mi) : LI P f args mi Y R :=
  ⟨hok, fun _ _ _ hY hm hl hr => enter_core X hf hb hN hrs hle hrl hbig hks hm hl hr false (h _ rfl hY fun i hi => ⟨hm.nbx i hi, hm.nrw i hi⟩)⟩
end
end Lf
end Go.Proofs.Ytpchigdcikknmaa

/- A loop over a function's values: the round's contract out of its walk; the loop itself. -/
namespace Go.Proofs.Ytpchigdcikknmaa
open Go.RowKit Rg
namespace Lf
section
variable {P : Program} {F : Fr0} {g : Gh} {mem : Mem} {w : World}
theorem relM_ro {ro : Option Nat} {mk : Bool} (h : RelM F g mem w) : RelM { F with ro := ro, lm := mk } g mem w := ⟨h.ob, h.wr, h.dj, h.nbx, h.nrw, h.fut, ⟨h.loc.tab, h.loc.bx, h.loc.rw⟩⟩
theorem relM_or {ro : Option Nat} {mk : Bool} (h : RelM { F with ro := ro, lm := mk } g mem w) : RelM F g mem w := ⟨h.ob, h.wr, h.dj, h.nbx, h.nrw, h.fut, ⟨h.loc.tab, h.loc.bx, h.loc.rw⟩⟩
theorem kept_or {ro : Option Nat} {mk : Bool} (h : Kept { F with ro := ro, lm := mk } g w) : Kept F g w := ⟨h.os, h.tape, h.output, h.size, h.blk, h.cell, h.S1, h.S2, h.cellS⟩
/-- The record of a loop. -/
def recL (fn : Nat) (tmps : Array Value) (ps : Array Tmp) (assign body : Code) (D : Nat) (st : LoopState) (pe : Option Code) : Loop := { state := st, pending := pe, fn, tmps, params := ps, assign, body, defers := D }
abbrev LoF := LoopState → Option Code → Obj
/-- How a round is left: it goes on; or it leaves a jump. -/
def LRnd (lo : LoF) (y : Nat) (R : Bool → Mem → Prop) : LQ
  | .normal, _, mem => aget mem y = some (.o (lo .busy none)) ∧ ∃ mo, SubM ((y, .o (lo .ready none)) :: mem) mo ∧ refsM mo mo = true ∧ R true mo
  | .exit id, _, mem => aget mem y = some (.o (lo .busy none)) ∧ ∃ mo, SubM ((y, .o (lo .done (some (.exit id)))) :: mem) mo ∧ refsM mo mo = true ∧ R false mo
  | .ret, _, mem => aget mem y = some (.o (lo .busy none)) ∧ ∃ mo, SubM ((y, .o (lo .done (some .ret))) :: mem) mo ∧ refsM mo mo = true ∧ R false mo
  | _, _, _ => False
/-- The assignment ahead of a round, then the round. -/
def LAs (P : Program) (F : Fr0) (N : Nat) (body : Code) (lo : LoF) (y : Nat) (R : Bool → Mem → Prop) : LQ
  | .normal, env, mem => aget mem y = some (.o (lo .ready none)) ∧ LC P F N body (LRnd lo y R) env ((y, .o (lo .busy none)) :: mem)
  | _, _, _ => False
/-- A loop's record is turned. -/
theorem set_rec (hm : RelM F g mem w) (hk : Kept F g w) {y l o : Nat} {r : Loop} {r' : Loop} (hb : g.bx y = some (l, o)) (hi : aget mem y = some (.o (.loop r))) :
    w.heap[l]? = some (.loop r) ∧ Ev g w g (w.putObj l (.loop r')) ∧ RelM F g ((y, .o (.loop r')) :: mem) (w.putObj l (.loop r')) ∧ Kept F g (w.putObj l (.loop r')) := by
  cases hm.ob y _ hi with
  | o hg h hS =>
    rw [hb] at hg
    cases hg
    have hlt := (Array.getElem?_eq_some_iff.1 h).1
    exact ⟨h, hm.setO hk (m' := .o (.loop r')) (ob := .loop r') hi (fun _ _ => Iff.rfl) hb hS rfl rfl rfl rfl (fun _ => .o hb (World.putObj_heap_same hlt) hS) (fun _ _ hp => hp)⟩
theorem end_round {mi mo mem1 : Mem} {w0 w1 : World} {g0 g1 : Gh} (b : Bool) {R : Bool → Mem → Prop} (h0 : RelM (lentF g0 mi w0) g0 mi w0) (hm : RelM (lentF g0 mi w0) g1 mem1 w1) (hk : Kept (lentF g0 mi w0) g1 w1) (hs : SubM mem1 mo) (hr : refsM mo mo = true) (hko : keysOk mi mo = true) (hR : R b mo) :
    ∃ q mo g', (∃ b, q = Out.ret (.k (.bool b)) ∧ R b mo) ∧ Ev g0 w0 g' w1 ∧ RelM (lentF g0 mi w0) g' mo w1 ∧ Kept (lentF g0 mi w0) g' w1 ∧ q.At w1 g' (.returned (.bool b)) := by
  have ht : Tells mem1 (.k (.bool b)) (.k (.bool b)) mo := ⟨⟨fun _ => true, false, rfl⟩, hs, by rw [hr]; rfl⟩
  obtain ⟨r1, r2, r3, r4⟩ := ht.rep rfl hko h0 (Rep.k (.bool b)) hm hk
  exact ⟨.ret (.k (.bool b)), mo, _, ⟨b, rfl, hR⟩, r4, r2, r3, .bool b, rfl, r1⟩
/-- A round's contract, out of its walk. -/
theorem LY.round {N y p fn D : Nat} {tmps : Array Value} {assign body : Code} {env : Env} {v : V} {mi : Mem} {g0 : Gh} {w0 : World} {R : Bool → Mem → Prop} (hN : tmps.size = N) (henv : ∀ t u, aget env t = some u → ∃ x, tmps[t]? = some x ∧ Rep w0 g0 u x)
    (hp : Nat.blt p N = true) (hbig : (mi.all fun x => Nat.ble 1000 x.1) = true) (hmi : aget mi y = some (.o (.loop (recL fn tmps #[p] assign body D .ready none)))) (hks : ∀ b m, R b m → keysOk mi m = true)
    (h : ∀ F, F.D = [] → LC P F N assign (LAs P F N body (fun st pe => .loop (recL fn tmps #[p] assign body D st pe)) y R) ((p, v) :: env) mi) :
    LY P g0 w0 y [v] mi fun q m => ∃ b, q = .ret (.k (.bool b)) ∧ R b m := by
  refine ⟨fun g w vals l o hev hm hb hl hr => ?_⟩
  have hpN : p < N := Nat.le_of_ble_eq_true hp
  obtain ⟨hrec, _, _, _⟩ := set_rec (F := lentF g mi w) (r' := recL fn tmps #[p] assign body D .ready none) hm ⟨rfl, rfl, rfl, Nat.le_refl _, fun _ _ _ => rfl, fun _ _ _ _ => ⟨rfl, rfl⟩, fun _ _ _ _ h => h, fun _ _ _ h => h, fun _ _ _ _ => rfl⟩ hb hmi
  obtain ⟨x, hvals⟩ : ∃ x, vals = #[x] := by
    obtain ⟨l⟩ := vals
    match l, hl with
    | [x], _ => exact ⟨x, rfl⟩
  subst hvals
  have hx : Rep w g v x := hr 0 v x rfl rfl
  refine ⟨fn, _, assign, body, run_yield hrec (by rfl), roundIn_of_wpIn trivial ?_⟩
  let FR : Fr0 := { lentF g mi w with ro := some l, lm := false }
  have hbg : FR.Big := fun i hi => by
    have : aget mi i = none := by
      cases hg : aget mi i with
      | none => rfl
      | some m =>
        have h1 := Nat.le_of_ble_eq_true (List.all_eq_true.1 hbig _ (aget_mem hg))
        exact absurd h1 (by simp; omega)
    exact ⟨hm.nbx i this, hm.nrw i this⟩
  have hrel : Rel FR N g ((p, v) :: env) mi { tmps := tmps.setIfInBounds p x, defers := [] } w := by
    refine ⟨fun t u hu => ?_, relM_ro hm, ⟨rfl, rfl, rfl, Nat.le_refl _, fun _ _ _ => rfl, fun _ _ _ _ => ⟨rfl, rfl⟩, fun _ _ _ _ h => h, fun _ _ _ h => h, fun _ _ _ _ => rfl⟩, rfl, by simpa using hN, hbg⟩
    rw [aget_cons] at hu
    split at hu
    · rename_i e; subst e; cases hu; exact ⟨x, by simp [hN, hpN], hx⟩
    · rename_i e
      obtain ⟨z, h1, h2⟩ := henv t u hu
      exact ⟨z, by rw [Array.getElem?_setIfInBounds_ne e]; exact h1, h2.mono hev⟩
  have hbl : ∀ g' w', Kept FR g' w' → LocOk FR g' → g'.bx y = some (l, o) := fun g' w' _ hL => hL.bx y _ hb
  have hfold : (((recL fn tmps #[p] assign body D .ready none).params.zip #[x]).foldl (fun t (q : Tmp × Value) => match q with | (t0, a) => t.setIfInBounds t0 a) (recL fn tmps #[p] assign body D .ready none).tmps) = tmps.setIfInBounds p x := by simp [recL]
  show assign.wpIn _ 0 P _ { tmps := (((recL fn tmps #[p] assign body D .ready none).params.zip #[x]).foldl (fun t (q : Tmp × Value) => match q with | (t0, a) => t.setIfInBounds t0 a) (recL fn tmps #[p] assign body D .ready none).tmps), defers := [] } w
  rw [hfold]
  refine wpIn_mono ((h FR rfl).go FR (.refl _) g _ w hrel) fun e a1 w1 ⟨F1, hF1, env1, mem1, g1, le, r1, r3, r2⟩ => ?_
  obtain rfl := hF1.same rfl
  cases le with
  | exit _ => exact r2.elim
  | goto _ => exact r2.elim
  | ret => exact r2.elim
  | pan _ => exact r2.elim
  | normal =>
  cases r3
  obtain ⟨hm1, hbody⟩ := r2
  obtain ⟨q1, q2, q3, q4⟩ := set_rec (r' := recL fn tmps #[p] assign body D .busy none) r1.mem r1.kept (hbl _ _ r1.kept r1.mem.loc) hm1
  refine ⟨_, run_beginRound q1 rfl, ?_⟩
  have hrel2 : Rel FR N g1 env1 ((y, .o (.loop (recL fn tmps #[p] assign body D .busy none))) :: mem1) a1 (w1.putObj l (.loop (recL fn tmps #[p] assign body D .busy none))) :=
    ⟨fun t u hu => by obtain ⟨z, h1, h2⟩ := r1.env t u hu; exact ⟨z, h1, h2.mono q2⟩, q3, q4, r1.defers, r1.size, r1.big⟩
  refine wpIn_mono (hbody.go FR (.refl _) g1 a1 _ hrel2) fun e a2 w2 ⟨F2, hF2, env2, mem2, g2, le, s1, s3, s2⟩ => ?_
  obtain rfl := hF2.same rfl
  have fin : ∀ (b : Bool) (pe : Option Code) (st : LoopState), aget mem2 y = some (.o (.loop (recL fn tmps #[p] assign body D .busy none))) → (∃ mo, SubM ((y, .o (.loop (recL fn tmps #[p] assign body D st pe))) :: mem2) mo ∧ refsM mo mo = true ∧ R b mo) → b = pe.isNone → st = (if pe.isNone then .ready else .done) →
      ∃ v w', (Instr.endRound l pe).run P w2 = .ok v w' ∧ ∃ q mo g', (∃ b, q = Out.ret (.k (.bool b)) ∧ R b mo) ∧ Ev g w g' w' ∧ RelM (lentF g mi w) g' mo w' ∧ Kept (lentF g mi w) g' w' ∧ q.At w' g' (.returned v) := by
    rintro b pe st hy2 ⟨mo, t1, t2, t3⟩ rfl rfl
    obtain ⟨u1, u2, u3, u4⟩ := set_rec (r' := recL fn tmps #[p] assign body D (if pe.isNone then .ready else .done) pe) s1.mem s1.kept (hbl _ _ s1.kept s1.mem.loc) hy2
    exact ⟨_, _, run_endRound pe u1, end_round pe.isNone hm (relM_or u3) (kept_or u4) t1 t2 (hks _ _ t3) t3⟩
  cases le with
  | normal => cases s3; exact fin true none .ready s2.1 s2.2 rfl rfl
  | exit id => cases s3; exact fin false (some (.exit id)) .done s2.1 s2.2 rfl rfl
  | ret => cases s3; exact fin false (some .ret) .done s2.1 s2.2 rfl rfl
  | goto _ => exact s2.elim
  | pan _ => exact s2.elim
/-- The record as it is when the rounds are over: ready, or done with an exit pending. -/
def endO (lo : LoF) (id : Nat) (b : Bool) : Obj := cond b (lo .ready none) (lo .done (some (.exit id)))
/-- **A loop over a function's values.** The memory is told by a state; a round goes on or leaves by the exit id; the iterator's contract runs through the rounds. -/
theorem LC.range {F : Fr0} {N gf p y id : Nat} {Q : LQ} {env : Env} {mem m1 : Mem} {g : Operand} {assign body : Code} {caps : List V} {σ α : Type} (ok : σ → α → Prop) (va : α → V) (ms : σ → Mem) (go : σ → α → Bool) (nx : σ → α → σ) (fin : Bool)
    (hlm : F.lm = true) (hro : F.ro = none) (hg : evo env g = some (.f (.func gf) [] caps)) (hp : Nat.blt p N = true) (hy : aget mem y = none) (hyb : Nat.ble 1000 y = true)
    (hre : ∀ ob, (refsE ((y, .o ob) :: mem) env && (refsM ((y, .o ob) :: mem) ((y, .o ob) :: mem) && V.refs.go ((y, .o ob) :: mem) (.y y :: caps))) = true)
    (hbig : ∀ s, ((ms s).all fun x => Nat.ble 1000 x.1) = true) (hks : ∀ (s : σ) (x : α), ok s x → ∀ ob ob', keysOk ((y, .o ob) :: ms s) ((y, .o ob') :: ms (nx s x)) = true)
    (rounds : ∀ (lo : LoF) FR, FR.D = [] → ∀ s x, ok s x → LC P FR N assign (LAs P FR N body lo y (fun b m => b = go s x ∧ m = (y, .o (endO lo id (go s x))) :: ms (nx s x))) ((p, va x) :: env) ((y, .o (lo .ready none)) :: ms s))
    (iter : ∀ lo : LoF, LI P gf (.y y :: caps) ((y, .o (lo .ready none)) :: mem) (fun g w => ∀ s x, ok s x → LY P g w y [va x] ((y, .o (lo .ready none)) :: ms s) fun q m => q = .ret (.k (.bool (go s x))) ∧ m = (y, .o (endO lo id (go s x))) :: ms (nx s x)) fun q m => q = .ret (.t []) ∧ m = (y, .o (endO lo id fin)) :: m1)
    (hk1 : ∀ ob ob', keysOk ((y, .o ob) :: mem) ((y, .o ob') :: m1) = true) (hr1 : (refsE ((y, .x) :: m1) env && refsM ((y, .x) :: m1) ((y, .x) :: m1)) = true)
    (done : fin = true → Q .normal env ((y, .x) :: m1)) (stop : fin = false → Q (.exit id) env ((y, .x) :: m1)) : LC P F N (.rangeFunc g #[p] assign body) Q env mem := by
  refine ⟨fun F0 hx0 gh a w hr => ?_⟩
  have hgv := hr.evo hg
  obtain ⟨lb, hlb, hge, hcaps⟩ : ∃ lb : Array Value, caps.length = lb.size ∧ a.eval g = .func (.func gf) #[] lb ∧ ∀ (j : Nat) u x, caps[j]? = some u → lb[j]? = some x → Rep w gh u x := by
    generalize a.eval g = z at hgv
    cases hgv with
    | @f _ _ _ _ vs us h1 h2 hf hc =>
      have : vs = #[] := Array.eq_empty_of_size_eq_zero (by simpa using h1.symm)
      subst this
      exact ⟨us, h2, rfl, hc⟩
  have hro0 : F0.fz.round = none := hx0.ro.trans hro
  refine wpIn_rangeFunc fun fn _ => ?_
  rw [hro0]
  have hx : Ext w (w.alloc (.deferred (some []))) := Below.alloc (Below.refl _ w) (Nat.le_refl _) _
  obtain ⟨v1, m2, k2⟩ := hr.mem.ext (g' := gh) hr.kept hx (fun _ _ _ => Iff.rfl) rfl rfl (fun b o hb => hr.mem.fut b o (by have := World.size_alloc w (.deferred (some [])); omega))
  have hsz : (w.alloc (.deferred (some []))).heap.size = w.heap.size + 1 := World.size_alloc _ _
  have hDn : (w.alloc (.deferred (some []))).heap[w.heap.size]? = some (.deferred (some [])) := World.alloc_heap_new w _
  let F1 : Fr0 := { w0 := w.alloc (.deferred (some [])), S0 := gh.S, B := fun b o => ∃ i m, aget mem i = some m ∧ fp gh i m b o, bx0 := F0.bx0, rw0 := F0.rw0, D := markD w.heap.size :: F0.D, ro := F0.ro, lm := F0.lm }
  have hB : ∀ b o, F1.B b o → F0.wr b o := fun b o ⟨i, m, hi, hp⟩ => hr.mem.wr i m b o hi hp
  have hDB : ∀ o, ¬ F1.wr w.heap.size o := fun o ho => by
    rcases ho with ho | ⟨i, m, hi, hp⟩
    · have : w.heap.size + 1 ≤ w.heap.size := by rw [← hsz]; exact ho
      omega
    · have := (hr.mem.ob i m hi).lt hp; omega
  have hE : F0.Ext F1 := by
    refine ⟨fun e => ?_, rfl, rfl, rfl, rfl, fun b o hb => ?_, Nat.le_trans hr.kept.size (by show _ ≤ (w.alloc _).heap.size; omega), fun g' hL => ⟨hr.mem.loc.tab, hL.bx, hL.rw⟩, fun g' w' hk => ?_, [w.heap.size], rfl, by simp, fun D hD => ?_⟩
    · rw [hx0.lm, hlm] at e; cases e
    · rcases hb with hb | hb
      · refine .inl (Nat.le_trans hr.kept.size ?_)
        have h1 : w.heap.size + 1 ≤ b := by rw [← hsz]; exact hb
        omega
      · exact hB b o hb
    · have hlt : ∀ b, b < F0.w0.heap.size → b < F1.w0.heap.size := fun b hb => by show b < (w.alloc _).heap.size; have := hr.kept.size; omega
      have hn : ∀ b o, b < F0.w0.heap.size → ¬ F0.B b o → ¬ F1.B b o := fun b o hb hnb hb1 => by
        rcases hB b o hb1 with h | h
        · omega
        · exact hnb h
      refine ⟨hk.os.trans k2.os, hk.tape.trans k2.tape, hk.output.trans k2.output, Nat.le_trans k2.size hk.size, fun b hb hnb => (hk.blk b (hlt b hb) fun o => hn b o hb (hnb o)).trans (k2.blk b hb hnb), fun b o hb hnb => ?_, fun b o hb hnb hs => k2.S1 b o hb hnb (hk.S1 b o (hlt b hb) (hn b o hb hnb) hs), fun b o hb hs => hk.S2 b o (hlt b hb) (k2.S2 b o hb hs), fun b o hb hs => (hk.cellS b o (hlt b hb) (k2.S2 b o hb hs)).trans (k2.cellS b o hb hs)⟩
      obtain ⟨c1, c2⟩ := hk.cell b o (hlt b hb) (hn b o hb hnb)
      obtain ⟨d1, d2⟩ := k2.cell b o hb hnb
      exact ⟨c1.trans d1, c2.trans d2⟩
    · have : D = w.heap.size := by simpa using hD
      subst this
      exact ⟨hr.kept.size, by show _ < (w.alloc _).heap.size; omega, hDB, hDn⟩
  have mF : RelM F1 gh mem (w.alloc (.deferred (some []))) := ⟨m2.ob, fun i m b o hi hp => .inr ⟨i, m, hi, hp⟩, m2.dj, m2.nbx, m2.nrw, m2.fut, ⟨(show TabAt (w.alloc _) gh.S from m2.loc.tab.kept k2), m2.loc.bx, m2.loc.rw⟩⟩
  have kF : Kept F1 gh (w.alloc (.deferred (some []))) := ⟨rfl, rfl, rfl, Nat.le_refl _, fun _ _ _ => rfl, fun _ _ _ _ => ⟨rfl, rfl⟩, fun _ _ _ _ h => h, fun _ _ _ h => h, fun _ _ _ _ => rfl⟩
  obtain ⟨g1, hb1, v3, m3, k3⟩ := mF.newO kF (i := y) (ob := .loop (recL fn a.tmps #[p] assign body w.heap.size .ready none)) hy
  let lo : LoF := fun st pe => .loop (recL fn a.tmps #[p] assign body w.heap.size st pe)
  have hre' := hre (lo .ready none)
  simp only [Bool.and_eq_true] at hre'
  obtain ⟨hre1, hre2, hre3⟩ := hre'
  have vv : Ev gh w g1 ((w.alloc (.deferred (some []))).alloc (lo .ready none)) := v1.trans v3
  have hy1 : aget ((y, M.o (lo .ready none)) :: mem) y = some (.o (lo .ready none)) := aget_self ..
  have hrel : RelM (lentF (g1.only ((y, .o (lo .ready none)) :: mem)) ((y, .o (lo .ready none)) :: mem) ((w.alloc (.deferred (some []))).alloc (lo .ready none))) (g1.only ((y, .o (lo .ready none)) :: mem)) ((y, .o (lo .ready none)) :: mem) ((w.alloc (.deferred (some []))).alloc (lo .ready none)) :=
    m3.sub (fun _ _ h => h) hre2 ⟨(show TabAt _ g1.S from m3.loc.tab.kept k3), fun _ _ h => h, fun _ a l c h => ⟨a, l, c, h, Nat.le_refl _, fun _ => ⟨rfl, rfl⟩⟩⟩ fun i m b o hi hp => .inr ⟨i, m, hi, (fp_congr (only_at hi).1 (only_at hi).2).2 hp⟩
  have hYs : ∀ s x, ok s x → LY P (g1.only ((y, .o (lo .ready none)) :: mem)) ((w.alloc (.deferred (some []))).alloc (lo .ready none)) y [va x] ((y, .o (lo .ready none)) :: ms s) fun q m => q = .ret (.k (.bool (go s x))) ∧ m = (y, .o (endO lo id (go s x))) :: ms (nx s x) := by
    intro s x hok
    have h1 := LY.round (P := P) (N := N) (y := y) (p := p) (fn := fn) (D := w.heap.size) (tmps := a.tmps) (assign := assign) (body := body) (env := env) (v := va x) (mi := (y, .o (lo .ready none)) :: ms s) (g0 := g1.only ((y, .o (lo .ready none)) :: mem)) (w0 := (w.alloc (.deferred (some []))).alloc (lo .ready none))
      (R := fun b m => b = go s x ∧ m = (y, .o (endO lo id (go s x))) :: ms (nx s x)) hr.size (fun t u hu => by obtain ⟨z, e1, e2⟩ := hr.env t u hu; exact ⟨z, e1, (e2.mono vv).only (refsE_get hre1 hu)⟩) hp (by rw [List.all_cons, hbig s]; simpa using hyb) (aget_self ..) (fun b m ⟨_, e⟩ => by rw [e]; exact hks s x hok _ _) (fun FR hFR => rounds lo FR hFR s x hok)
    refine ⟨fun g w vals l o a1 a2 a3 a4 a5 => ?_⟩
    obtain ⟨fn', tmps', asg, bo, b1, b2⟩ := h1.go g w vals l o a1 a2 a3 a4 a5
    refine ⟨fn', tmps', asg, bo, b1, b2.mono ?_⟩
    rintro e w' ⟨q, mo, g', ⟨b, rfl, rfl, rfl⟩, r⟩
    exact ⟨_, _, g', ⟨rfl, rfl⟩, r⟩
  have hok := (iter lo).ok
  refine ⟨w.heap.size + 1, [markD w.heap.size], (w.alloc (.deferred (some []))).alloc (lo .ready none), { target := .fn (.func gf) lb, args := #[.func (.yield (w.heap.size + 1)) #[] #[]] }, (w.alloc (.deferred (some []))).alloc (lo .ready none), gf, #[.func (.yield (w.heap.size + 1)) #[] #[]] ++ lb, (w.alloc (.deferred (some []))).alloc (lo .ready none), run_enterLoop_outer _ _ _ _ _, ?_, fun _ _ => trivial, ?_, fun h => (by cases h), ?_⟩
  · simp only [resolve, hge]
    simp [Deferred.ofValue, Act.eval]
  · unfold callOk at hok
    split at hok
    · rename_i fn' hfn
      simp only [Bool.and_eq_true, Bool.not_eq_true'] at hok
      have hn : ¬ fn'.body = none := by cases hb : fn'.body <;> simp_all
      have hm : ¬ fn'.name = "runtime.NumGoroutine" := by simpa using hok.1
      simp [invoke, callFunc, hfn, hm, hn]
    · cases hok
  have hargs : ∀ (j : Nat) u x, (V.y y :: caps)[j]? = some u → (#[Value.func (.yield (w.heap.size + 1)) #[] #[]] ++ lb)[j]? = some x → Rep ((w.alloc (.deferred (some []))).alloc (lo .ready none)) (g1.only ((y, .o (lo .ready none)) :: mem)) u x := fun j u x hj hxj => by
    refine Rep.only ?_ (refs_go hre3 u (List.mem_of_getElem? hj))
    cases j with
    | zero =>
      simp at hj; subst hj
      rw [Array.getElem?_append_left (by simp)] at hxj
      simp at hxj; subst hxj
      exact .y (o := 0) (by rw [hb1, hsz])
    | succ j =>
      simp at hj
      rw [Array.getElem?_append_right (by simp)] at hxj
      simp at hxj
      exact (hcaps j u x hj hxj).mono vv
  refine calls_in (Calls.mono ((iter lo).go _ _ _ hYs hrel (by simp; omega) hargs) ?_)
  rintro e w3 ⟨q, mo, g3, ⟨rfl, rfl⟩, he, hm3, hk3, x, rfl, _⟩
  obtain ⟨g2, E, RM, K, _⟩ := call_state m3 k3 (fun _ _ h => h) (hk1 _ _) (fun _ _ _ h => h) he hm3 hk3
  have hby : g2.bx y = some (w.heap.size + 1, 0) := by rw [← hsz]; exact E.bx y _ hb1
  have hyo : aget ((y, M.o (endO lo id fin)) :: m1 ++ ((y, M.o (lo .ready none)) :: mem)) y = some (.o (endO lo id fin)) := aget_self ..
  -- the record is put away
  have last : ∀ (pe : Option Code) (st : LoopState), endO lo id fin = lo st pe → st ≠ .busy → (∀ w4, (Instr.endLoop (w.heap.size + 1)).run P w3 = .ok pe w4 → (∃ g4, Rel F1 N g4 env ((y, .x) :: m1) { a with defers := [markD w.heap.size] ++ a.defers } w4) → 
      rangePost F0.fz 0 P (w.heap.size + 1) (liftQ F0 N Q) { a with defers := [markD w.heap.size] ++ a.defers } (.returned x) w3) → rangePost F0.fz 0 P (w.heap.size + 1) (liftQ F0 N Q) { a with defers := [markD w.heap.size] ++ a.defers } (.returned x) w3 := by
    intro pe st hst hnb K1
    have hyo' : aget ((y, M.o (endO lo id fin)) :: m1 ++ ((y, M.o (lo .ready none)) :: mem)) y = some (.o (lo st pe)) := by rw [hyo, hst]
    obtain ⟨u1, u2, u3, u4⟩ := set_rec (r := recL fn a.tmps #[p] assign body w.heap.size st pe) (r' := recL fn a.tmps #[p] assign body w.heap.size .exhausted pe) RM K hby hyo'
    refine K1 _ (run_endLoop (r := recL fn a.tmps #[p] assign body w.heap.size st pe) u1 hnb) ?_
    simp only [Bool.and_eq_true] at hr1
    have hsub : ∀ i m, aget ((y, M.x) :: m1) i = some m → i ≠ y → aget ((y, M.o (endO lo id fin)) :: m1 ++ ((y, M.o (lo .ready none)) :: mem)) i = some m := fun i m hi hne => by
      rw [aget_ne (Ne.symm hne)] at hi
      rw [List.cons_append, aget_ne (Ne.symm hne), aget_append, hi]
      rfl
    have RM2 : RelM F1 g2 ((y, .x) :: m1) (w3.putObj (w.heap.size + 1) (.loop (recL fn a.tmps #[p] assign body w.heap.size .exhausted pe))) ∨ True := .inr trivial
    have hin : ∀ i, aget mem i ≠ none → (aget ((y, M.x) :: m1) i).isSome = true := fun i hi => by
      obtain ⟨m, hm⟩ := Option.ne_none_iff_exists'.1 hi
      have hne : i ≠ y := fun e => by rw [e, hy] at hm; cases hm
      have := keysOk_spec (hk1 (lo .ready none) (lo .ready none)) (i := i) (m := m) (by rw [aget_ne (Ne.symm hne)]; exact hm)
      rw [aget_ne (Ne.symm hne)] at this ⊢
      exact this
    have hL : LocOk F1 (g2.only ((y, .x) :: m1)) := by
      refine ⟨RM.loc.tab, fun i z hz => ?_, fun i a l c hr' => ?_⟩
      · have := hin i fun e => by have h1 := hr.mem.loc.bx i z hz; rw [hr.mem.nbx i e] at h1; cases h1
        simp only [Gh.only]; rw [if_pos this]; exact RM.loc.bx i z hz
      · have := hin i fun e => by obtain ⟨_, _, _, h1, _⟩ := hr.mem.loc.rw i a l c hr'; rw [hr.mem.nrw i e] at h1; cases h1
        obtain ⟨a', l', c', k1, k2⟩ := RM.loc.rw i a l c hr'
        exact ⟨a', l', c', by simp only [Gh.only]; rw [if_pos this]; exact k1, k2⟩
    have mX : RelM F1 g2 ((y, .x) :: ((y, .o (.loop (recL fn a.tmps #[p] assign body w.heap.size .exhausted pe))) :: ((y, M.o (endO lo id fin)) :: m1 ++ ((y, M.o (lo .ready none)) :: mem)))) (w3.putObj (w.heap.size + 1) (.loop (recL fn a.tmps #[p] assign body w.heap.size .exhausted pe))) :=
      ⟨fun i m hi => by rw [aget_cons] at hi; split at hi; (· cases hi; exact .x); (· exact u3.ob i m hi), fun i m b o hi hp => by rw [aget_cons] at hi; split at hi; (· cases hi; exact hp.elim); (· exact u3.wr i m b o hi hp),
        fun i j m n b o hij hi hj hp hq => by
          rw [aget_cons] at hi hj
          split at hi
          · cases hi; exact hp.elim
          · split at hj
            · cases hj; exact hq.elim
            · exact u3.dj i j m n b o hij hi hj hp hq,
        fun i hi => by rw [aget_cons] at hi; split at hi; (· cases hi); (· exact u3.nbx i hi), fun i hi => by rw [aget_cons] at hi; split at hi; (· cases hi); (· exact u3.nrw i hi), u3.fut, u3.loc⟩
    have hM : ∀ i m, aget ((y, M.x) :: m1) i = some m → aget ((y, M.x) :: ((y, M.o (.loop (recL fn a.tmps #[p] assign body w.heap.size .exhausted pe))) :: ((y, M.o (endO lo id fin)) :: m1 ++ ((y, M.o (lo .ready none)) :: mem)))) i = some m := fun i m hi => by
      by_cases e : i = y
      · subst e; rw [aget_self] at hi ⊢; exact hi
      · rw [aget_ne (Ne.symm e), aget_ne (Ne.symm e)]; exact hsub i m hi e
    have mY := mX.sub (F' := F1) hM hr1.2 hL fun i m b o hi hp => mX.wr i m b o (hM i m hi) hp
    refine ⟨_, fun t u hu => ?_, mY, ⟨u4.os, u4.tape, u4.output, u4.size, u4.blk, u4.cell, u4.S1, u4.S2, u4.cellS⟩, by show [markD w.heap.size] ++ a.defers = _; rw [hr.defers]; rfl, hr.size, hr.big⟩
    obtain ⟨z, e1, e2⟩ := hr.env t u hu
    exact ⟨z, e1, (((e2.mono vv).mono E).mono u2).only (refsE_get hr1.1 hu)⟩
  cases fin with
  | true => exact last none .ready rfl (by intro e; cases e) fun w4 h4 ⟨g4, h5⟩ => ⟨none, w4, h4, F1, hE, env, _, g4, .normal, h5, rfl, done rfl⟩
  | false => exact last (some (.exit id)) .done rfl (by intro e; cases e) fun w4 h4 ⟨g4, h5⟩ => ⟨some (.exit id), w4, h4, wpIn_exit ⟨F1, hE, env, _, g4, .exit id, h5, rfl, stop rfl⟩⟩
end
end Lf
end Go.Proofs.Ytpchigdcikknmaa

/- Logs, receipts, pages, finds, by their cells; slices of words and of addresses. -/
namespace Go.Proofs.Ytpchigdcikknmaa
open Go.RowKit Rg Wm Ar
set_option linter.unusedVariables false
set_option maxRecDepth 100000
namespace Lf
abbrev bsV (l : List UInt8) : V := .s none (l.map bK)
abbrev wsV (ts : List Nat) : V := .s none (ts.map wV)
abbrev adV (l : List UInt8) : V := .a (l.map bK)
abbrev asV (l : List (List UInt8)) : V := .s none (l.map adV)
theorem drop_at {a b : List V} {n : Nat} (h : a.length = n) (m : Nat) : (a ++ b).drop (n + m) = b.drop m := by
  subst h; rw [List.drop_append]; simp
theorem part_num {ti : TI} {cs r : List V} {u : V} {off : Nat} (hd : ti.d.agg = false) (h : cs.drop off = u :: r) : ti.part cs off = some u := by
  have e : cs[off]? = some u := by
    have := congrArg (·[0]?) h
    simpa using this
  unfold TI.part
  rw [hd]
  exact e
/-- A stretch of cells. -/
theorem part_str {ti : TI} {cs p : List V} {off n : Nat} (hd : ti.d.agg = true) (hs : ti.size = n) (hp : p.length = n) (hle : off + n ≤ cs.length) (h : (cs.drop off).take n = p) : ti.part cs off = some (.a p) := by
  unfold TI.part
  rw [hd, hs]
  simp only [cond_true, h]
  have hb : Nat.ble (off + n) cs.length = true := Nat.ble_eq_true_of_le hle
  rw [hb]
  cases hc : (off.beq 0 && cs.length.beq n) with
  | false => rfl
  | true =>
    rw [Bool.and_eq_true] at hc
    have h1 := Nat.eq_of_beq_eq_true hc.1
    have h2 := Nat.eq_of_beq_eq_true hc.2
    rw [h1, List.drop_zero, List.take_of_length_le (Nat.le_of_eq h2)] at h
    rw [h]; rfl
theorem refs_bK (m : List (Nat × M)) : ∀ l : List UInt8, V.refs.go m (l.map bK) = true
  | [] => rfl
  | x :: r => by rw [List.map_cons, V.refs.go, refs_bK m r]; rfl
theorem refs_app' (m : List (Nat × M)) : ∀ (a b : List V), V.refs.go m a = true → V.refs.go m b = true → V.refs.go m (a ++ b) = true
  | [], _, _, h => h
  | x :: r, b, h1, h2 => by
    rw [List.cons_append, V.refs.go]
    rw [V.refs.go, Bool.and_eq_true] at h1
    rw [h1.1, refs_app' m r b h1.2 h2]; rfl
theorem bare_bK : ∀ l : List UInt8, V.bare.go (l.map bK) = some (l.map bK)
  | [] => rfl
  | x :: r => by rw [List.map_cons, V.bare.go, bare_bK r]; rfl
theorem bare_app : ∀ (a b : List V), V.bare.go a = some a → V.bare.go b = some b → V.bare.go (a ++ b) = some (a ++ b)
  | [], _, _, h => h
  | x :: r, b, h1, h2 => by
    rw [V.bare.go] at h1
    rw [List.cons_append, V.bare.go]
    cases hx : x.bare with
    | none => rw [hx] at h1; simp at h1
    | some y =>
      cases hr : V.bare.go r with
      | none => rw [hx, hr] at h1; simp at h1
      | some r' =>
        rw [hx, hr] at h1
        simp only [Option.some.injEq, List.cons.injEq] at h1
        obtain ⟨rfl, rfl⟩ := h1
        rw [bare_app r' b hr h2]
/-! ### Logs -/
structure Lg where
  addr : List UInt8
  topics : List Nat
  data : List UInt8
  deriving Inhabited, DecidableEq
structure Lg.ok (l : Lg) : Prop where
  addr : l.addr.length = 8
  tops : ∀ t ∈ l.topics, t < M256
  tl : l.topics.length < 2000000
  dl : l.data.length < 2000000
theorem len_b (l : List UInt8) {n : Nat} (h : l.length = n) : (l.map bK).length = n := by rw [List.length_map, h]
/-- A log's cells. -/
def lgS (a : List UInt8) (t u : V) : List V := a.map bK ++ [t, u]
theorem lgS_eq (a : List UInt8) (t u : V) : lgS a t u = a.map bK ++ [t, u] := rfl
theorem lgS_len {a : List UInt8} {t u : V} (k : a.length = 8) : (lgS a t u).length = 10 := by simp [lgS, k]
theorem lg_a {ti : TI} {a : List UInt8} {t u : V} (k : a.length = 8) (hd : ti.d.agg = true) (hs : ti.size = 8) : ti.part (lgS a t u) 0 = some (adV a) :=
  part_str hd hs (len_b _ k) (by rw [lgS_len k]; omega) (by rw [lgS_eq, List.drop_zero, List.take_append_of_le_length (by rw [len_b _ k]; omega), List.take_of_length_le (by rw [len_b _ k]; omega)])
theorem lg_t {ti : TI} {a : List UInt8} {t u : V} (k : a.length = 8) (hd : ti.d.agg = false) : ti.part (lgS a t u) 8 = some t := part_num hd (by rw [lgS_eq]; exact drop_at (len_b _ k) 0)
theorem lg_d {ti : TI} {a : List UInt8} {t u : V} (k : a.length = 8) (hd : ti.d.agg = false) : ti.part (lgS a t u) 9 = some u := part_num (r := []) hd (by rw [lgS_eq]; exact drop_at (len_b _ k) 1)
theorem lgS_refs (m : List (Nat × M)) (a : List UInt8) (t u : List V) : V.refs.go m (lgS a (.s none t) (.s none u)) = true := refs_app' m _ _ (refs_bK m _) rfl
theorem lgS_bare (a : List UInt8) (t u : List V) : V.bare.go (lgS a (.s none t) (.s none u)) = some (lgS a (.s none t) (.s none u)) := bare_app _ _ (bare_bK _) rfl
attribute [irreducible] lgS
abbrev lgC (l : Lg) : List V := lgS l.addr (wsV l.topics) (bsV l.data)
abbrev lgV (l : Lg) : V := .a (lgC l)
abbrev lgsV (l : List Lg) : V := .s none (l.map lgV)
/-! ### Receipts -/
structure Rc where
  good : Bool
  used : Nat
  bloom : List UInt8
  logs : List Lg
  deriving Inhabited, DecidableEq
structure Rc.ok (r : Rc) : Prop where
  used : r.used < 18446744073709551616
  bloom : r.bloom.length = 32
  logs : ∀ l ∈ r.logs, l.ok
  ll : r.logs.length < 2000000
def rcC (r : Rc) : List V := .k (.bool r.good) :: uK r.used :: (r.bloom.map bK ++ [lgsV r.logs])
theorem rcC_eq (r : Rc) : rcC r = .k (.bool r.good) :: uK r.used :: (r.bloom.map bK ++ [lgsV r.logs]) := rfl
theorem rcC_len {r : Rc} (k : r.ok) : (rcC r).length = 35 := by simp [rcC, k.bloom]
theorem rc_b {ti : TI} {r : Rc} (k : r.ok) (hd : ti.d.agg = true) (hs : ti.size = 32) : ti.part (rcC r) 2 = some (adV r.bloom) :=
  part_str hd hs (len_b _ k.bloom) (by rw [rcC_len k]; omega) (by rw [rcC_eq, List.drop_succ_cons, List.drop_succ_cons, List.drop_zero, List.take_append_of_le_length (by rw [len_b _ k.bloom]; omega), List.take_of_length_le (by rw [len_b _ k.bloom]; omega)])
theorem rc_l {ti : TI} {r : Rc} (k : r.ok) (hd : ti.d.agg = false) : ti.part (rcC r) 34 = some (lgsV r.logs) := part_num (r := []) hd (by
  rw [rcC_eq, List.drop_succ_cons, List.drop_succ_cons]; exact drop_at (len_b _ k.bloom) 0)
theorem rcC_refs (m : List (Nat × M)) (r : Rc) : V.refs.go m (rcC r) = true := by
  rw [rcC_eq, V.refs.go, V.refs.go, refs_app' m _ _ (refs_bK m _) rfl]; rfl
theorem rcC_bare (r : Rc) : V.bare.go (rcC r) = some (rcC r) := by
  rw [rcC_eq, V.bare.go, V.bare.go, bare_app _ _ (bare_bK _) (show V.bare.go [lgsV r.logs] = _ from rfl)]; rfl
attribute [irreducible] rcC
abbrev rcV (r : Rc) : V := .a (rcC r)
abbrev rcsV (l : List Rc) : V := .s none (l.map rcV)
/-! ### Pages, filters, finds -/
structure Pg where
  number : Nat
  recs : List Rc
  deriving Inhabited, DecidableEq
structure Pg.ok (p : Pg) : Prop where
  number : p.number < 18446744073709551616
  recs : ∀ r ∈ p.recs, r.ok
  rl : p.recs.length < 2000000
abbrev pgC (p : Pg) : List V := [uK p.number, rcsV p.recs]
abbrev pgV (p : Pg) : V := .a (pgC p)
abbrev pgsV (l : List Pg) : V := .s none (l.map pgV)
structure Fl where
  addrs : List (List UInt8)
  topics : List Nat
  deriving Inhabited, DecidableEq
structure Fl.ok (f : Fl) : Prop where
  addrs : ∀ a ∈ f.addrs, a.length = 8
  tops : ∀ t ∈ f.topics, t < M256
  al : f.addrs.length < 2000000
  tl : f.topics.length < 2000001
abbrev flC (f : Fl) : List V := [asV f.addrs, wsV f.topics]
abbrev flV (f : Fl) : V := .a (flC f)
structure Fd where
  number : Nat
  tx : Nat
  at_ : Nat
  log : Lg
  deriving Inhabited, DecidableEq
structure Fd.ok (d : Fd) : Prop where
  number : d.number < 18446744073709551616
  tx : d.tx < 2000000
  at_ : d.at_ < 2000000
  log : d.log.ok
abbrev iK (n : Nat) : V := .k (.int .i64 ((n : Nat) : Int))
/-- A find's cells. -/
def fdS (n x i : V) (a : List UInt8) (t u : V) : List V := n :: x :: i :: lgS a t u
theorem fdS_eq (n x i : V) (a : List UInt8) (t u : V) : fdS n x i a t u = n :: x :: i :: lgS a t u := rfl
section
variable {n x i t u : V} {a : List UInt8}
theorem fdS_len (k : a.length = 8) : (fdS n x i a t u).length = 13 := by rw [fdS_eq]; simp [lgS_len k]
theorem fd_n {ti : TI} (hd : ti.d.agg = false) : ti.part (fdS n x i a t u) 0 = some n := part_num hd rfl
theorem fd_x {ti : TI} (hd : ti.d.agg = false) : ti.part (fdS n x i a t u) 1 = some x := part_num hd rfl
theorem fd_i {ti : TI} (hd : ti.d.agg = false) : ti.part (fdS n x i a t u) 2 = some i := part_num hd rfl
theorem fd_l {ti : TI} (k : a.length = 8) (hd : ti.d.agg = true) (hs : ti.size = 10) : ti.part (fdS n x i a t u) 3 = some (.a (lgS a t u)) :=
  part_str hd hs (lgS_len k) (by rw [fdS_len k]; omega) (by rw [fdS_eq, List.drop_succ_cons, List.drop_succ_cons, List.drop_succ_cons, List.drop_zero]; exact List.take_of_length_le (by rw [lgS_len k]; omega))
theorem fd_a {ti : TI} (k : a.length = 8) (hd : ti.d.agg = true) (hs : ti.size = 8) : ti.part (fdS n x i a t u) 3 = some (adV a) :=
  part_str hd hs (len_b _ k) (by rw [fdS_len k]; omega) (by rw [fdS_eq, List.drop_succ_cons, List.drop_succ_cons, List.drop_succ_cons, List.drop_zero, lgS_eq, List.take_append_of_le_length (by rw [len_b _ k]; omega), List.take_of_length_le (by rw [len_b _ k]; omega)])
theorem fd_t {ti : TI} (k : a.length = 8) (hd : ti.d.agg = false) : ti.part (fdS n x i a t u) 11 = some t := part_num hd (by
  rw [fdS_eq, List.drop_succ_cons, List.drop_succ_cons, List.drop_succ_cons, lgS_eq]; exact drop_at (len_b _ k) 0)
theorem fd_d {ti : TI} (k : a.length = 8) (hd : ti.d.agg = false) : ti.part (fdS n x i a t u) 12 = some u := part_num (r := []) hd (by
  rw [fdS_eq, List.drop_succ_cons, List.drop_succ_cons, List.drop_succ_cons, lgS_eq]; exact drop_at (len_b _ k) 1)
/-- What a store of a slice leaves. -/
def setF (o : Nat) (us : List V) (t u : V) : Option (V × V) :=
  match us with
  | [v] => cond (Nat.beq o 11) (some (v, u)) (cond (Nat.beq o 12) (some (t, v)) none)
  | _ => none
theorem fd_set {o : Nat} {us : List V} {t' u' : V} (k : a.length = 8) (h : setF o us t u = some (t', u')) : splice (fdS n x i a t u) o us = fdS n x i a t' u' := by
  unfold setF at h
  have hl := len_b _ k
  split at h
  case h_2 => cases h
  rename_i v
  cases h1 : Nat.beq o 11 with
  | true =>
    obtain rfl := Nat.eq_of_beq_eq_true h1
    rw [h1] at h
    cases h
    rw [fdS_eq, fdS_eq, lgS_eq, lgS_eq]
    unfold splice
    have e1 : (n :: x :: i :: (a.map bK ++ [t, u])).take 11 = n :: x :: i :: a.map bK := by
      rw [List.take_succ_cons, List.take_succ_cons, List.take_succ_cons, List.take_append_of_le_length (by omega), List.take_of_length_le (by omega)]
    have e2 : (n :: x :: i :: (a.map bK ++ [t, u])).drop (11 + 1) = [u] := by
      rw [List.drop_succ_cons, List.drop_succ_cons, List.drop_succ_cons]; exact drop_at hl 1
    rw [e1]
    simp only [List.length_cons, List.length_nil, Nat.zero_add]
    rw [e2]; simp
  | false =>
    rw [h1] at h
    cases h2 : Nat.beq o 12 with
    | false => rw [h2] at h; cases h
    | true =>
    obtain rfl := Nat.eq_of_beq_eq_true h2
    rw [h2] at h
    cases h
    rw [fdS_eq, fdS_eq, lgS_eq, lgS_eq]
    unfold splice
    have e1 : (n :: x :: i :: (a.map bK ++ [t, u])).take 12 = n :: x :: i :: (a.map bK ++ [t]) := by
      rw [List.take_succ_cons, List.take_succ_cons, List.take_succ_cons, show a.map bK ++ [t, u] = (a.map bK ++ [t]) ++ [u] from by simp, List.take_append_of_le_length (by simp; omega), List.take_of_length_le (by simp; omega)]
    have e2 : (n :: x :: i :: (a.map bK ++ [t, u])).drop (12 + 1) = [] := List.drop_of_length_le (by simp; omega)
    rw [e1]
    simp only [List.length_cons, List.length_nil, Nat.zero_add]
    rw [e2]; simp
end
theorem fdS_refs (m : List (Nat × M)) (n x i : Value) (a : List UInt8) (t u : List V) : V.refs.go m (fdS (.k n) (.k x) (.k i) a (.s none t) (.s none u)) = true := by
  rw [fdS_eq, V.refs.go, V.refs.go, V.refs.go, lgS_refs]; rfl
theorem fdS_bare (n x i : Value) (a : List UInt8) (t u : List V) : V.bare.go (fdS (.k n) (.k x) (.k i) a (.s none t) (.s none u)) = some (fdS (.k n) (.k x) (.k i) a (.s none t) (.s none u)) := by
  rw [fdS_eq, V.bare.go, V.bare.go, V.bare.go, lgS_bare]; rfl
attribute [irreducible] fdS
abbrev fdC (d : Fd) : List V := fdS (uK d.number) (iK d.tx) (iK d.at_) d.log.addr (wsV d.log.topics) (bsV d.log.data)
abbrev fdV (d : Fd) : V := .a (fdC d)
abbrev fdsV (l : List Fd) : V := .s none (l.map fdV)
theorem getD_mem' {α : Type} {l : List α} {i : Nat} {d : α} (h : i < l.length) : l.getD i d ∈ l := by
  rw [List.getD_eq_getElem?_getD, List.getElem?_eq_getElem h]; exact List.getElem_mem h
/-- The first of a list with some property. -/
theorem first_of {α : Type} [Inhabited α] {l : List α} {p : α → Prop} (h : ∃ x ∈ l, p x) : ∃ k, k < l.length ∧ p (l.getD k default) ∧ ∀ j, j < k → ¬ p (l.getD j default) := by
  have : ∀ n, n < l.length → p (l.getD n default) → ∃ k, k < l.length ∧ p (l.getD k default) ∧ ∀ j, j < k → ¬ p (l.getD j default) := by
    intro n
    induction n using Nat.strongRecOn with
    | ind n ih =>
      intro h1 h2
      by_cases h3 : ∃ j, j < n ∧ p (l.getD j default)
      · obtain ⟨j, h4, h5⟩ := h3
        exact ih j h4 (by omega) h5
      · exact ⟨n, h1, h2, fun j h4 h5 => h3 ⟨j, h4, h5⟩⟩
  obtain ⟨x, hx, hp⟩ := h
  obtain ⟨n, h1, h2⟩ := List.mem_iff_getElem.1 hx
  exact this n h1 (by rw [List.getD_eq_getElem?_getD, List.getElem?_eq_getElem h1]; exact h2 ▸ hp)
theorem limbs_inj' {x y : Nat} (hx : x < M256) (hy : y < M256) (h : limbs x = limbs y) : x = y := by
  have := limbs_iff.1 h
  rwa [Nat.mod_eq_of_lt hx, Nat.mod_eq_of_lt hy] at this
namespace Sf
set_option maxHeartbeats 1000000 in
theorem IndexW_yes (ts : List Nat) (t : Nat) (hn : ts.length < 4611686018427387904) (k : Nat) (hk : k < ts.length) (he : limbs (ts.getD k default) = limbs t) (hlt : ∀ j, j < k → ¬ limbs (ts.getD j default) = limbs t) :
    LF Try.prog 25 [wsV ts, wV t] (fun _ => iK k) none := by
  have hl1 := limbs_len t
  refine LFx.mk' tt Try.func25 rfl rfl rfl (by kernel_rfl) rfl rfl fun F => ?_
  refine wk ?_ trueW trueW
  refine LC.loopN (fun i => [(0, .s none (ts.map wV)), (3, .p 3 0), (6, .s none (ts.map wV)), (7, .k (.int .i64 ((ts.length : Nat) : Int))), (8, .k (.int .i64 ((i : Nat) : Int)))]) (fun i => [(3, .b ((limbs t).map uK))]) (fun i => i ≤ k) ((ts.length - ·)) (0) (by omega) ⟨rfl, rfl, rfl, rfl, rfl, trivial⟩ ⟨rfl, trivial⟩ rfl rfW rfW ?_
  intro i hi
  have hlt' : i < ts.length := by omega
  have hl2 := limbs_len (ts.getD i default)
  by_cases h : i = k
  · subst h
    have hq : limbs t = limbs (ts.getD i default) := he.symm
    exact wk trueW trueW trueW
  · have hok : i + 1 ≤ k := by omega
    have hq : ¬ limbs t = limbs (ts.getD i default) := fun e => hlt i (by omega) e.symm
    exact wk trueW trueW trueW
set_option maxHeartbeats 1000000 in
theorem IndexW_no (ts : List Nat) (t : Nat) (hn : ts.length < 4611686018427387904) (hno : ∀ j, j < ts.length → ¬ limbs (ts.getD j default) = limbs t) :
    LF Try.prog 25 [wsV ts, wV t] (fun _ => .k (.int .i64 (-1))) none := by
  have hl1 := limbs_len t
  refine LFx.mk' tt Try.func25 rfl rfl rfl (by kernel_rfl) rfl rfl fun F => ?_
  refine wk ?_ trueW trueW
  refine LC.loopN (fun i => [(0, .s none (ts.map wV)), (3, .p 3 0), (6, .s none (ts.map wV)), (7, .k (.int .i64 ((ts.length : Nat) : Int))), (8, .k (.int .i64 ((i : Nat) : Int)))]) (fun i => [(3, .b ((limbs t).map uK))]) (fun i => i ≤ ts.length) ((ts.length - ·)) (0) (by omega) ⟨rfl, rfl, rfl, rfl, rfl, trivial⟩ ⟨rfl, trivial⟩ rfl rfW rfW ?_
  intro i hi
  by_cases h : i < ts.length
  · have hok : i + 1 ≤ ts.length := by omega
    have hl2 := limbs_len (ts.getD i default)
    have hq : ¬ limbs t = limbs (ts.getD i default) := fun e => hno i h e.symm
    exact wk trueW trueW trueW
  · exact wk trueW trueW trueW
theorem ContainsW (ts : List Nat) (t : Nat) (hn : ts.length < 4611686018427387904) (hts : ∀ t ∈ ts, t < M256) (ht : t < M256) :
    LF Try.prog 13 [wsV ts, wV t] (fun _ => .k (.bool (decide (t ∈ ts)))) none := by
  have hl1 := limbs_len t
  by_cases h : t ∈ ts
  · rw [decide_eq_true h]
    obtain ⟨k, h1, h2, h3⟩ := first_of (p := fun x => limbs x = limbs t) ⟨t, h, rfl⟩
    have c1 := IndexW_yes ts t hn k h1 h2 h3
    refine LFx.mk' tt Try.func13 rfl rfl rfl (by kernel_rfl) rfl rfl fun F => ?_
    exact wk trueW trueW trueW
  · rw [decide_eq_false h]
    have c1 := IndexW_no ts t hn fun j hj e => h (by rw [← limbs_inj' (hts _ (getD_mem' hj)) ht e]; exact getD_mem' hj)
    refine LFx.mk' tt Try.func13 rfl rfl rfl (by kernel_rfl) rfl rfl fun F => ?_
    exact wk trueW trueW trueW
set_option maxHeartbeats 1000000 in
theorem IndexA_yes (ts : List (List UInt8)) (t : List UInt8) (ht : t.length = 8) (hts : ∀ t ∈ ts, t.length = 8) (hn : ts.length < 4611686018427387904) (k : Nat) (hk : k < ts.length) (he : ts.getD k default = t) (hlt : ∀ j, j < k → ¬ ts.getD j default = t) :
    LF Try.prog 47 [asV ts, adV t] (fun _ => iK k) none := by
  refine LFx.mk' tt Try.func47 rfl rfl rfl (by kernel_rfl) rfl rfl fun F => ?_
  refine wk ?_ trueW trueW
  refine LC.loopN (fun i => [(0, .s none (ts.map adV)), (3, .p 3 0), (6, .s none (ts.map adV)), (7, .k (.int .i64 ((ts.length : Nat) : Int))), (8, .k (.int .i64 ((i : Nat) : Int)))]) (fun i => [(3, .b (t.map bK))]) (fun i => i ≤ k) ((ts.length - ·)) (0) (by omega) ⟨rfl, rfl, rfl, rfl, rfl, trivial⟩ ⟨rfl, trivial⟩ rfl rfW rfW ?_
  intro i hi
  have hlt' : i < ts.length := by omega
  have hl2 := hts _ (getD_mem' (d := default) hlt')
  by_cases h : i = k
  · subst h
    have hq : t = ts.getD i default := he.symm
    exact wk trueW trueW trueW
  · have hok : i + 1 ≤ k := by omega
    have hq : ¬ t = ts.getD i default := fun e => hlt i (by omega) e.symm
    exact wk trueW trueW trueW
set_option maxHeartbeats 1000000 in
theorem IndexA_no (ts : List (List UInt8)) (t : List UInt8) (ht : t.length = 8) (hts : ∀ t ∈ ts, t.length = 8) (hn : ts.length < 4611686018427387904) (hno : t ∉ ts) :
    LF Try.prog 47 [asV ts, adV t] (fun _ => .k (.int .i64 (-1))) none := by
  refine LFx.mk' tt Try.func47 rfl rfl rfl (by kernel_rfl) rfl rfl fun F => ?_
  refine wk ?_ trueW trueW
  refine LC.loopN (fun i => [(0, .s none (ts.map adV)), (3, .p 3 0), (6, .s none (ts.map adV)), (7, .k (.int .i64 ((ts.length : Nat) : Int))), (8, .k (.int .i64 ((i : Nat) : Int)))]) (fun i => [(3, .b (t.map bK))]) (fun i => i ≤ ts.length) ((ts.length - ·)) (0) (by omega) ⟨rfl, rfl, rfl, rfl, rfl, trivial⟩ ⟨rfl, trivial⟩ rfl rfW rfW ?_
  intro i hi
  by_cases h : i < ts.length
  · have hok : i + 1 ≤ ts.length := by omega
    have hl2 := hts _ (getD_mem' (d := default) h)
    have hq : ¬ t = ts.getD i default := fun e => hno (by rw [e]; exact getD_mem' h)
    exact wk trueW trueW trueW
  · exact wk trueW trueW trueW
theorem ContainsA (ts : List (List UInt8)) (t : List UInt8) (ht : t.length = 8) (hts : ∀ t ∈ ts, t.length = 8) (hn : ts.length < 4611686018427387904) :
    LF Try.prog 41 [asV ts, adV t] (fun _ => .k (.bool (decide (t ∈ ts)))) none := by
  by_cases h : t ∈ ts
  · rw [decide_eq_true h]
    obtain ⟨k, h1, h2, h3⟩ := first_of (p := fun x => x = t) ⟨t, h, rfl⟩
    have c1 := IndexA_yes ts t ht hts hn k h1 h2 h3
    refine LFx.mk' tt Try.func41 rfl rfl rfl (by kernel_rfl) rfl rfl fun F => ?_
    exact wk trueW trueW trueW
  · rw [decide_eq_false h]
    have c1 := IndexA_no ts t ht hts hn h
    refine LFx.mk' tt Try.func41 rfl rfl rfl (by kernel_rfl) rfl rfl fun F => ?_
    exact wk trueW trueW trueW
end Sf
end Lf
end Go.Proofs.Ytpchigdcikknmaa

/- Sift: clones, what a filter lets through, what is one's own. -/
namespace Go.Proofs.Ytpchigdcikknmaa
open Go.RowKit Rg Wm Ar
set_option linter.unusedVariables false
set_option maxRecDepth 100000
namespace Lf
/-- Does the filter let the log through? -/
def lets (f : Fl) (l : Lg) : Bool := (decide (f.addrs = []) || decide (l.addr ∈ f.addrs)) && f.topics.all fun t => decide (t ∈ l.topics)
namespace Sf
theorem CloneW (ts : List Nat) (hn : ts.length < 1073741824) : LF Try.prog 12 [wsV ts] (fun _ => wsV ts) none := by
  have hl : (ts.map wV).length = ts.length := List.length_map _
  have hce : ∀ e ∈ ts.map wV, e.cells.length = 4 := fun e he => by
    obtain ⟨t, _, rfl⟩ := List.mem_map.1 he
    show ((limbs t).map uK).length = 4
    rw [List.length_map, limbs_len]
  refine LFx.mk' tt Try.func12 rfl rfl rfl (by kernel_rfl) rfl rfl fun F => ?_
  refine LC.seq (LC.region (LS.pp rfl rfl (Does.assign rfl rfl) rfl (LS.nil ?_)))
  refine LC.seq (LC.seq (LC.region (LS.pp rfl rfl (Does.move rfl rfl) rfl (LS.eqNil tt rfl rfl rfl rfl rfl rfl rfl (fun he => LS.nil ?_) (LS.nil ?_)))))
  · have hl0 : ts = [] := List.map_eq_nil_iff.1 he
    subst hl0
    exact wk trueW trueW trueW
  · refine LC.condF rfl ?_
    exact wk trueW trueW trueW
theorem CloneB (l : List UInt8) (hn : l.length < 1073741824) : LF Try.prog 42 [bsV l] (fun _ => bsV l) none := by
  have hl : (l.map bK).length = l.length := List.length_map _
  refine LFx.mk' tt Try.func42 rfl rfl rfl (by kernel_rfl) rfl rfl fun F => ?_
  refine LC.seq (LC.region (LS.pp rfl rfl (Does.assign rfl rfl) rfl (LS.nil ?_)))
  refine LC.seq (LC.seq (LC.region (LS.pp rfl rfl (Does.move rfl rfl) rfl (LS.eqNil tt rfl rfl rfl rfl rfl rfl rfl (fun he => LS.nil ?_) (LS.nil ?_)))))
  · have hl0 : l = [] := List.map_eq_nil_iff.1 he
    subst hl0
    exact wk trueW trueW trueW
  · refine LC.condF rfl ?_
    exact wk trueW trueW trueW
theorem all_step {f : Fl} {l : Lg} {i : Nat} (h : i < f.topics.length) (hm : f.topics.getD i default ∈ l.topics) (hp : ∀ j, j < i → f.topics.getD j default ∈ l.topics) : ∀ j, j < i + 1 → f.topics.getD j default ∈ l.topics := fun j hj => by
  by_cases e : j = i
  · rw [e]; exact hm
  · exact hp j (by omega)
theorem all_of {f : Fl} {l : Lg} (hp : ∀ j, j < f.topics.length → f.topics.getD j default ∈ l.topics) : (f.topics.all fun t => decide (t ∈ l.topics)) = true := by
  rw [List.all_eq_true]
  intro t ht
  obtain ⟨n, h1, h2⟩ := List.mem_iff_getElem.1 ht
  have := hp n h1
  rw [List.getD_eq_getElem?_getD, List.getElem?_eq_getElem h1, Option.getD_some, h2] at this
  exact decide_eq_true this
theorem all_not {f : Fl} {l : Lg} {i : Nat} (h : i < f.topics.length) (hm : f.topics.getD i default ∉ l.topics) : (f.topics.all fun t => decide (t ∈ l.topics)) = false := by
  rw [← Bool.not_eq_true, List.all_eq_true]
  intro ha
  exact hm (of_decide_eq_true (ha _ (getD_mem' h)))
set_option maxHeartbeats 2000000 in
theorem lets_ (f : Fl) (l : Lg) (kf : f.ok) (kl : l.ok) : LF Try.prog 34 [flV f, lgV l] (fun _ => .k (.bool (lets f l))) none := by
  have ka := kl.addr
  have ld1 := @lg_a
  have ld2 := @lg_t
  have hll := @lgS_len l.addr (wsV l.topics) (bsV l.data) ka
  have hrf := lgS_refs
  have hal := kf.al
  have htl := kf.tl
  have c1 := ContainsA f.addrs l.addr ka kf.addrs (by omega)
  by_cases ha : f.addrs = [] ∨ l.addr ∈ f.addrs
  · have e1 : (decide (f.addrs = []) || decide (l.addr ∈ f.addrs)) = true := by simpa using ha
    unfold lets
    rw [e1, Bool.true_and]
    have hc : f.addrs.length = 0 ∨ (0 < f.addrs.length ∧ l.addr ∈ f.addrs) := by
      rcases Nat.eq_zero_or_pos f.addrs.length with h | h
      · exact .inl h
      · refine .inr ⟨h, ha.resolve_left fun e => ?_⟩
        rw [e] at h; cases h
    clear e1 ha
    rcases hc with hc | ⟨hc, hm⟩
    · refine LFx.mk' tt Try.func34 rfl rfl rfl (by kernel_rfl) rfl rfl fun F => ?_
      refine wk ?_ trueW trueW
      refine LC.loopN (fun i => [(2, .p 2 0), (3, .p 3 0), (20, wsV f.topics), (21, .k (.int .i64 ((f.topics.length : Nat) : Int))), (22, .k (.int .i64 ((i : Nat) : Int)))]) (fun i => [(2, .b (flC f)), (3, .b (lgC l))]) (fun i => i ≤ f.topics.length ∧ (∀ j, j < i → f.topics.getD j default ∈ l.topics)) ((f.topics.length - ·)) (0) ⟨by omega, fun j hj => by omega⟩ ⟨rfl, rfl, rfl, rfl, rfl, trivial⟩ ⟨rfl, rfl, trivial⟩ rfl rfW rfW ?_
      rintro i ⟨hi, hp⟩
      rcases Nat.lt_or_ge i f.topics.length with h | h
      · have hmt := kf.tops _ (getD_mem' (d := default) h)
        have c1 := ContainsW l.topics (f.topics.getD i default) (by have := kl.tl; omega) kl.tops hmt
        have hlw := limbs_len (f.topics.getD i default)
        by_cases hm : f.topics.getD i default ∈ l.topics
        · have hok : i + 1 ≤ f.topics.length ∧ ∀ j, j < i + 1 → f.topics.getD j default ∈ l.topics := ⟨h, all_step h hm hp⟩
          rw [decide_eq_true hm] at c1
          clear hp
          exact wk trueW trueW trueW
        · rw [decide_eq_false hm] at c1
          rw [all_not h hm]
          clear hp
          exact wk trueW trueW trueW
      · obtain rfl : i = f.topics.length := by omega
        rw [all_of hp]
        clear hp
        exact wk trueW trueW trueW
    · rw [decide_eq_true hm] at c1
      clear hm
      refine LFx.mk' tt Try.func34 rfl rfl rfl (by kernel_rfl) rfl rfl fun F => ?_
      refine wk ?_ trueW trueW
      refine LC.loopN (fun i => [(2, .p 2 0), (3, .p 3 0), (20, wsV f.topics), (21, .k (.int .i64 ((f.topics.length : Nat) : Int))), (22, .k (.int .i64 ((i : Nat) : Int)))]) (fun i => [(2, .b (flC f)), (3, .b (lgC l))]) (fun i => i ≤ f.topics.length ∧ (∀ j, j < i → f.topics.getD j default ∈ l.topics)) ((f.topics.length - ·)) (0) ⟨by omega, fun j hj => by omega⟩ ⟨rfl, rfl, rfl, rfl, rfl, trivial⟩ ⟨rfl, rfl, trivial⟩ rfl rfW rfW ?_
      rintro i ⟨hi, hp⟩
      rcases Nat.lt_or_ge i f.topics.length with h | h
      · have hmt := kf.tops _ (getD_mem' (d := default) h)
        have c1 := ContainsW l.topics (f.topics.getD i default) (by have := kl.tl; omega) kl.tops hmt
        have hlw := limbs_len (f.topics.getD i default)
        by_cases hm : f.topics.getD i default ∈ l.topics
        · have hok : i + 1 ≤ f.topics.length ∧ ∀ j, j < i + 1 → f.topics.getD j default ∈ l.topics := ⟨h, all_step h hm hp⟩
          rw [decide_eq_true hm] at c1
          clear hp
          exact wk trueW trueW trueW
        · rw [decide_eq_false hm] at c1
          rw [all_not h hm]
          clear hp
          exact wk trueW trueW trueW
      · obtain rfl : i = f.topics.length := by omega
        rw [all_of hp]
        clear hp
        exact wk trueW trueW trueW
  · have e1 : (decide (f.addrs = []) || decide (l.addr ∈ f.addrs)) = false := by
      have h1 : ¬ f.addrs = [] := fun e => ha (.inl e)
      have h2 : ¬ l.addr ∈ f.addrs := fun e => ha (.inr e)
      rw [decide_eq_false h1, decide_eq_false h2]; rfl
    unfold lets
    rw [e1, Bool.false_and]
    have hc : 0 < f.addrs.length := by
      rcases Nat.eq_zero_or_pos f.addrs.length with h | h
      · exact absurd (.inl (List.eq_nil_of_length_eq_zero h)) ha
      · exact h
    rw [decide_eq_false fun e => ha (.inr e)] at c1
    clear ha e1
    refine LFx.mk' tt Try.func34 rfl rfl rfl (by kernel_rfl) rfl rfl fun F => ?_
    exact wk trueW trueW trueW
theorem own_raw (n x i : Value) (a : List UInt8) (ts : List Nat) (dt : List UInt8) (ka : a.length = 8) (ht : ts.length < 2000000) (hd : dt.length < 2000000) : LF Try.prog 35 [.a (fdS (.k n) (.k x) (.k i) a (wsV ts) (bsV dt))] (fun _ => .a (fdS (.k n) (.k x) (.k i) a (wsV ts) (bsV dt))) none := by
  have ld1 := @fd_t
  have ld2 := @fd_d
  have sp1 := @fd_set
  have hll := @fdS_len (.k n) (.k x) (.k i) (wsV ts) (bsV dt) a ka
  have hrf := fdS_refs
  have c1 := CloneW ts (by omega)
  have c2 := CloneB dt (by omega)
  refine LFx.mk' tt Try.func35 rfl rfl rfl (by kernel_rfl) rfl rfl fun F => ?_
  exact wk trueW trueW trueW
/-- One's own copy of a find. -/
theorem own_ (d : Fd) (k : d.log.ok) : LF Try.prog 35 [fdV d] (fun _ => fdV d) none := own_raw _ _ _ _ _ _ k.addr k.tl k.dl
end Sf
end Lf
end Go.Proofs.Ytpchigdcikknmaa

/- Sift: what a filter may let through. -/
namespace Go.Proofs.Ytpchigdcikknmaa
open Go.RowKit Rg Wm Ar
set_option linter.unusedVariables false
set_option maxRecDepth 100000
namespace Lf
/-- May the text be in the set? -/
def mayT (h t : List UInt8) : Bool := decide (J (ofB [t]) h = h)
def mayB (f : Fl) (h : List UInt8) : Bool := (f.topics.all fun t => mayT h (wordB t)) && (decide (f.addrs = []) || f.addrs.any (mayT h))
theorem any_of {l : List (List UInt8)} {p : List UInt8 → Bool} : l.any p = true ↔ ∃ x ∈ l, p x = true := by rw [List.any_eq_true]
section
variable {P : Program} {o : Oper} {env : Env} {v : V}
/-- A call by a value and a slice over a box. -/
theorem Does.callSb2 {α : Type} {f : α → V} {fx i n cap : Nat} {xs : List Operand} {ts : Array Nat} {cs : List V} {l : List α} {u : V} (hc : LM P fx [u, .s none (l.map f)] [] fun o m => o = .ret v ∧ m = []) (ho : o.op = .call { callee := .value (.func fx), args := xs.toArray, argTypes := ts }) (hx : evs env xs = some [u, .sb i 0 n cap])
    (hcs : cs = l.map f) (hu : u.refs [] = true) (hf : ∀ a, (f a).cells = [f a]) (hl : l.length = n) (hr : V.refs.go [] cs = true) (hn : n ≤ cap) (hmx : cap ≤ maxLen) (hp : v.pure = true) : Does P o env v [(i, some (.b cs), none)] :=
  Does.callV [(i, .b cs)] hc ho hx (.cons (.same (fun _ => true) false (cv_same u) hu) (.cons (.sb (size := 1) (aget_self ..) hr (by
    rw [Nat.mul_one, List.drop_zero, hcs, List.take_of_length_le (by rw [List.length_map]; omega), List.flatMap_map]
    clear hc hcs hl
    induction l with
    | nil => rfl
    | cons a l ih => rw [List.flatMap_cons, hf, List.map_cons, ← ih]; rfl) (by rw [List.length_map]; exact hl) (fun e he => by obtain ⟨a, _, rfl⟩ := List.mem_map.1 he; rw [hf]; rfl) (by decide) hn hmx) .nil)) hp
end
namespace Sf
set_option maxHeartbeats 1000000 in
theorem may1 (h a : List UInt8) (hh : h.length = 32) (ha : a.length = 8) : LM Try.prog 38 [adV a, .p 1000 0] [(1000, .b (h.map bK))] fun o m => o = .ret (.k (.bool (mayT h a))) ∧ m = [(1000, .b (h.map bK))] := by
  have c1 := Bl.May h a hh (by omega) (r := mayT h a) rfl
  generalize mayT h a = r at *
  refine LM.enter tt Try.func38 rfl rfl rfl (by kernel_rfl) rfl rfl rfl (fun o mo h => by rw [h.2]; rfl) fun F _ => ?_
  refine wk ?_ trueW trueW
  refine DR.rr rfl rfl (Does.callSb2 c1 rfl rfl rfl (refs_bK _ _) (fun _ => rfl) (by omega) (refs_bK _ _) (by decide) (by decide) rfl) rfl rfl ?_
  exact wk trueW trueW trueW
theorem may1k (h a : List UInt8) (hh : h.length = 32) (ha : a.length = 8) (k : Nat) : LM Try.prog 38 [adV a, .p k 0] [(k, .b (h.map bK))] fun o m => o = .ret (.k (.bool (mayT h a))) ∧ m = [(k, .b (h.map bK))] :=
  LM.box1 (fun k => [adV a, .p k 0]) (fun ρ k => by show [V.ren ρ (adV a), _] = _; rw [show V.ren ρ (adV a) = adV a from ren_refs _ (by show V.refs.go [] _ = true; exact refs_bK _ _)]; rfl) (refs_bK _ _) (refs_bK _ _) rfl (may1 h a hh ha) k
set_option maxHeartbeats 1000000 in
theorem IndexF_yes (al : List (List UInt8)) (h : List UInt8) (hh : h.length = 32) (hal : ∀ a ∈ al, a.length = 8) (hn : al.length < 4611686018427387904) (k : Nat) (hk : k < al.length) (he : mayT h (al.getD k default) = true) (hlt : ∀ j, j < k → ¬ mayT h (al.getD j default) = true) :
    LM Try.prog 44 [asV al, .f (.func 38) [] [.p 1000 0]] [(1000, .b (h.map bK))] fun o m => o = .ret (iK k) ∧ m = [(1000, .b (h.map bK))] := by
  have hrf := refs_bK
  refine LM.enter tt Try.func44 rfl rfl rfl (by kernel_rfl) rfl rfl rfl (fun o mo h => by rw [h.2]; rfl) fun F _ => ?_
  refine wk ?_ trueW trueW
  refine LC.loopN (fun i => [(0, asV al), (1, .f (.func 38) [] [.p 1000 0]), (6, asV al), (7, .k (.int .i64 ((al.length : Nat) : Int))), (8, .k (.int .i64 ((i : Nat) : Int)))]) (fun i => [(1000, .b (h.map bK))]) (fun i => i ≤ k) ((al.length - ·)) (0) (by omega) ⟨rfl, rfl, rfl, rfl, rfl, trivial⟩ ⟨rfl, trivial⟩ rfl rfW rfW ?_
  intro i hi
  have hlt' : i < al.length := by omega
  have hl2 := hal _ (getD_mem' (d := default) hlt')
  have c1 := may1 h (al.getD i default) hh hl2
  by_cases h : i = k
  · subst h
    rw [he] at c1
    clear he hlt
    exact wk trueW trueW trueW
  · have hok : i + 1 ≤ k := by omega
    rw [show mayT _ (al.getD i default) = false from by simpa using hlt i (by omega)] at c1
    clear he hlt
    exact wk trueW trueW trueW
set_option maxHeartbeats 1000000 in
theorem IndexF_no (al : List (List UInt8)) (h : List UInt8) (hh : h.length = 32) (hal : ∀ a ∈ al, a.length = 8) (hn : al.length < 4611686018427387904) (hno : ∀ a ∈ al, ¬ mayT h a = true) :
    LM Try.prog 44 [asV al, .f (.func 38) [] [.p 1000 0]] [(1000, .b (h.map bK))] fun o m => o = .ret (.k (.int .i64 (-1))) ∧ m = [(1000, .b (h.map bK))] := by
  have hrf := refs_bK
  refine LM.enter tt Try.func44 rfl rfl rfl (by kernel_rfl) rfl rfl rfl (fun o mo h => by rw [h.2]; rfl) fun F _ => ?_
  refine wk ?_ trueW trueW
  refine LC.loopN (fun i => [(0, asV al), (1, .f (.func 38) [] [.p 1000 0]), (6, asV al), (7, .k (.int .i64 ((al.length : Nat) : Int))), (8, .k (.int .i64 ((i : Nat) : Int)))]) (fun i => [(1000, .b (h.map bK))]) (fun i => i ≤ al.length) ((al.length - ·)) (0) (by omega) ⟨rfl, rfl, rfl, rfl, rfl, trivial⟩ ⟨rfl, trivial⟩ rfl rfW rfW ?_
  intro i hi
  by_cases hlt' : i < al.length
  · have hm := getD_mem' (d := default) hlt'
    have hl2 := hal _ hm
    have c1 := may1 h (al.getD i default) hh hl2
    have hok : i + 1 ≤ al.length := hlt'
    rw [show mayT _ (al.getD i default) = false from by simpa using hno _ hm] at c1
    clear hno hm
    exact wk trueW trueW trueW
  · clear hno
    exact wk trueW trueW trueW
set_option maxHeartbeats 1000000 in
theorem ContainsF (al : List (List UInt8)) (h : List UInt8) (hh : h.length = 32) (hal : ∀ a ∈ al, a.length = 8) (hn : al.length < 4611686018427387904) :
    LM Try.prog 37 [asV al, .f (.func 38) [] [.p 1000 0]] [(1000, .b (h.map bK))] fun o m => o = .ret (.k (.bool (al.any (mayT h)))) ∧ m = [(1000, .b (h.map bK))] := by
  have hrf := refs_bK
  cases hx : al.any (mayT h) with
  | true =>
    obtain ⟨k, h1, h2, h3⟩ := first_of (p := fun a => mayT h a = true) (any_of.1 hx)
    have c1 := IndexF_yes al h hh hal hn k h1 h2 h3
    clear h2 h3 hx
    refine LM.enter tt Try.func37 rfl rfl rfl (by kernel_rfl) rfl rfl rfl (fun o mo h => by rw [h.2]; rfl) fun F _ => ?_
    exact wk trueW trueW trueW
  | false =>
    have c1 := IndexF_no al h hh hal hn fun a ha e => by rw [any_of.2 ⟨a, ha, e⟩] at hx; cases hx
    clear hx
    refine LM.enter tt Try.func37 rfl rfl rfl (by kernel_rfl) rfl rfl rfl (fun o mo h => by rw [h.2]; rfl) fun F _ => ?_
    exact wk trueW trueW trueW
theorem ContainsFk (al : List (List UInt8)) (h : List UInt8) (hh : h.length = 32) (hal : ∀ a ∈ al, a.length = 8) (hn : al.length < 4611686018427387904) (k : Nat) :
    LM Try.prog 37 [asV al, .f (.func 38) [] [.p k 0]] [(k, .b (h.map bK))] fun o m => o = .ret (.k (.bool (al.any (mayT h)))) ∧ m = [(k, .b (h.map bK))] :=
  LM.box1 (fun k => [asV al, .f (.func 38) [] [.p k 0]]) (fun ρ k => rfl) (refs_bK _ _) (refs_bK _ _) rfl (ContainsF al h hh hal hn) k
end Sf
end Lf
end Go.Proofs.Ytpchigdcikknmaa

/- Sift: may; what is looked at. -/
namespace Go.Proofs.Ytpchigdcikknmaa
open Go.RowKit Rg Wm Ar
set_option linter.unusedVariables false
set_option maxRecDepth 100000
namespace Lf
namespace Sf
theorem allM_of {ts : List Nat} {p : Nat → Bool} (hp : ∀ j, j < ts.length → p (ts.getD j default) = true) : ts.all p = true := by
  rw [List.all_eq_true]
  intro t ht
  obtain ⟨n, h1, h2⟩ := List.mem_iff_getElem.1 ht
  have := hp n h1
  rwa [List.getD_eq_getElem?_getD, List.getElem?_eq_getElem h1, Option.getD_some, h2] at this
theorem allM_not {ts : List Nat} {p : Nat → Bool} {i : Nat} (h : i < ts.length) (hm : p (ts.getD i default) = false) : ts.all p = false := by
  rw [← Bool.not_eq_true, List.all_eq_true]
  intro ha
  rw [ha _ (getD_mem' h)] at hm
  cases hm
set_option maxHeartbeats 4000000 in
theorem may_ (f : Fl) (h : List UInt8) (kf : f.ok) (hh : h.length = 32) : LF Try.prog 23 [flV f, adV h] (fun _ => .k (.bool (mayB f h))) none := by
  have hrf := refs_bK
  have hal := kf.al
  have htl := kf.tl
  have c2 := Wo.Bytes
  have c1 := ContainsFk f.addrs h hh kf.addrs (by omega) 3
  unfold mayB
  refine LFx.mk' tt Try.func23 rfl rfl rfl (by kernel_rfl) rfl rfl fun F => ?_
  refine wk ?_ trueW trueW
  refine LC.loopN (fun i => [(2, .p 2 0), (3, .p 3 0), (9, wsV f.topics), (10, .k (.int .i64 ((f.topics.length : Nat) : Int))), (11, .k (.int .i64 ((i : Nat) : Int)))]) (fun i => [(2, .b (flC f)), (3, .b (h.map bK))]) (fun i => i ≤ f.topics.length ∧ (∀ j, j < i → mayT h (wordB (f.topics.getD j default)) = true)) ((f.topics.length - ·)) (0) ⟨by omega, fun j hj => by omega⟩ ⟨rfl, rfl, rfl, rfl, rfl, trivial⟩ ⟨rfl, rfl, trivial⟩ rfl rfW rfW ?_
  rintro i ⟨hi, hp⟩
  rcases Nat.lt_or_ge i f.topics.length with hlt | hlt
  · have hlw := limbs_len (f.topics.getD i default)
    have hwl := wordB_len (f.topics.getD i default)
    have c3 := Bl.May h (wordB (f.topics.getD i default)) hh (by omega) (r := mayT h (wordB (f.topics.getD i default))) rfl
    cases hm : mayT h (wordB (f.topics.getD i default)) with
    | true =>
      have hok : i + 1 ≤ f.topics.length ∧ ∀ j, j < i + 1 → mayT h (wordB (f.topics.getD j default)) = true := ⟨hlt, fun j hj => by
        by_cases e : j = i
        · rw [e]; exact hm
        · exact hp j (by omega)⟩
      rw [hm] at c3
      clear hp hm
      refine wk ?_ trueW trueW
      refine DR.rr rfl rfl (Does.callSb2 (n := 32) (cap := 32) c3 rfl rfl rfl (refs_bK _ _) (fun _ => rfl) (by omega) (refs_bK _ _) (by decide) (by decide) rfl) rfl rfl ?_
      exact wk trueW trueW trueW
    | false =>
      rw [allM_not (p := fun t => mayT h (wordB t)) hlt hm, Bool.false_and]
      rw [hm] at c3
      clear hp hm
      refine wk ?_ trueW trueW
      refine DR.rr rfl rfl (Does.callSb2 (n := 32) (cap := 32) c3 rfl rfl rfl (refs_bK _ _) (fun _ => rfl) (by omega) (refs_bK _ _) (by decide) (by decide) rfl) rfl rfl ?_
      exact wk trueW trueW trueW
  · obtain rfl : i = f.topics.length := by omega
    rw [allM_of (p := fun t => mayT h (wordB t)) hp, Bool.true_and]
    clear hp
    by_cases he : f.addrs = []
    · rw [decide_eq_true he, Bool.true_or]
      have h0 : f.addrs.length = 0 := by rw [he]; rfl
      clear he
      exact wk trueW trueW trueW
    · rw [decide_eq_false he, Bool.false_or]
      have h0 : f.addrs.length ≠ 0 := fun e => he (List.eq_nil_of_length_eq_zero e)
      clear he
      generalize f.addrs.any (mayT h) = r at *
      exact wk trueW trueW trueW
set_option maxHeartbeats 1000000 in
theorem look1 (f : Fl) (r : Rc) (kf : f.ok) (kr : r.ok) : LM Try.prog 22 [rcV r, .p 1050 0] [(1050, .b (flC f))] fun o m => o = .ret (.k (.bool (mayB f r.bloom))) ∧ m = [(1050, .b (flC f))] := by
  have kb := kr.bloom
  have ld1 := @rc_b
  have hll := rcC_len kr
  have hrf := rcC_refs
  have c1 := may_ f r.bloom kf kb
  generalize mayB f r.bloom = b at *
  refine LM.enter tt Try.func22 rfl rfl rfl (by kernel_rfl) rfl rfl rfl (fun o mo h => by rw [h.2]; rfl) fun F _ => ?_
  exact wk trueW trueW trueW
set_option maxHeartbeats 1000000 in
theorem look0 (f : Fl) (r : Rc) (kr : r.ok) : LM Try.prog 24 [rcV r] [(1050, .b (flC f))] fun o m => o = .ret (.k (.bool true)) ∧ m = [(1050, .b (flC f))] := by
  have hll := rcC_len kr
  have hrf := rcC_refs
  refine LM.enter tt Try.func24 rfl rfl rfl (by kernel_rfl) rfl rfl rfl (fun o mo h => by rw [h.2]; rfl) fun F _ => ?_
  exact wk trueW trueW trueW
/-- The iterator is made. -/
theorem logs_ (ps : List Pg) (fl : Nat) (cp : List V) (hcp : cp = [] ∨ cp = [.p 1050 0]) (f : Fl) : LM Try.prog 33 [pgsV ps, .f (.func fl) [] cp] [(1050, .b (flC f))] fun o m => o = .ret (.f (.func 40) [] [.p 2 0, .p 3 0]) ∧ m = [(2, .b [pgsV ps]), (3, .b [.f (.func fl) [] cp]), (1050, .b (flC f))] := by
  rcases hcp with rfl | rfl
  · refine LM.enter tt Try.func33 rfl rfl rfl (by kernel_rfl) rfl rfl rfl (fun o mo h => by rw [h.2]; rfl) fun F _ => ?_
    exact wk trueW trueW trueW
  · refine LM.enter tt Try.func33 rfl rfl rfl (by kernel_rfl) rfl rfl rfl (fun o mo h => by rw [h.2]; rfl) fun F _ => ?_
    exact wk trueW trueW trueW
end Sf
end Lf
end Go.Proofs.Ytpchigdcikknmaa

/- Sift: what is found, no program in sight. -/
namespace Go.Proofs.Ytpchigdcikknmaa
open Go.RowKit Rg Wm Ar
set_option maxRecDepth 100000
namespace Lf
/-- The logs of a receipt, by their places. -/
def recF (n i : Nat) (ls : List Lg) : List Fd := ls.mapIdx fun k l => ⟨n, i, k, l⟩
def recsF (lk : Rc → Bool) (n : Nat) (rs : List Rc) : List Fd := (rs.mapIdx fun i r => cond (lk r) (recF n i r.logs) []).flatten
def allF (lk : Rc → Bool) (ps : List Pg) : List Fd := (ps.map fun p => recsF lk p.number p.recs).flatten
theorem take_snoc {α : Type} [Inhabited α] {l : List α} {i : Nat} (h : i < l.length) : l.take (i + 1) = l.take i ++ [l.getD i default] := by
  rw [List.take_succ_eq_append_getElem h, List.getD_eq_getElem?_getD, List.getElem?_eq_getElem h]; rfl
theorem recF_snoc {n i k : Nat} {ls : List Lg} (h : k < ls.length) : recF n i (ls.take (k + 1)) = recF n i (ls.take k) ++ [⟨n, i, k, ls.getD k default⟩] := by
  unfold recF
  rw [take_snoc h, List.mapIdx_append]
  simp [List.length_take, Nat.min_eq_left (Nat.le_of_lt h)]
theorem recsF_snoc {lk : Rc → Bool} {n j : Nat} {rs : List Rc} (h : j < rs.length) : recsF lk n (rs.take (j + 1)) = recsF lk n (rs.take j) ++ cond (lk (rs.getD j default)) (recF n j (rs.getD j default).logs) [] := by
  unfold recsF
  rw [take_snoc h, List.mapIdx_append, List.flatten_append]
  simp [List.length_take, Nat.min_eq_left (Nat.le_of_lt h)]
theorem allF_snoc {lk : Rc → Bool} {i : Nat} {ps : List Pg} (h : i < ps.length) : allF lk (ps.take (i + 1)) = allF lk (ps.take i) ++ recsF lk (ps.getD i default).number (ps.getD i default).recs := by
  unfold allF
  rw [take_snoc h, List.map_append, List.flatten_append]
  simp
theorem allF_split {lk : Rc → Bool} {i : Nat} {ps : List Pg} (h : i < ps.length) : ∃ r, allF lk ps = allF lk (ps.take i) ++ recsF lk (ps.getD i default).number (ps.getD i default).recs ++ r := by
  refine ⟨allF lk (ps.drop (i + 1)), ?_⟩
  rw [← allF_snoc h]
  unfold allF
  rw [← List.flatten_append, ← List.map_append, List.take_append_drop]
theorem recsF_split {lk : Rc → Bool} {n j : Nat} {rs : List Rc} (h : j < rs.length) : ∃ r, recsF lk n rs = recsF lk n (rs.take j) ++ cond (lk (rs.getD j default)) (recF n j (rs.getD j default).logs) [] ++ r := by
  have key : ∀ m, j + 1 + m ≤ rs.length → ∃ r, recsF lk n (rs.take (j + 1 + m)) = recsF lk n (rs.take (j + 1)) ++ r := by
    intro m
    induction m with
    | zero => intro _; exact ⟨[], by simp⟩
    | succ m ih =>
      intro hm
      obtain ⟨r, hr⟩ := ih (by omega)
      exact ⟨_, by rw [← Nat.add_assoc, recsF_snoc (by omega), hr, List.append_assoc]⟩
  obtain ⟨r, hr⟩ := key (rs.length - (j + 1)) (by omega)
  refine ⟨r, ?_⟩
  rw [← recsF_snoc h, ← hr, List.take_of_length_le (by omega)]
theorem recF_split {n i k : Nat} {ls : List Lg} (h : k < ls.length) : ∃ r, recF n i ls = recF n i (ls.take k) ++ [⟨n, i, k, ls.getD k default⟩] ++ r := by
  have key : ∀ m, k + 1 + m ≤ ls.length → ∃ r, recF n i (ls.take (k + 1 + m)) = recF n i (ls.take (k + 1)) ++ r := by
    intro m
    induction m with
    | zero => intro _; exact ⟨[], by simp⟩
    | succ m ih =>
      intro hm
      obtain ⟨r, hr⟩ := ih (by omega)
      exact ⟨_, by rw [← Nat.add_assoc, recF_snoc (by omega), hr, List.append_assoc]⟩
  obtain ⟨r, hr⟩ := key (ls.length - (k + 1)) (by omega)
  refine ⟨r, ?_⟩
  rw [← recF_snoc h, ← hr, List.take_of_length_le (by omega)]
/-- One find more: does it go on? what is collected. -/
def goS (f : Fl) (most : Nat) (S : List Fd) (x : Fd) : Bool := !(lets f x.log && Nat.beq (S.length + 1) most)
def nxS (f : Fl) (S : List Fd) (x : Fd) : List Fd := cond (lets f x.log) (S ++ [x]) S
def runS (f : Fl) (most : Nat) : List Fd → List Fd → List Fd × Bool
  | S, [] => (S, true)
  | S, x :: r => cond (goS f most S x) (runS f most (nxS f S x) r) (nxS f S x, false)
theorem runS_append (f : Fl) (most : Nat) : ∀ (l r S : List Fd), runS f most S (l ++ r) = cond (runS f most S l).2 (runS f most (runS f most S l).1 r) (runS f most S l)
  | [], r, S => rfl
  | x :: l, r, S => by
    rw [List.cons_append, runS, runS]
    cases goS f most S x with
    | true => exact runS_append f most l r _
    | false => rfl
theorem run_go {f : Fl} {most : Nat} {l S : List Fd} {x : Fd} (h : runS f most [] l = (S, true)) (hg : goS f most S x = true) : runS f most [] (l ++ [x]) = (nxS f S x, true) := by
  rw [runS_append, h]
  simp only [cond_true, runS, hg]
theorem run_stop {f : Fl} {most : Nat} {l r S : List Fd} {x : Fd} (h : runS f most [] l = (S, true)) (hg : goS f most S x = false) : runS f most [] (l ++ [x] ++ r) = (nxS f S x, false) := by
  rw [List.append_assoc, runS_append, h]
  simp only [cond_true, List.cons_append, runS, hg, cond_false]
theorem run_len (f : Fl) (most : Nat) : ∀ (l S : List Fd), (runS f most S l).1.length ≤ S.length + l.length
  | [], S => Nat.le_refl _
  | x :: l, S => by
    have hn : (nxS f S x).length ≤ S.length + 1 := by unfold nxS; cases lets f x.log <;> simp
    rw [runS]
    cases goS f most S x with
    | true => have := run_len f most l (nxS f S x); simp only [cond_true, List.length_cons]; omega
    | false => simp only [cond_false, List.length_cons]; omega
/-- What is collected: the first ones of those that are let through. -/
theorem run_eq (f : Fl) (most : Nat) : ∀ (l S : List Fd), S.length < most → (runS f most S l).1 = S ++ (l.filter fun x => lets f x.log).take (most - S.length)
  | [], S, _ => by simp [runS]
  | x :: l, S, h => by
    rw [runS]
    cases hx : lets f x.log with
    | false =>
      have e1 : goS f most S x = true := by unfold goS; rw [hx]; rfl
      have e2 : nxS f S x = S := by unfold nxS; rw [hx]; rfl
      rw [e1, e2, List.filter_cons_of_neg (by rw [hx]; exact Bool.false_ne_true)]
      exact run_eq f most l S h
    | true =>
      have e2 : nxS f S x = S ++ [x] := by unfold nxS; rw [hx]; rfl
      rw [e2, List.filter_cons_of_pos (p := fun x : Fd => lets f x.log) hx]
      by_cases hm : S.length + 1 = most
      · have e1 : goS f most S x = false := by unfold goS; rw [hx, hm, Nat.beq_refl]; rfl
        rw [e1, show most - S.length = 1 from by omega]
        simp
      · have e1 : goS f most S x = true := by
          unfold goS
          have : Nat.beq (S.length + 1) most = false := by rw [← Bool.not_eq_true]; intro e; exact hm (Nat.eq_of_beq_eq_true e)
          rw [hx, this]; rfl
        rw [e1, cond_true, run_eq f most l (S ++ [x]) (by simp; omega)]
        rw [List.length_append, List.length_singleton, show most - S.length = (most - (S.length + 1)) + 1 from by omega, List.take_succ_cons]
        simp
theorem pre_len {lk : Rc → Bool} {ps : List Pg} {i j k : Nat} (hi : i < ps.length) (hj : j < (ps.getD i default).recs.length) (hl : lk ((ps.getD i default).recs.getD j default) = true) (hk : k < ((ps.getD i default).recs.getD j default).logs.length) :
    ∃ r, allF lk ps = allF lk (ps.take i) ++ recsF lk (ps.getD i default).number ((ps.getD i default).recs.take j) ++ recF (ps.getD i default).number j (((ps.getD i default).recs.getD j default).logs.take k) ++ [⟨(ps.getD i default).number, j, k, ((ps.getD i default).recs.getD j default).logs.getD k default⟩] ++ r := by
  obtain ⟨r1, h1⟩ := allF_split (lk := lk) hi
  obtain ⟨r2, h2⟩ := recsF_split (lk := lk) (n := (ps.getD i default).number) hj
  rw [hl, cond_true] at h2
  obtain ⟨r3, h3⟩ := recF_split (n := (ps.getD i default).number) (i := j) hk
  refine ⟨r3 ++ r2 ++ r1, ?_⟩
  rw [h1, h2, h3]
  simp only [List.append_assoc]
theorem run_sub (f : Fl) (most : Nat) : ∀ (l S : List Fd), ∀ d ∈ (runS f most S l).1, d ∈ S ∨ d ∈ l
  | [], S, d, h => .inl h
  | x :: l, S, d, h => by
    have hn : ∀ d ∈ nxS f S x, d ∈ S ∨ d = x := fun d hd => by
      unfold nxS at hd
      cases hx : lets f x.log with
      | true => rw [hx] at hd; simpa using hd
      | false => rw [hx] at hd; exact .inl hd
    rw [runS] at h
    cases hg : goS f most S x with
    | true =>
      rw [hg] at h
      rcases run_sub f most l (nxS f S x) d h with h | h
      · rcases hn d h with h | h
        · exact .inl h
        · exact .inr (by rw [h]; simp)
      · exact .inr (by simp [h])
    | false =>
      rw [hg] at h
      rcases hn d h with h | h
      · exact .inl h
      · exact .inr (by rw [h]; simp)
theorem recF_ok {n i : Nat} {ls : List Lg} (hn : n < 18446744073709551616) (hi : i < 2000000) (hl : ls.length < 2000000) (hs : ∀ l ∈ ls, l.ok) : ∀ d ∈ recF n i ls, d.ok := fun d hd => by
  unfold recF at hd
  obtain ⟨k, hk, rfl⟩ := List.mem_mapIdx.1 hd
  exact ⟨hn, hi, by show k < _; omega, hs _ (List.getElem_mem hk)⟩
theorem recsF_ok {lk : Rc → Bool} {n : Nat} {rs : List Rc} (hn : n < 18446744073709551616) (hl : rs.length < 2000000) (hs : ∀ r ∈ rs, r.ok) : ∀ d ∈ recsF lk n rs, d.ok := fun d hd => by
  unfold recsF at hd
  obtain ⟨l, hl1, hd⟩ := List.mem_flatten.1 hd
  obtain ⟨k, hk, rfl⟩ := List.mem_mapIdx.1 hl1
  have hr := hs _ (List.getElem_mem hk)
  cases h : lk rs[k] with
  | true => rw [h] at hd; exact recF_ok hn (by omega) hr.ll hr.logs d hd
  | false => rw [h] at hd; cases hd
theorem allF_ok {lk : Rc → Bool} {ps : List Pg} (hs : ∀ p ∈ ps, p.ok) : ∀ d ∈ allF lk ps, d.ok := fun d hd => by
  unfold allF at hd
  obtain ⟨l, hl1, hd⟩ := List.mem_flatten.1 hd
  obtain ⟨p, hp, rfl⟩ := List.mem_map.1 hl1
  have hr := hs _ hp
  exact recsF_ok hr.number hr.rl hr.recs d hd
theorem all_nil (lk : Rc → Bool) : allF lk [] = [] := rfl
theorem recs_nil (lk : Rc → Bool) (n : Nat) : recsF lk n [] = [] := rfl
theorem rec_nil (n i : Nat) : recF n i [] = [] := rfl
theorem run_nil (f : Fl) (most : Nat) (S : List Fd) : runS f most S [] = (S, true) := rfl
theorem goS_no {f : Fl} {most : Nat} {S : List Fd} {x : Fd} (h : lets f x.log = false) : goS f most S x = true := by unfold goS; rw [h]; rfl
theorem nxS_no {f : Fl} {S : List Fd} {x : Fd} (h : lets f x.log = false) : nxS f S x = S := by unfold nxS; rw [h]; rfl
theorem nxS_yes {f : Fl} {S : List Fd} {x : Fd} (h : lets f x.log = true) : nxS f S x = S ++ [x] := by unfold nxS; rw [h]; rfl
theorem goS_last {f : Fl} {most : Nat} {S : List Fd} {x : Fd} (h : lets f x.log = true) (hm : S.length + 1 = most) : goS f most S x = false := by unfold goS; rw [h, hm, Nat.beq_refl]; rfl
theorem goS_more {f : Fl} {most : Nat} {S : List Fd} {x : Fd} (hm : ¬ S.length + 1 = most) : goS f most S x = true := by
  unfold goS
  have : Nat.beq (S.length + 1) most = false := by rw [← Bool.not_eq_true]; intro e; exact hm (Nat.eq_of_beq_eq_true e)
  rw [this, Bool.and_false]; rfl
attribute [irreducible] goS nxS runS recF recsF allF
end Lf
end Go.Proofs.Ytpchigdcikknmaa

/- Sift: the iterator. -/
namespace Go.Proofs.Ytpchigdcikknmaa
open Go.RowKit Rg Wm Ar
set_option linter.unusedVariables false
set_option maxRecDepth 100000
namespace Lf
abbrev memG (ps : List Pg) (f : Fl) (most fl : Nat) (cp : List V) (S : List Fd) : Mem := [(1016, .b [pgsV ps]), (1017, .b [.f (.func fl) [] cp]), (1050, .b (flC f)), (1005, .b (flC f)), (1006, .b [iK most]), (1009, .b [.s (some 1090) (S.map fdV)]), (1090, .r 43 13 S.length)]
def okY (S : List Fd) (x : Fd) : Prop := S.length < 2000000 ∧ x.ok ∧ ∀ d ∈ S, d.ok
/-- What the rounds do. -/
def Ys (ps : List Pg) (f : Fl) (most fl : Nat) (cp : List V) (lo : LoF) (g : Gh) (w : World) : Prop :=
  ∀ S x, okY S x → LY Try.prog g w 1999 [fdV x] ((1999, .o (lo .ready none)) :: memG ps f most fl cp S) fun q m => q = .ret (.k (.bool (goS f most S x))) ∧ m = (1999, .o (endO lo 0 (goS f most S x))) :: memG ps f most fl cp (nxS f S x)
theorem siftRefs (m : List (Nat × M)) : (∀ (n x i : Value) (a : List UInt8) (t u : List V), V.refs.go m (fdS (.k n) (.k x) (.k i) a (.s none t) (.s none u)) = true) ∧ (∀ r : Rc, V.refs.go m (rcC r) = true) ∧ (∀ (a : List UInt8) (t u : List V), V.refs.go m (lgS a (.s none t) (.s none u)) = true) ∧ (∀ d : Fd, V.refs.go m (fdC d) = true) := ⟨fdS_refs m, rcC_refs m, lgS_refs m, fun _ => fdS_refs m _ _ _ _ _ _⟩
theorem aget_keys {α : Type} : ∀ {l m : List (Nat × α)} {i : Nat}, l.map (·.1) = m.map (·.1) → aget l i = none → aget m i = none
  | [], [], _, _, _ => rfl
  | [], _ :: _, _, h, _ => by simp at h
  | _ :: _, [], _, h, _ => by simp at h
  | (a, x) :: l, (b, y) :: m, i, h, hi => by
    simp only [List.map_cons, List.cons.injEq] at h
    obtain ⟨rfl, h⟩ := h
    rw [aget_cons] at hi ⊢
    split at hi
    · cases hi
    · rename_i hne; rw [if_neg hne]; exact aget_keys h hi
theorem LS.yield {P : Program} {F : Fr0} {N : Nat} {Q : LQ} {ops : Array Oper} {rs : List Oper} {o : Oper} {env : Env} {mem : Mem} {y d : Nat} {f : Operand} {xs : List Operand} {ts : Array Nat} {us args : List V} {mi mo : Mem} {v : V} (hc : LY P F.gh F.w0 y args mi fun q m => q = .ret v ∧ m = mo) (hg : gd ops env o = some true) (hds : o.dst = some d)
    (ho : o.op = .call { callee := .value f, args := xs.toArray, argTypes := ts }) (hf : evo env f = some (.y y)) (hx : evs env xs = some us) (hu : Fits us args) (hr : (V.refs.go mi args && (refsM mi mi && keysOk mi mo)) = true) (hy : (aget mi y).isSome = true) (hk : ∀ i, aget mi i = none → F.bx0 i = none ∧ F.rw0 i = none) (ht : TPre mi mo mem) (hd : Nat.blt d N = true)
    (hK : LS P F N ops rs Q ((d, v) :: env) (mo ++ mem)) : LS P F N ops (o :: rs) Q env mem :=
  LS.stepF hg (DoesF.yield hc ho hf hx hu hr hy hk) (tpre_callT ht) (by rw [hds]; exact hd) (by rw [hds, tset_call]; exact hK)
theorem fdV_refs (m : List (Nat × M)) (d : Fd) : V.refs.go m [fdV d] = true := by
  show (V.refs.go m (fdC d) && true) = true
  rw [show V.refs.go m (fdC d) = true from fdS_refs m _ _ _ _ _ _]
  rfl
def zerosF : List Z := [.int .u64, .int .i64, .int .i64, .int .u8, .int .u8, .int .u8, .int .u8, .int .u8, .int .u8, .int .u8, .int .u8, .sl, .sl]
theorem cv_app' (keep : Nat → Bool) (nn : Bool) : ∀ a b : List V, V.cv.go keep nn (a ++ b) = V.cv.go keep nn a ++ V.cv.go keep nn b
  | [], _ => rfl
  | x :: r, b => by rw [List.cons_append, V.cv.go, V.cv.go, cv_app' keep nn r b]; rfl
theorem find_b {a : List UInt8} (k : a.length = 8) (n x i : Value) (hn : n.oneCell' = true) (hx : x.oneCell' = true) (hi : i.oneCell' = true) (ts dt : List V) : ∃ cs, vfill (fun i => [(0, 1), (1, 1), (2, 1), (3, 10)][i]?) (zerosF.map Z.v) [(0, .k n), (1, .k x), (2, .k i), (3, .a (lgS a (.s none ts) (.s none dt)))] = some cs ∧ V.cv.go (fun _ => false) true cs = fdS (.k n) (.k x) (.k i) a (.s none ts) (.s none dt) := by
  have hl := lgS_len (t := .s none ts) (u := .s none dt) k
  refine ⟨.k n :: .k x :: .k i :: lgS a (.s none ts) (.s none dt), ?_, ?_⟩
  · have e4 : splice (.k n :: .k x :: .k i :: ((zerosF.drop 3).map Z.v)) 3 (lgS a (.s none ts) (.s none dt)) = .k n :: .k x :: .k i :: lgS a (.s none ts) (.s none dt) := by
      unfold splice
      rw [List.drop_of_length_le (l := V.k n :: V.k x :: V.k i :: ((zerosF.drop 3).map Z.v)) (by rw [hl]; exact Nat.le_refl 13)]
      simp
    have e1 : splice (zerosF.map Z.v) 0 (V.k n).cells = .k n :: ((zerosF.drop 1).map Z.v) := rfl
    have e2 : splice (.k n :: ((zerosF.drop 1).map Z.v)) 1 (V.k x).cells = .k n :: .k x :: ((zerosF.drop 2).map Z.v) := rfl
    have e3 : splice (.k n :: .k x :: ((zerosF.drop 2).map Z.v)) 2 (V.k i).cells = .k n :: .k x :: .k i :: ((zerosF.drop 3).map Z.v) := rfl
    have c4 : (V.a (lgS a (.s none ts) (.s none dt))).cells = lgS a (.s none ts) (.s none dt) := rfl
    have l1 : (V.k n).cells.length = 1 := rfl
    have l2 : (V.k x).cells.length = 1 := rfl
    have l3 : (V.k i).cells.length = 1 := rfl
    have z0 : (zerosF.map Z.v).length = 13 := rfl
    have z1 : (V.k n :: ((zerosF.drop 1).map Z.v)).length = 13 := rfl
    have z2 : (V.k n :: .k x :: ((zerosF.drop 2).map Z.v)).length = 13 := rfl
    have z3 : (V.k n :: .k x :: .k i :: ((zerosF.drop 3).map Z.v)).length = 13 := rfl
    have o1 : (V.k n).ok = true := hn
    have o2 : (V.k x).ok = true := hx
    have o3 : (V.k i).ok = true := hi
    have o4 : (V.a (lgS a (.s none ts) (.s none dt))).ok = true := rfl
    simp only [vfill, List.getElem?_cons_zero, List.getElem?_cons_succ, e1, e2, e3, c4, e4, l1, l2, l3, hl, z0, z1, z2, z3, o1, o2, o3, o4]
    rfl
  · rw [fdS_eq, V.cv.go, V.cv.go, V.cv.go, lgS_eq, cv_app', cv_mapb]
    rfl
namespace Sf
set_option maxHeartbeats 8000000 in
theorem iter0 (ps : List Pg) (f : Fl) (most fl : Nat) (lk : Rc → Bool) (hps : ∀ p ∈ ps, p.ok) (hpl : ps.length < 2000000) (hlk : ∀ r, r.ok → LM Try.prog fl [rcV r] [(1050, .b (flC f))] fun o m => o = .ret (.k (.bool (lk r))) ∧ m = [(1050, .b (flC f))])
    (hT : (allF lk ps).length < 2000000) (lo : LoF) :
    LI Try.prog 40 [.y 1999, .p 1016 0, .p 1017 0] ((1999, .o (lo .ready none)) :: memG ps f most fl [] []) (Ys ps f most fl [] lo)
      fun q m => q = .ret (.t []) ∧ m = (1999, .o (endO lo 0 (runS f most [] (allF lk ps)).2)) :: memG ps f most fl [] (runS f most [] (allF lk ps)).1 := by
  have hrf := siftRefs
  refine LI.enter tt Try.func40 rfl rfl rfl (by kernel_rfl) rfl rfl rfl (fun o mo h => by rw [h.2]; rfl) fun F hD hY hkF => ?_
  unfold Ys at hY
  refine wk ?_ trueW trueW
  refine LC.loop2 (fun i S => [(0, .y 1999), (1, .p 1016 0), (2, .p 1017 0), (10, pgsV ps), (11, .k (.int .i64 ((ps.length : Nat) : Int))), (12, .k (.int .i64 ((i : Nat) : Int)))]) (fun i S => [(1999, .o (lo .ready none)), (1016, .b [pgsV ps]), (1017, .b [.f (.func fl) [] []]), (1050, .b (flC f)), (1005, .b (flC f)), (1006, .b [iK most]), (1009, .b [.s (some 1090) (S.map fdV)]), (1090, .r 43 13 S.length)]) (fun i S => i ≤ ps.length ∧ runS f most [] (allF lk (ps.take i)) = (S, true)) ((ps.length - ·)) (0) ([]) ⟨by omega, by rw [List.take_zero, all_nil, run_nil]⟩ ⟨rfl, rfl, rfl, rfl, rfl, rfl, trivial⟩ ⟨rfl, rfl, rfl, rfl, rfl, rfl, rfl, rfl, trivial⟩ rfl rfW rfW ?_
  rintro i S ⟨hi, hS⟩
  rcases Nat.lt_or_ge i ps.length with h | h
  · have hpi := hps _ (getD_mem' (d := default) h)
    have hrl := hpi.rl
    refine wk ?_ trueW trueW
    refine LC.loop2 (fun j S2 => [(0, .y 1999), (1, .p 1016 0), (2, .p 1017 0), (5, .p 5 0), (10, pgsV ps), (11, .k (.int .i64 ((ps.length : Nat) : Int))), (12, .k (.int .i64 ((i : Nat) : Int))), (17, rcsV (ps.getD i default).recs), (18, .k (.int .i64 (((ps.getD i default).recs.length : Nat) : Int))), (19, .k (.int .i64 ((j : Nat) : Int)))]) (fun j S2 => [(5, .b (pgC (ps.getD i default))), (1999, .o (lo .ready none)), (1016, .b [pgsV ps]), (1017, .b [.f (.func fl) [] []]), (1050, .b (flC f)), (1005, .b (flC f)), (1006, .b [iK most]), (1009, .b [.s (some 1090) (S2.map fdV)]), (1090, .r 43 13 S2.length)]) (fun j S2 => j ≤ (ps.getD i default).recs.length ∧ runS f most [] (allF lk (ps.take i) ++ recsF lk (ps.getD i default).number ((ps.getD i default).recs.take j)) = (S2, true)) (((ps.getD i default).recs.length - ·)) (0) (S) ⟨by omega, by rw [List.take_zero, recs_nil, List.append_nil]; exact hS⟩ ⟨rfl, rfl, rfl, rfl, rfl, rfl, rfl, rfl, rfl, rfl, trivial⟩ ⟨rfl, rfl, rfl, rfl, rfl, rfl, rfl, rfl, rfl, trivial⟩ rfl rfW rfW ?_
    rintro j S2 ⟨hj, hS2⟩
    rcases Nat.lt_or_ge j (ps.getD i default).recs.length with h2 | h2
    · have hrj := hpi.recs _ (getD_mem' (d := default) h2)
      have hll := rcC_len hrj
      have ld1 := @rc_l
      have hlg := hrj.ll
      have c1 := hlk _ hrj
      cases hl : lk ((ps.getD i default).recs.getD j default) with
      | false =>
        rw [hl] at c1
        have hok : j + 1 ≤ (ps.getD i default).recs.length ∧ runS f most [] (allF lk (ps.take i) ++ recsF lk (ps.getD i default).number ((ps.getD i default).recs.take (j + 1))) = (S2, true) := ⟨h2, by rw [recsF_snoc h2, hl, cond_false, List.append_nil]; exact hS2⟩
        clear hS hS2 hY
        exact wk trueW trueW trueW
      | true =>
        rw [hl] at c1
        refine wk ?_ trueW trueW
        refine LC.loop2 (fun k S3 => [(0, .y 1999), (1, .p 1016 0), (2, .p 1017 0), (5, .p 5 0), (6, .k (.int .i64 ((j : Nat) : Int))), (7, .p 7 0), (10, pgsV ps), (11, .k (.int .i64 ((ps.length : Nat) : Int))), (12, .k (.int .i64 ((i : Nat) : Int))), (17, rcsV (ps.getD i default).recs), (18, .k (.int .i64 (((ps.getD i default).recs.length : Nat) : Int))), (19, .k (.int .i64 ((j : Nat) : Int))), (29, lgsV ((ps.getD i default).recs.getD j default).logs), (30, .k (.int .i64 ((((ps.getD i default).recs.getD j default).logs.length : Nat) : Int))), (31, .k (.int .i64 ((k : Nat) : Int)))]) (fun k S3 => [(5, .b (pgC (ps.getD i default))), (7, .b (rcC ((ps.getD i default).recs.getD j default))), (1999, .o (lo .ready none)), (1016, .b [pgsV ps]), (1017, .b [.f (.func fl) [] []]), (1050, .b (flC f)), (1005, .b (flC f)), (1006, .b [iK most]), (1009, .b [.s (some 1090) (S3.map fdV)]), (1090, .r 43 13 S3.length)]) (fun k S3 => k ≤ ((ps.getD i default).recs.getD j default).logs.length ∧ runS f most [] (allF lk (ps.take i) ++ recsF lk (ps.getD i default).number ((ps.getD i default).recs.take j) ++ recF (ps.getD i default).number j (((ps.getD i default).recs.getD j default).logs.take k)) = (S3, true)) ((((ps.getD i default).recs.getD j default).logs.length - ·)) (0) (S2) ⟨by omega, by rw [List.take_zero, rec_nil, List.append_nil]; exact hS2⟩ ⟨rfl, rfl, rfl, rfl, rfl, rfl, rfl, rfl, rfl, rfl, rfl, rfl, rfl, rfl, rfl, trivial⟩ ⟨rfl, rfl, rfl, rfl, rfl, rfl, rfl, rfl, rfl, rfl, trivial⟩ rfl rfW rfW ?_
        rintro k S3 ⟨hk, hS3⟩
        rcases Nat.lt_or_ge k ((ps.getD i default).recs.getD j default).logs.length with h3 | h3
        · have hlgk := hrj.logs _ (getD_mem' (d := default) h3)
          have hla := hlgk.addr
          have hll2 : (lgC (((ps.getD i default).recs.getD j default).logs.getD k default)).length = 10 := lgS_len hla
          have hp1 : PanIn 10 7 := ⟨trivial⟩
          have hpn := hpi.number
          obtain ⟨cs, b1, b2⟩ := find_b hla (.int .u64 (((ps.getD i default).number : Nat) : Int)) (.int .i64 ((j : Nat) : Int)) (.int .i64 ((k : Nat) : Int)) rfl rfl rfl ((((ps.getD i default).recs.getD j default).logs.getD k default).topics.map wV) ((((ps.getD i default).recs.getD j default).logs.getD k default).data.map bK)
          have hxo : okY S3 ⟨(ps.getD i default).number, j, k, ((ps.getD i default).recs.getD j default).logs.getD k default⟩ := by
            obtain ⟨r, hr⟩ := pre_len h h2 hl h3
            have hal := allF_ok (lk := lk) hps
            have h6 := run_sub f most (allF lk (ps.take i) ++ recsF lk (ps.getD i default).number ((ps.getD i default).recs.take j) ++ recF (ps.getD i default).number j (((ps.getD i default).recs.getD j default).logs.take k)) []
            have h5 := run_len f most (allF lk (ps.take i) ++ recsF lk (ps.getD i default).number ((ps.getD i default).recs.take j) ++ recF (ps.getD i default).number j (((ps.getD i default).recs.getD j default).logs.take k)) []
            rw [hS3] at h5 h6
            rw [hr] at hT hal
            simp only [List.length_append, List.length_cons, List.length_nil] at h5 hT
            exact ⟨by omega, ⟨hpn, by show j < _; omega, by show k < _; omega, hlgk⟩, fun d hd => hal d (by rcases h6 d hd with h | h; (· cases h); (· simp only [List.append_assoc] at h ⊢; simp only [List.mem_append] at h ⊢; rcases h with h | h | h; (· exact .inl h); (· exact .inr (.inl h)); (· exact .inr (.inr (.inl h)))))⟩
          have hYx := hY _ _ hxo
          cases hg : goS f most S3 ⟨(ps.getD i default).number, j, k, ((ps.getD i default).recs.getD j default).logs.getD k default⟩ with
          | true =>
            rw [hg] at hYx
            have hok : k + 1 ≤ ((ps.getD i default).recs.getD j default).logs.length ∧ runS f most [] (allF lk (ps.take i) ++ recsF lk (ps.getD i default).number ((ps.getD i default).recs.take j) ++ recF (ps.getD i default).number j (((ps.getD i default).recs.getD j default).logs.take (k + 1))) = (nxS f S3 ⟨(ps.getD i default).number, j, k, ((ps.getD i default).recs.getD j default).logs.getD k default⟩, true) := ⟨h3, by rw [recF_snoc h3, ← List.append_assoc]; exact run_go hS3 hg⟩
            clear hS hS2 hS3 hY
            refine wk ?_ trueW trueW
            refine LS.yield hYx rfl rfl rfl rfl rfl (Fits.same _) (by rw [fdV_refs]; rfl) rfl (fun i hi => hkF i (aget_keys (l := (1999, .o (lo .ready none)) :: memG ps f most fl [] S3) rfl hi)) (by repeat (first | exact True.intro | refine And.intro rfl ?_)) rfl ?_
            refine LS.pp rfl rfl (Does.not rfl rfl) rfl (LS.nil ?_)
            exact wk trueW trueW trueW
          | false =>
            rw [hg] at hYx
            have hfin : runS f most [] (allF lk ps) = (nxS f S3 ⟨(ps.getD i default).number, j, k, ((ps.getD i default).recs.getD j default).logs.getD k default⟩, false) := by
              obtain ⟨r, hr⟩ := pre_len h h2 hl h3
              rw [hr]; exact run_stop hS3 hg
            rw [hfin]
            clear hS hS2 hS3 hY
            refine wk ?_ trueW trueW
            refine LS.yield hYx rfl rfl rfl rfl rfl (Fits.same _) (by rw [fdV_refs]; rfl) rfl (fun i hi => hkF i (aget_keys (l := (1999, .o (lo .ready none)) :: memG ps f most fl [] S3) rfl hi)) (by repeat (first | exact True.intro | refine And.intro rfl ?_)) rfl ?_
            refine LS.pp rfl rfl (Does.not rfl rfl) rfl (LS.nil ?_)
            refine wk ?_ trueW trueW
            refine LFin.memV (u := .t []) rfl (by repeat (first | exact True.intro | refine And.intro rfl ?_)) rfl rfl
        · obtain rfl : k = ((ps.getD i default).recs.getD j default).logs.length := by omega
          rw [List.take_length] at hS3
          have hok : j + 1 ≤ (ps.getD i default).recs.length ∧ runS f most [] (allF lk (ps.take i) ++ recsF lk (ps.getD i default).number ((ps.getD i default).recs.take (j + 1))) = (S3, true) := ⟨h2, by rw [recsF_snoc h2, hl, cond_true, ← List.append_assoc]; exact hS3⟩
          clear hS hS2 hS3 hY
          exact wk trueW trueW trueW
    · obtain rfl : j = (ps.getD i default).recs.length := by omega
      rw [List.take_length, ← allF_snoc h] at hS2
      have hok : i + 1 ≤ ps.length ∧ runS f most [] (allF lk (ps.take (i + 1))) = (S2, true) := ⟨h, hS2⟩
      clear hS hS2
      exact wk trueW trueW trueW
  · obtain rfl : i = ps.length := by omega
    rw [List.take_length] at hS
    rw [hS]
    dsimp only [endO, cond_true]
    refine wk ?_ trueW trueW
    refine LFin.memV (u := .t []) rfl (by repeat (first | exact True.intro | refine And.intro rfl ?_)) rfl rfl
set_option maxHeartbeats 8000000 in
theorem iter1 (ps : List Pg) (f : Fl) (most fl : Nat) (lk : Rc → Bool) (hps : ∀ p ∈ ps, p.ok) (hpl : ps.length < 2000000) (hlk : ∀ r, r.ok → LM Try.prog fl [rcV r, .p 1050 0] [(1050, .b (flC f))] fun o m => o = .ret (.k (.bool (lk r))) ∧ m = [(1050, .b (flC f))])
    (hT : (allF lk ps).length < 2000000) (lo : LoF) :
    LI Try.prog 40 [.y 1999, .p 1016 0, .p 1017 0] ((1999, .o (lo .ready none)) :: memG ps f most fl [.p 1050 0] []) (Ys ps f most fl [.p 1050 0] lo)
      fun q m => q = .ret (.t []) ∧ m = (1999, .o (endO lo 0 (runS f most [] (allF lk ps)).2)) :: memG ps f most fl [.p 1050 0] (runS f most [] (allF lk ps)).1 := by
  have hrf := siftRefs
  refine LI.enter tt Try.func40 rfl rfl rfl (by kernel_rfl) rfl rfl rfl (fun o mo h => by rw [h.2]; rfl) fun F hD hY hkF => ?_
  unfold Ys at hY
  refine wk ?_ trueW trueW
  refine LC.loop2 (fun i S => [(0, .y 1999), (1, .p 1016 0), (2, .p 1017 0), (10, pgsV ps), (11, .k (.int .i64 ((ps.length : Nat) : Int))), (12, .k (.int .i64 ((i : Nat) : Int)))]) (fun i S => [(1999, .o (lo .ready none)), (1016, .b [pgsV ps]), (1017, .b [.f (.func fl) [] [.p 1050 0]]), (1050, .b (flC f)), (1005, .b (flC f)), (1006, .b [iK most]), (1009, .b [.s (some 1090) (S.map fdV)]), (1090, .r 43 13 S.length)]) (fun i S => i ≤ ps.length ∧ runS f most [] (allF lk (ps.take i)) = (S, true)) ((ps.length - ·)) (0) ([]) ⟨by omega, by rw [List.take_zero, all_nil, run_nil]⟩ ⟨rfl, rfl, rfl, rfl, rfl, rfl, trivial⟩ ⟨rfl, rfl, rfl, rfl, rfl, rfl, rfl, rfl, trivial⟩ rfl rfW rfW ?_
  rintro i S ⟨hi, hS⟩
  rcases Nat.lt_or_ge i ps.length with h | h
  · have hpi := hps _ (getD_mem' (d := default) h)
    have hrl := hpi.rl
    refine wk ?_ trueW trueW
    refine LC.loop2 (fun j S2 => [(0, .y 1999), (1, .p 1016 0), (2, .p 1017 0), (5, .p 5 0), (10, pgsV ps), (11, .k (.int .i64 ((ps.length : Nat) : Int))), (12, .k (.int .i64 ((i : Nat) : Int))), (17, rcsV (ps.getD i default).recs), (18, .k (.int .i64 (((ps.getD i default).recs.length : Nat) : Int))), (19, .k (.int .i64 ((j : Nat) : Int)))]) (fun j S2 => [(5, .b (pgC (ps.getD i default))), (1999, .o (lo .ready none)), (1016, .b [pgsV ps]), (1017, .b [.f (.func fl) [] [.p 1050 0]]), (1050, .b (flC f)), (1005, .b (flC f)), (1006, .b [iK most]), (1009, .b [.s (some 1090) (S2.map fdV)]), (1090, .r 43 13 S2.length)]) (fun j S2 => j ≤ (ps.getD i default).recs.length ∧ runS f most [] (allF lk (ps.take i) ++ recsF lk (ps.getD i default).number ((ps.getD i default).recs.take j)) = (S2, true)) (((ps.getD i default).recs.length - ·)) (0) (S) ⟨by omega, by rw [List.take_zero, recs_nil, List.append_nil]; exact hS⟩ ⟨rfl, rfl, rfl, rfl, rfl, rfl, rfl, rfl, rfl, rfl, trivial⟩ ⟨rfl, rfl, rfl, rfl, rfl, rfl, rfl, rfl, rfl, trivial⟩ rfl rfW rfW ?_
    rintro j S2 ⟨hj, hS2⟩
    rcases Nat.lt_or_ge j (ps.getD i default).recs.length with h2 | h2
    · have hrj := hpi.recs _ (getD_mem' (d := default) h2)
      have hll := rcC_len hrj
      have ld1 := @rc_l
      have hlg := hrj.ll
      have c1 := hlk _ hrj
      cases hl : lk ((ps.getD i default).recs.getD j default) with
      | false =>
        rw [hl] at c1
        have hok : j + 1 ≤ (ps.getD i default).recs.length ∧ runS f most [] (allF lk (ps.take i) ++ recsF lk (ps.getD i default).number ((ps.getD i default).recs.take (j + 1))) = (S2, true) := ⟨h2, by rw [recsF_snoc h2, hl, cond_false, List.append_nil]; exact hS2⟩
        clear hS hS2 hY
        exact wk trueW trueW trueW
      | true =>
        rw [hl] at c1
        refine wk ?_ trueW trueW
        refine LC.loop2 (fun k S3 => [(0, .y 1999), (1, .p 1016 0), (2, .p 1017 0), (5, .p 5 0), (6, .k (.int .i64 ((j : Nat) : Int))), (7, .p 7 0), (10, pgsV ps), (11, .k (.int .i64 ((ps.length : Nat) : Int))), (12, .k (.int .i64 ((i : Nat) : Int))), (17, rcsV (ps.getD i default).recs), (18, .k (.int .i64 (((ps.getD i default).recs.length : Nat) : Int))), (19, .k (.int .i64 ((j : Nat) : Int))), (29, lgsV ((ps.getD i default).recs.getD j default).logs), (30, .k (.int .i64 ((((ps.getD i default).recs.getD j default).logs.length : Nat) : Int))), (31, .k (.int .i64 ((k : Nat) : Int)))]) (fun k S3 => [(5, .b (pgC (ps.getD i default))), (7, .b (rcC ((ps.getD i default).recs.getD j default))), (1999, .o (lo .ready none)), (1016, .b [pgsV ps]), (1017, .b [.f (.func fl) [] [.p 1050 0]]), (1050, .b (flC f)), (1005, .b (flC f)), (1006, .b [iK most]), (1009, .b [.s (some 1090) (S3.map fdV)]), (1090, .r 43 13 S3.length)]) (fun k S3 => k ≤ ((ps.getD i default).recs.getD j default).logs.length ∧ runS f most [] (allF lk (ps.take i) ++ recsF lk (ps.getD i default).number ((ps.getD i default).recs.take j) ++ recF (ps.getD i default).number j (((ps.getD i default).recs.getD j default).logs.take k)) = (S3, true)) ((((ps.getD i default).recs.getD j default).logs.length - ·)) (0) (S2) ⟨by omega, by rw [List.take_zero, rec_nil, List.append_nil]; exact hS2⟩ ⟨rfl, rfl, rfl, rfl, rfl, rfl, rfl, rfl, rfl, rfl, rfl, rfl, rfl, rfl, rfl, trivial⟩ ⟨rfl, rfl, rfl, rfl, rfl, rfl, rfl, rfl, rfl, rfl, trivial⟩ rfl rfW rfW ?_
        rintro k S3 ⟨hk, hS3⟩
        rcases Nat.lt_or_ge k ((ps.getD i default).recs.getD j default).logs.length with h3 | h3
        · have hlgk := hrj.logs _ (getD_mem' (d := default) h3)
          have hla := hlgk.addr
          have hll2 : (lgC (((ps.getD i default).recs.getD j default).logs.getD k default)).length = 10 := lgS_len hla
          have hp1 : PanIn 10 7 := ⟨trivial⟩
          have hpn := hpi.number
          obtain ⟨cs, b1, b2⟩ := find_b hla (.int .u64 (((ps.getD i default).number : Nat) : Int)) (.int .i64 ((j : Nat) : Int)) (.int .i64 ((k : Nat) : Int)) rfl rfl rfl ((((ps.getD i default).recs.getD j default).logs.getD k default).topics.map wV) ((((ps.getD i default).recs.getD j default).logs.getD k default).data.map bK)
          have hxo : okY S3 ⟨(ps.getD i default).number, j, k, ((ps.getD i default).recs.getD j default).logs.getD k default⟩ := by
            obtain ⟨r, hr⟩ := pre_len h h2 hl h3
            have hal := allF_ok (lk := lk) hps
            have h6 := run_sub f most (allF lk (ps.take i) ++ recsF lk (ps.getD i default).number ((ps.getD i default).recs.take j) ++ recF (ps.getD i default).number j (((ps.getD i default).recs.getD j default).logs.take k)) []
            have h5 := run_len f most (allF lk (ps.take i) ++ recsF lk (ps.getD i default).number ((ps.getD i default).recs.take j) ++ recF (ps.getD i default).number j (((ps.getD i default).recs.getD j default).logs.take k)) []
            rw [hS3] at h5 h6
            rw [hr] at hT hal
            simp only [List.length_append, List.length_cons, List.length_nil] at h5 hT
            exact ⟨by omega, ⟨hpn, by show j < _; omega, by show k < _; omega, hlgk⟩, fun d hd => hal d (by rcases h6 d hd with h | h; (· cases h); (· simp only [List.append_assoc] at h ⊢; simp only [List.mem_append] at h ⊢; rcases h with h | h | h; (· exact .inl h); (· exact .inr (.inl h)); (· exact .inr (.inr (.inl h)))))⟩
          have hYx := hY _ _ hxo
          cases hg : goS f most S3 ⟨(ps.getD i default).number, j, k, ((ps.getD i default).recs.getD j default).logs.getD k default⟩ with
          | true =>
            rw [hg] at hYx
            have hok : k + 1 ≤ ((ps.getD i default).recs.getD j default).logs.length ∧ runS f most [] (allF lk (ps.take i) ++ recsF lk (ps.getD i default).number ((ps.getD i default).recs.take j) ++ recF (ps.getD i default).number j (((ps.getD i default).recs.getD j default).logs.take (k + 1))) = (nxS f S3 ⟨(ps.getD i default).number, j, k, ((ps.getD i default).recs.getD j default).logs.getD k default⟩, true) := ⟨h3, by rw [recF_snoc h3, ← List.append_assoc]; exact run_go hS3 hg⟩
            clear hS hS2 hS3 hY
            refine wk ?_ trueW trueW
            refine LS.yield hYx rfl rfl rfl rfl rfl (Fits.same _) (by rw [fdV_refs]; rfl) rfl (fun i hi => hkF i (aget_keys (l := (1999, .o (lo .ready none)) :: memG ps f most fl [.p 1050 0] S3) rfl hi)) (by repeat (first | exact True.intro | refine And.intro rfl ?_)) rfl ?_
            refine LS.pp rfl rfl (Does.not rfl rfl) rfl (LS.nil ?_)
            exact wk trueW trueW trueW
          | false =>
            rw [hg] at hYx
            have hfin : runS f most [] (allF lk ps) = (nxS f S3 ⟨(ps.getD i default).number, j, k, ((ps.getD i default).recs.getD j default).logs.getD k default⟩, false) := by
              obtain ⟨r, hr⟩ := pre_len h h2 hl h3
              rw [hr]; exact run_stop hS3 hg
            rw [hfin]
            clear hS hS2 hS3 hY
            refine wk ?_ trueW trueW
            refine LS.yield hYx rfl rfl rfl rfl rfl (Fits.same _) (by rw [fdV_refs]; rfl) rfl (fun i hi => hkF i (aget_keys (l := (1999, .o (lo .ready none)) :: memG ps f most fl [.p 1050 0] S3) rfl hi)) (by repeat (first | exact True.intro | refine And.intro rfl ?_)) rfl ?_
            refine LS.pp rfl rfl (Does.not rfl rfl) rfl (LS.nil ?_)
            refine wk ?_ trueW trueW
            refine LFin.memV (u := .t []) rfl (by repeat (first | exact True.intro | refine And.intro rfl ?_)) rfl rfl
        · obtain rfl : k = ((ps.getD i default).recs.getD j default).logs.length := by omega
          rw [List.take_length] at hS3
          have hok : j + 1 ≤ (ps.getD i default).recs.length ∧ runS f most [] (allF lk (ps.take i) ++ recsF lk (ps.getD i default).number ((ps.getD i default).recs.take (j + 1))) = (S3, true) := ⟨h2, by rw [recsF_snoc h2, hl, cond_true, ← List.append_assoc]; exact hS3⟩
          clear hS hS2 hS3 hY
          exact wk trueW trueW trueW
    · obtain rfl : j = (ps.getD i default).recs.length := by omega
      rw [List.take_length, ← allF_snoc h] at hS2
      have hok : i + 1 ≤ ps.length ∧ runS f most [] (allF lk (ps.take (i + 1))) = (S2, true) := ⟨h, hS2⟩
      clear hS hS2
      exact wk trueW trueW trueW
  · obtain rfl : i = ps.length := by omega
    rw [List.take_length] at hS
    rw [hS]
    dsimp only [endO, cond_true]
    refine wk ?_ trueW trueW
    refine LFin.memV (u := .t []) rfl (by repeat (first | exact True.intro | refine And.intro rfl ?_)) rfl rfl
end Sf
end Lf
end Go.Proofs.Ytpchigdcikknmaa

/- Sift: gather. -/
namespace Go.Proofs.Ytpchigdcikknmaa
open Go.RowKit Rg Wm Ar
set_option linter.unusedVariables false
set_option maxRecDepth 100000
namespace Lf
/-- The renumbering of the memory ahead of the loop. -/
theorem exists_pm' : ∀ (ks is : List Nat), ks.Nodup → is.Nodup → ks.length = is.length → ∃ ρ : Pm, ks.map ρ.f = is ∧ ∀ i, i ∉ ks → i ∉ is → ρ.f i = i
  | [], [], _, _, _ => ⟨⟨id, id, fun _ => rfl, fun _ => rfl⟩, rfl, fun _ _ _ => rfl⟩
  | [], _ :: _, _, _, h => by simp at h
  | _ :: _, [], _, _, h => by simp at h
  | k :: ks, i :: is, hk, hi, h => by
    obtain ⟨ρ, hρ, hfix⟩ := exists_pm' ks is (List.nodup_cons.1 hk).2 (List.nodup_cons.1 hi).2 (by simpa using h)
    refine ⟨(Pm.swap (ρ.f k) i).comp ρ, ?_, fun j hj1 hj2 => ?_⟩
    · rw [List.map_cons]
      congr 1
      · simp [Pm.comp, Pm.swap, swapF]
      · rw [← hρ]
        refine List.map_congr_left fun j hj => ?_
        have h1 : ρ.f j ≠ ρ.f k := fun e => (List.nodup_cons.1 hk).1 (ρ.inj e ▸ hj)
        have h2 : ρ.f j ≠ i := fun e => (List.nodup_cons.1 hi).1 (by rw [← e, ← hρ]; exact List.mem_map_of_mem hj)
        simp [Pm.comp, Pm.swap, swapF, h1, h2]
    · have e := hfix j (fun h => hj1 (by simp [h])) (fun h => hj2 (by simp [h]))
      have h1 : ρ.f j ≠ ρ.f k := fun e2 => hj1 (by rw [ρ.inj e2]; simp)
      have h2 : ρ.f j ≠ i := fun e2 => hj2 (by rw [← e2, e]; simp)
      show swapF (ρ.f k) i (ρ.f j) = j
      unfold swapF
      rw [if_neg h1, if_neg h2, e]
/-- Other numbers for the call's own boxes and rows. -/
theorem LC.ren {P : Program} {F : Fr0} {N : Nat} {Q : LQ} {env env' : Env} {mem mem' : Mem} {c : Code} (ks is : List Nat) (hk : ks.Nodup) (hi : is.Nodup) (hl : ks.length = is.length)
    (hfr : ∀ i, i ∈ ks ∨ i ∈ is → F.bx0 i = none ∧ F.rw0 i = none) (hren : ∀ ρ : Pm, ks.map ρ.f = is → (∀ i, i ∉ ks → i ∉ is → ρ.f i = i) → Mem.ren ρ.f mem' = mem ∧ ∀ t v, aget env' t = some v → aget env t = some (v.ren ρ.f)) (h : LC P F N c Q env' mem') : LC P F N c Q env mem := by
  obtain ⟨ρ, hρ, hfix⟩ := exists_pm' ks is hk hi hl
  obtain ⟨h1, h2⟩ := hren ρ hρ hfix
  have hcl : ∀ i, i ∈ ks ∨ i ∈ is → ρ.f i ∈ ks ∨ ρ.f i ∈ is := fun i hi => Classical.byContradiction fun hn => by
    have hn1 : ρ.f i ∉ ks := fun e => hn (.inl e)
    have hn2 : ρ.f i ∉ is := fun e => hn (.inr e)
    have := ρ.inj (hfix _ hn1 hn2)
    rcases hi with hi | hi
    · exact hn1 (by rw [this]; exact hi)
    · exact hn2 (by rw [this]; exact hi)
  have hsame : ∀ i, F.bx0 (ρ.f i) = F.bx0 i ∧ F.rw0 (ρ.f i) = F.rw0 i := fun i => by
    by_cases hm : i ∈ ks ∨ i ∈ is
    · obtain ⟨a1, a2⟩ := hfr i hm
      obtain ⟨b1, b2⟩ := hfr _ (hcl i hm)
      rw [a1, a2, b1, b2]; exact ⟨rfl, rfl⟩
    · rw [hfix i (fun e => hm (.inl e)) (fun e => hm (.inr e))]; exact ⟨rfl, rfl⟩
  refine ⟨fun F0 hx g a w hr => h.go F0 hx (g.pull ρ.f) a w ?_⟩
  have hp : F0.pull ρ.f = F0 := by
    unfold Fr0.pull
    have e1 : (fun i => F0.bx0 (ρ.f i)) = F0.bx0 := funext fun i => by rw [hx.bx]; exact (hsame i).1
    have e2 : (fun i => F0.rw0 (ρ.f i)) = F0.rw0 := funext fun i => by rw [hx.rw]; exact (hsame i).2
    rw [e1, e2]
  have hm := relM_pull ρ (F := F0) (g := g) (mem := mem') (w := w) (by rw [h1]; exact hr.mem)
  rw [hp] at hm
  refine ⟨fun t v hv => ?_, hm, ⟨hr.kept.os, hr.kept.tape, hr.kept.output, hr.kept.size, hr.kept.blk, hr.kept.cell, hr.kept.S1, hr.kept.S2, hr.kept.cellS⟩, hr.defers, hr.size, hr.big⟩
  obtain ⟨x, e1, e2⟩ := hr.env t _ (h2 t v hv)
  exact ⟨x, e1, rep_pull ρ e2⟩
theorem LM.enterR' {P : Program} (X : TOk P) {f N : Nat} {fn : Func} {c : Code} {args : List V} {rs : List ResultVar} {mi : Mem} {R : Out → Mem → Prop} (hf : P.funcs[f]? = some fn) (hb : fn.body = some c) (hN : fn.ntmps = N) (hrs : fn.results = rs.toArray) (hok : callOk P f = true)
    (hle : Nat.ble args.length N = true) (hrl : Nat.ble rs.length 3 = true) (hbig : (mi.all fun x => Nat.ble 1000 x.1) = true) (hks : ∀ o mo, R o mo → keysOk mi mo = true) (h : ∀ F, F.D = [] → F.ro = none → F.lm = true → (∀ i, aget mi i = none → F.bx0 i = none ∧ F.rw0 i = none) → LC P F N c (LRet X rs R) (params 0 args) mi) : LM P f args mi R :=
  ⟨hok, fun _ _ _ hm hl hr => enter_core X hf hb hN hrs hle hrl hbig hks hm hl hr true (h _ rfl rfl rfl fun i hi => ⟨hm.nbx i hi, hm.nrw i hi⟩)⟩
theorem lblk_ne {Q : LQ} {id id' : Nat} {env : Env} {mem : Mem} (h : Nat.beq id' id = false) (h2 : Q (.exit id') env mem) : LBlk id Q (.exit id') env mem := by
  simp only [LBlk]; rw [h]; exact h2
theorem fdV_bare (d : Fd) : (fdV d).bare = some (fdV d) := by
  show (V.bare.go (fdC d)).map V.a = _
  rw [show V.bare.go (fdC d) = some (fdC d) from fdS_bare _ _ _ _ _ _]
  rfl
theorem lgV_bare (l : Lg) : (lgV l).bare = some (lgV l) := by
  show (V.bare.go (lgC l)).map V.a = _
  rw [show V.bare.go (lgC l) = some (lgC l) from lgS_bare _ _ _]
  rfl
theorem aget_mapren (ρ : Nat → Nat) : ∀ (l : Env) {t : Nat} {v : V}, aget l t = some v → aget (l.map fun x => (x.1, x.2.ren ρ)) t = some (v.ren ρ)
  | [], _, _, h => by cases h
  | (a, x) :: l, t, v, h => by
    rw [List.map_cons, aget_cons]
    rw [aget_cons] at h
    split at h
    · rename_i e; rw [if_pos e]; cases h; rfl
    · rename_i e; rw [if_neg e]; exact aget_mapren ρ l h
namespace Sf
set_option maxHeartbeats 4000000 in
theorem gather_neg (ps : List Pg) (f : Fl) (z : Int) (hz : z ≤ 0) (fl : Nat) (cp : List V) (hcp : cp = [] ∨ cp = [.p 1050 0]) : LM Try.prog 21 [pgsV ps, flV f, .k (.int .i64 z), .f (.func fl) [] cp] [(1050, .b (flC f))] fun o m => o = .ret (fdsV []) ∧ m = [(1050, .b (flC f))] := by
  rcases hcp with rfl | rfl
  · refine LM.enter tt Try.func21 rfl rfl rfl (by kernel_rfl) rfl rfl rfl (fun o mo h => by rw [h.2]; rfl) fun F _ => ?_
    exact wk trueW trueW trueW
  · refine LM.enter tt Try.func21 rfl rfl rfl (by kernel_rfl) rfl rfl rfl (fun o mo h => by rw [h.2]; rfl) fun F _ => ?_
    exact wk trueW trueW trueW
set_option maxHeartbeats 8000000 in
theorem gather0 (ps : List Pg) (f : Fl) (most fl : Nat) (lk : Rc → Bool) (kf : f.ok) (hm0 : 0 < most) (hm1 : most < 9223372036854775808) (hps : ∀ p ∈ ps, p.ok) (hpl : ps.length < 2000000) (hlk : ∀ r, r.ok → LM Try.prog fl [rcV r] [(1050, .b (flC f))] fun o m => o = .ret (.k (.bool (lk r))) ∧ m = [(1050, .b (flC f))])
    (hT : (allF lk ps).length < 2000000) : LM Try.prog 21 [pgsV ps, flV f, iK most, .f (.func fl) [] []] [(1050, .b (flC f))] fun o m => o = .ret (fdsV (runS f most [] (allF lk ps)).1) ∧ m = [(1050, .b (flC f))] := by
  have c1 := logs_ ps fl [] (.inl rfl) f
  have hit := iter0 ps f most fl lk hps hpl hlk hT
  generalize runS f most [] (allF lk ps) = R at *
  obtain ⟨S', b'⟩ := R
  dsimp only at hit ⊢
  refine LM.enterR' tt Try.func21 rfl rfl rfl (by kernel_rfl) rfl rfl rfl (fun o mo h => by rw [h.2]; rfl) fun F hD hro hlm hkF => ?_
  refine wk ?_ trueW trueW
  refine LC.weak (env' := [(16, .f (.func 40) [] [.p 2 0, .p 3 0]), (9, .p 9 0), (6, .p 6 0), (5, .p 5 0)]) (mem' := [(2, .b [pgsV ps]), (3, .b [.f (.func fl) [] []]), (1050, .b (flC f)), (5, .b (flC f)), (6, .b [iK most]), (9, .b [.nil])]) ⟨by repeat (first | exact True.intro | refine And.intro rfl ?_), by repeat (first | exact True.intro | refine And.intro rfl ?_), rfl⟩ ?_
  refine LC.nilcell 9 0 1090 43 13 rfl rfl rfl (by decide) rfl ?_
  refine LC.weak (env' := [(16, .f (.func 40) [] [.p 2 0, .p 3 0]), (9, .p 9 0), (6, .p 6 0), (5, .p 5 0)]) (mem' := [(2, .b [pgsV ps]), (3, .b [.f (.func fl) [] []]), (1050, .b (flC f)), (5, .b (flC f)), (6, .b [iK most]), (9, .b [.s (some 1090) []]), (1090, .r 43 13 0)]) ⟨by repeat (first | exact True.intro | refine And.intro rfl ?_), by repeat (first | exact True.intro | refine And.intro rfl ?_), rfl⟩ ?_
  refine LC.ren (env' := [(16, .f (.func 40) [] [.p 1016 0, .p 1017 0]), (9, .p 1009 0), (6, .p 1006 0), (5, .p 1005 0)]) (mem' := memG ps f most fl [] []) [1016, 1017, 1005, 1006, 1009] [2, 3, 5, 6, 9] (by decide) (by decide) rfl (fun i hi => hkF i ?_) (fun ρ hρ hfix => ?_) ?_
  · have : i ∈ [1016, 1017, 1005, 1006, 1009, 2, 3, 5, 6, 9] := by simpa [or_assoc] using hi
    have h2 : ∀ i ∈ [1016, 1017, 1005, 1006, 1009, 2, 3, 5, 6, 9], aget [(1050, M.b (flC f))] i = none := by
      intro i hi
      simp only [List.mem_cons, List.not_mem_nil, or_false] at hi
      rcases hi with rfl | rfl | rfl | rfl | rfl | rfl | rfl | rfl | rfl | rfl <;> rfl
    exact h2 i this
  · simp only [List.map_cons, List.map_nil, List.cons.injEq, and_true] at hρ
    obtain ⟨r1, r2, r3, r4, r5⟩ := hρ
    have f1 := hfix 1050 (by decide) (by decide)
    have f2 := hfix 1090 (by decide) (by decide)
    refine ⟨?_, fun t v hv => ?_⟩
    · simp only [Mem.ren, memG, List.map_cons, List.map_nil, M.ren, V.ren, V.ren.go, r1, r2, r3, r4, r5, f1, f2]
      rfl
    · have h3 := aget_mapren ρ.f _ hv
      simp only [List.map_cons, List.map_nil, V.ren, V.ren.go, r1, r2, r3, r4, r5] at h3
      exact h3
  refine LC.range (y := 1999) (id := 0) okY fdV (memG ps f most fl []) (goS f most) (nxS f) b' hlm hro rfl rfl rfl rfl (fun ob => rfl) (fun s => rfl) (fun s x _ ob ob' => rfl) (fun lo FR _ S x hok => ?_) (fun lo => hit lo) (fun _ _ => rfl) rfl (fun _ => ?_) (fun _ => ?_)
  · obtain ⟨hSl, kx, hSo⟩ := hok
    have hcl : ∀ e ∈ S.map fdV, e.cells.length = 13 := fun e he => by
      obtain ⟨d, hd, rfl⟩ := List.mem_map.1 he
      exact fdS_len (hSo d hd).log.addr
    have c1 := lets_ f x.log kf kx.log
    have c2 := own_ x kx.log
    have hxa := kx.log.addr
    have ld1 := @fd_l
    have hll : (fdC x).length = 13 := fdS_len hxa
    have hll2 : (lgC x.log).length = 10 := lgS_len hxa
    have hrf := siftRefs
    have hbr := fdV_bare
    clear hit hlk hT hps
    refine wk ?_ trueW trueW
    refine ⟨rfl, ?_⟩
    cases hx : lets f x.log with
    | false =>
      rw [hx] at c1
      rw [goS_no hx, nxS_no hx]
      refine wk ?_ trueW trueW
      exact (show LRnd lo 1999 _ .normal _ _ from ⟨rfl, (1999, .o (lo .ready none)) :: memG ps f most fl [] S, by repeat (first | exact True.intro | refine And.intro rfl ?_), rfl, rfl, rfl⟩)
    | true =>
      rw [hx] at c1
      have e4 : (S ++ [x]).length = S.length + 1 := by rw [List.length_append]; rfl
      by_cases hm : S.length + 1 = most
      · rw [goS_last hx hm, nxS_yes hx]
        refine wk ?_ trueW trueW
        exact lblk_ne rfl (show LRnd lo 1999 _ (.exit 0) _ _ from ⟨rfl, (1999, .o (lo .done (some (.exit 0)))) :: memG ps f most fl [] (S ++ [x]), by repeat (first | exact True.intro | refine And.intro rfl ?_), rfl, rfl, rfl⟩)
      · rw [goS_more hm, nxS_yes hx]
        refine wk ?_ trueW trueW
        exact (show LRnd lo 1999 _ .normal _ _ from ⟨rfl, (1999, .o (lo .ready none)) :: memG ps f most fl [] (S ++ [x]), by repeat (first | exact True.intro | refine And.intro rfl ?_), rfl, rfl, rfl⟩)
  · show LC _ _ _ _ _ _ _
    exact wk trueW trueW trueW
  · show LC _ _ _ _ _ _ _
    exact wk trueW trueW trueW
set_option maxHeartbeats 8000000 in
theorem gather1 (ps : List Pg) (f : Fl) (most fl : Nat) (lk : Rc → Bool) (kf : f.ok) (hm0 : 0 < most) (hm1 : most < 9223372036854775808) (hps : ∀ p ∈ ps, p.ok) (hpl : ps.length < 2000000) (hlk : ∀ r, r.ok → LM Try.prog fl [rcV r, .p 1050 0] [(1050, .b (flC f))] fun o m => o = .ret (.k (.bool (lk r))) ∧ m = [(1050, .b (flC f))])
    (hT : (allF lk ps).length < 2000000) : LM Try.prog 21 [pgsV ps, flV f, iK most, .f (.func fl) [] [.p 1050 0]] [(1050, .b (flC f))] fun o m => o = .ret (fdsV (runS f most [] (allF lk ps)).1) ∧ m = [(1050, .b (flC f))] := by
  have c1 := logs_ ps fl [.p 1050 0] (.inr rfl) f
  have hit := iter1 ps f most fl lk hps hpl hlk hT
  generalize runS f most [] (allF lk ps) = R at *
  obtain ⟨S', b'⟩ := R
  dsimp only at hit ⊢
  refine LM.enterR' tt Try.func21 rfl rfl rfl (by kernel_rfl) rfl rfl rfl (fun o mo h => by rw [h.2]; rfl) fun F hD hro hlm hkF => ?_
  refine wk ?_ trueW trueW
  refine LC.weak (env' := [(16, .f (.func 40) [] [.p 2 0, .p 3 0]), (9, .p 9 0), (6, .p 6 0), (5, .p 5 0)]) (mem' := [(2, .b [pgsV ps]), (3, .b [.f (.func fl) [] [.p 1050 0]]), (1050, .b (flC f)), (5, .b (flC f)), (6, .b [iK most]), (9, .b [.nil])]) ⟨by repeat (first | exact True.intro | refine And.intro rfl ?_), by repeat (first | exact True.intro | refine And.intro rfl ?_), rfl⟩ ?_
  refine LC.nilcell 9 0 1090 43 13 rfl rfl rfl (by decide) rfl ?_
  refine LC.weak (env' := [(16, .f (.func 40) [] [.p 2 0, .p 3 0]), (9, .p 9 0), (6, .p 6 0), (5, .p 5 0)]) (mem' := [(2, .b [pgsV ps]), (3, .b [.f (.func fl) [] [.p 1050 0]]), (1050, .b (flC f)), (5, .b (flC f)), (6, .b [iK most]), (9, .b [.s (some 1090) []]), (1090, .r 43 13 0)]) ⟨by repeat (first | exact True.intro | refine And.intro rfl ?_), by repeat (first | exact True.intro | refine And.intro rfl ?_), rfl⟩ ?_
  refine LC.ren (env' := [(16, .f (.func 40) [] [.p 1016 0, .p 1017 0]), (9, .p 1009 0), (6, .p 1006 0), (5, .p 1005 0)]) (mem' := memG ps f most fl [.p 1050 0] []) [1016, 1017, 1005, 1006, 1009] [2, 3, 5, 6, 9] (by decide) (by decide) rfl (fun i hi => hkF i ?_) (fun ρ hρ hfix => ?_) ?_
  · have : i ∈ [1016, 1017, 1005, 1006, 1009, 2, 3, 5, 6, 9] := by simpa [or_assoc] using hi
    have h2 : ∀ i ∈ [1016, 1017, 1005, 1006, 1009, 2, 3, 5, 6, 9], aget [(1050, M.b (flC f))] i = none := by
      intro i hi
      simp only [List.mem_cons, List.not_mem_nil, or_false] at hi
      rcases hi with rfl | rfl | rfl | rfl | rfl | rfl | rfl | rfl | rfl | rfl <;> rfl
    exact h2 i this
  · simp only [List.map_cons, List.map_nil, List.cons.injEq, and_true] at hρ
    obtain ⟨r1, r2, r3, r4, r5⟩ := hρ
    have f1 := hfix 1050 (by decide) (by decide)
    have f2 := hfix 1090 (by decide) (by decide)
    refine ⟨?_, fun t v hv => ?_⟩
    · simp only [Mem.ren, memG, List.map_cons, List.map_nil, M.ren, V.ren, V.ren.go, r1, r2, r3, r4, r5, f1, f2]
      rfl
    · have h3 := aget_mapren ρ.f _ hv
      simp only [List.map_cons, List.map_nil, V.ren, V.ren.go, r1, r2, r3, r4, r5] at h3
      exact h3
  refine LC.range (y := 1999) (id := 0) okY fdV (memG ps f most fl [.p 1050 0]) (goS f most) (nxS f) b' hlm hro rfl rfl rfl rfl (fun ob => rfl) (fun s => rfl) (fun s x _ ob ob' => rfl) (fun lo FR _ S x hok => ?_) (fun lo => hit lo) (fun _ _ => rfl) rfl (fun _ => ?_) (fun _ => ?_)
  · obtain ⟨hSl, kx, hSo⟩ := hok
    have hcl : ∀ e ∈ S.map fdV, e.cells.length = 13 := fun e he => by
      obtain ⟨d, hd, rfl⟩ := List.mem_map.1 he
      exact fdS_len (hSo d hd).log.addr
    have c1 := lets_ f x.log kf kx.log
    have c2 := own_ x kx.log
    have hxa := kx.log.addr
    have ld1 := @fd_l
    have hll : (fdC x).length = 13 := fdS_len hxa
    have hll2 : (lgC x.log).length = 10 := lgS_len hxa
    have hrf := siftRefs
    have hbr := fdV_bare
    clear hit hlk hT hps
    refine wk ?_ trueW trueW
    refine ⟨rfl, ?_⟩
    cases hx : lets f x.log with
    | false =>
      rw [hx] at c1
      rw [goS_no hx, nxS_no hx]
      refine wk ?_ trueW trueW
      exact (show LRnd lo 1999 _ .normal _ _ from ⟨rfl, (1999, .o (lo .ready none)) :: memG ps f most fl [.p 1050 0] S, by repeat (first | exact True.intro | refine And.intro rfl ?_), rfl, rfl, rfl⟩)
    | true =>
      rw [hx] at c1
      have e4 : (S ++ [x]).length = S.length + 1 := by rw [List.length_append]; rfl
      by_cases hm : S.length + 1 = most
      · rw [goS_last hx hm, nxS_yes hx]
        refine wk ?_ trueW trueW
        exact lblk_ne rfl (show LRnd lo 1999 _ (.exit 0) _ _ from ⟨rfl, (1999, .o (lo .done (some (.exit 0)))) :: memG ps f most fl [.p 1050 0] (S ++ [x]), by repeat (first | exact True.intro | refine And.intro rfl ?_), rfl, rfl, rfl⟩)
      · rw [goS_more hm, nxS_yes hx]
        refine wk ?_ trueW trueW
        exact (show LRnd lo 1999 _ .normal _ _ from ⟨rfl, (1999, .o (lo .ready none)) :: memG ps f most fl [.p 1050 0] (S ++ [x]), by repeat (first | exact True.intro | refine And.intro rfl ?_), rfl, rfl, rfl⟩)
  · show LC _ _ _ _ _ _ _
    exact wk trueW trueW trueW
  · show LC _ _ _ _ _ _ _
    exact wk trueW trueW trueW
end Sf
end Lf
end Go.Proofs.Ytpchigdcikknmaa

/- Sift: All and Find. -/
namespace Go.Proofs.Ytpchigdcikknmaa
open Go.RowKit Rg Wm Ar
set_option linter.unusedVariables false
set_option maxRecDepth 100000
namespace Lf
/-- What is found: the first ones of those that are let through. -/
def foundL (lk : Rc → Bool) (f : Fl) (z : Int) (ps : List Pg) : List Fd := ((allF lk ps).filter fun x => lets f x.log).take z.toNat
abbrev lkAll : Rc → Bool := fun _ => true
theorem recsF_le (lk : Rc → Bool) (n : Nat) (rs : List Rc) : (recsF lk n rs).length ≤ (recsF lkAll n rs).length := by
  have key : ∀ m, m ≤ rs.length → (recsF lk n (rs.take m)).length ≤ (recsF lkAll n (rs.take m)).length := by
    intro m
    induction m with
    | zero => intro _; rw [List.take_zero, recs_nil]; exact Nat.zero_le _
    | succ m ih =>
      intro hm
      rw [recsF_snoc (by omega), recsF_snoc (by omega)]
      have := ih (by omega)
      simp only [List.length_append, cond_true]
      cases lk (rs.getD m default) with
      | true => simp only [cond_true]; omega
      | false => simp only [cond_false, List.length_nil]; omega
  have := key rs.length (Nat.le_refl _)
  rwa [List.take_length] at this
theorem allF_le (lk : Rc → Bool) (ps : List Pg) : (allF lk ps).length ≤ (allF lkAll ps).length := by
  have key : ∀ m, m ≤ ps.length → (allF lk (ps.take m)).length ≤ (allF lkAll (ps.take m)).length := by
    intro m
    induction m with
    | zero => intro _; rw [List.take_zero, all_nil]; exact Nat.zero_le _
    | succ m ih =>
      intro hm
      rw [allF_snoc (by omega), allF_snoc (by omega)]
      have := ih (by omega)
      have h2 := recsF_le lk (ps.getD m default).number (ps.getD m default).recs
      simp only [List.length_append]
      omega
  have := key ps.length (Nat.le_refl _)
  rwa [List.take_length] at this
/-- Pages of a size that a machine can hold. -/
structure PgsOk (ps : List Pg) : Prop where
  pgs : ∀ p ∈ ps, p.ok
  len : ps.length < 2000000
  tot : (allF lkAll ps).length < 2000000
theorem run_found (lk : Rc → Bool) (f : Fl) (ps : List Pg) {most : Nat} (h : 0 < most) : (runS f most [] (allF lk ps)).1 = foundL lk f (most : Int) ps := by
  rw [run_eq f most _ [] h]
  unfold foundL
  simp
theorem found_neg (lk : Rc → Bool) (f : Fl) (ps : List Pg) {z : Int} (h : z ≤ 0) : foundL lk f z ps = [] := by
  unfold foundL
  rw [Int.toNat_of_nonpos h, List.take_zero]
attribute [irreducible] foundL
section
variable {n x i t u : V} {a : List UInt8}
theorem fdq_n {ti : TI} (hd : ti.d.agg = false) : ti.part ((fdS n x i a t u).drop 0) 0 = some n := fd_n hd
theorem fdq_x {ti : TI} (hd : ti.d.agg = false) : ti.part ((fdS n x i a t u).drop 1) 0 = some x := part_num (r := i :: lgS a t u) hd (by rw [fdS_eq]; rfl)
theorem fdq_i {ti : TI} (hd : ti.d.agg = false) : ti.part ((fdS n x i a t u).drop 2) 0 = some i := part_num (r := lgS a t u) hd (by rw [fdS_eq]; rfl)
theorem fdq_l {ti : TI} (k : a.length = 8) (hd : ti.d.agg = true) (hs : ti.size = 10) : ti.part ((fdS n x i a t u).drop 3) 0 = some (.a (lgS a t u)) := by
  have e : (fdS n x i a t u).drop 3 = lgS a t u := by rw [fdS_eq]; rfl
  rw [e]
  exact part_str hd hs (lgS_len k) (by rw [lgS_len k]; omega) (by rw [List.drop_zero, List.take_of_length_le (by rw [lgS_len k]; omega)])
end
namespace Sf
theorem gat0 (ps : List Pg) (f : Fl) (z : Int) (kf : f.ok) (hz : z < 9223372036854775808) (hps : PgsOk ps) (k : Nat) : LM Try.prog 21 [pgsV ps, flV f, .k (.int .i64 z), .f (.func 24) [] []] [(k, .b (flC f))] fun o m => o = .ret (fdsV (foundL lkAll f z ps)) ∧ m = [(k, .b (flC f))] := by
  have h1 : LM Try.prog 21 [pgsV ps, flV f, .k (.int .i64 z), .f (.func 24) [] []] [(1050, .b (flC f))] fun o m => o = .ret (fdsV (foundL lkAll f z ps)) ∧ m = [(1050, .b (flC f))] := by
    rcases (by omega : 0 < z ∨ z ≤ 0) with h | h
    · obtain ⟨n, rfl⟩ := Int.eq_ofNat_of_zero_le (Int.le_of_lt h)
      have hn : 0 < n := by omega
      have := gather0 ps f n 24 lkAll kf hn (by omega) hps.pgs hps.len (fun r kr => look0 f r kr) hps.tot
      rw [run_found lkAll f ps hn] at this
      exact this
    · rw [found_neg lkAll f ps h]
      exact gather_neg ps f z h 24 [] (.inl rfl)
  refine LM.gen [1050] [k] (by simp) (by simp) rfl h1 fun ρ hρ => ?_
  simp only [List.map_cons, List.map_nil, List.cons.injEq, and_true] at hρ
  refine ⟨rfl, ?_, rfl, ?_⟩ <;> · simp only [Mem.ren, List.map_cons, List.map_nil, hρ]; rfl
theorem gat1 (ps : List Pg) (f : Fl) (z : Int) (kf : f.ok) (hz : z < 9223372036854775808) (hps : PgsOk ps) (k : Nat) : LM Try.prog 21 [pgsV ps, flV f, .k (.int .i64 z), .f (.func 22) [] [.p k 0]] [(k, .b (flC f))] fun o m => o = .ret (fdsV (foundL (fun r => mayB f r.bloom) f z ps)) ∧ m = [(k, .b (flC f))] := by
  have h1 : LM Try.prog 21 [pgsV ps, flV f, .k (.int .i64 z), .f (.func 22) [] [.p 1050 0]] [(1050, .b (flC f))] fun o m => o = .ret (fdsV (foundL (fun r => mayB f r.bloom) f z ps)) ∧ m = [(1050, .b (flC f))] := by
    rcases (by omega : 0 < z ∨ z ≤ 0) with h | h
    · obtain ⟨n, rfl⟩ := Int.eq_ofNat_of_zero_le (Int.le_of_lt h)
      have hn : 0 < n := by omega
      have := gather1 ps f n 22 (fun r => mayB f r.bloom) kf hn (by omega) hps.pgs hps.len (fun r kr => look1 f r kf kr) (Nat.lt_of_le_of_lt (allF_le _ ps) hps.tot)
      rw [run_found (fun r => mayB f r.bloom) f ps hn] at this
      exact this
    · rw [found_neg (fun r => mayB f r.bloom) f ps h]
      exact gather_neg ps f z h 22 [.p 1050 0] (.inr rfl)
  refine LM.gen [1050] [k] (by simp) (by simp) rfl h1 fun ρ hρ => ?_
  simp only [List.map_cons, List.map_nil, List.cons.injEq, and_true] at hρ
  refine ⟨?_, ?_, rfl, ?_⟩ <;> (simp only [Mem.ren, List.map_cons, List.map_nil, V.ren, V.ren.go, hρ]; try rfl)
set_option maxHeartbeats 1000000 in
theorem All_ (ps : List Pg) (f : Fl) (z : Int) (kf : f.ok) (hz : z < 9223372036854775808) (hps : PgsOk ps) : LF Try.prog 11 [pgsV ps, flV f, .k (.int .i64 z)] (fun _ => fdsV (foundL lkAll f z ps)) none := by
  have c1 := gat0 ps f z kf hz hps 4
  generalize foundL lkAll f z ps = R at *
  refine LFx.mk' tt Try.func11 rfl rfl rfl (by kernel_rfl) rfl rfl fun F => ?_
  exact wk trueW trueW trueW
set_option maxHeartbeats 1000000 in
theorem Find_ (ps : List Pg) (f : Fl) (z : Int) (kf : f.ok) (hz : z < 9223372036854775808) (hps : PgsOk ps) : LF Try.prog 10 [pgsV ps, flV f, .k (.int .i64 z)] (fun _ => fdsV (foundL (fun r => mayB f r.bloom) f z ps)) none := by
  have c1 := gat1 ps f z kf hz hps 4
  generalize foundL (fun r => mayB f r.bloom) f z ps = R at *
  refine LFx.mk' tt Try.func10 rfl rfl rfl (by kernel_rfl) rfl rfl fun F => ?_
  exact wk trueW trueW trueW
end Sf
end Lf
end Go.Proofs.Ytpchigdcikknmaa

/- Sift: are they the same? -/
namespace Go.Proofs.Ytpchigdcikknmaa
open Go.RowKit Rg Wm Ar
set_option linter.unusedVariables false
set_option maxRecDepth 100000
namespace Lf
theorem list_eq_of {α : Type} [Inhabited α] {a b : List α} (hl : a.length = b.length) (h : ∀ j, j < a.length → a.getD j default = b.getD j default) : a = b := by
  refine List.ext_getElem hl fun j h1 h2 => ?_
  have := h j h1
  rwa [List.getD_eq_getElem?_getD, List.getD_eq_getElem?_getD, List.getElem?_eq_getElem h1, List.getElem?_eq_getElem h2] at this
theorem same_step {α : Type} [Inhabited α] {a b : List α} {i : Nat} (h : ∀ j, j < i → a.getD j default = b.getD j default) (hi : a.getD i default = b.getD i default) : ∀ j, j < i + 1 → a.getD j default = b.getD j default := fun j hj => by
  by_cases e : j = i
  · rw [e]; exact hi
  · exact h j (by omega)
namespace Sf
set_option maxHeartbeats 1000000 in
theorem EqualW (a b : List Nat) (ha : ∀ t ∈ a, t < M256) (hb : ∀ t ∈ b, t < M256) (hla : a.length < 2000000) (hlb : b.length < 2000000) : LF Try.prog 28 [wsV a, wsV b] (fun _ => .k (.bool (decide (a = b)))) none := by
  by_cases hl : a.length = b.length
  · refine LFx.mk' tt Try.func28 rfl rfl rfl (by kernel_rfl) rfl rfl fun F => ?_
    refine wk ?_ trueW trueW
    refine LC.loopN (fun i => [(0, wsV a), (1, wsV b), (11, wsV a), (12, .k (.int .i64 ((a.length : Nat) : Int))), (13, .k (.int .i64 ((i : Nat) : Int)))]) (fun i => []) (fun i => i ≤ a.length ∧ (∀ j, j < i → a.getD j default = b.getD j default)) ((a.length - ·)) (0) ⟨by omega, fun j hj => by omega⟩ ⟨rfl, rfl, rfl, rfl, rfl, trivial⟩ trivial rfl rfW rfW ?_
    rintro i ⟨hi, hp⟩
    rcases Nat.lt_or_ge i a.length with h | h
    · have h' : i < b.length := by omega
      have hl1 := limbs_len (a.getD i default)
      have hl2 := limbs_len (b.getD i default)
      by_cases he : a.getD i default = b.getD i default
      · have hok : i + 1 ≤ a.length ∧ ∀ j, j < i + 1 → a.getD j default = b.getD j default := ⟨h, same_step hp he⟩
        have hq : limbs (a.getD i default) = limbs (b.getD i default) := by rw [he]
        clear hp he
        exact wk trueW trueW trueW
      · rw [decide_eq_false fun e => he (by rw [e])]
        have hq : ¬ limbs (a.getD i default) = limbs (b.getD i default) := fun e => he (limbs_inj' (ha _ (getD_mem' h)) (hb _ (getD_mem' h')) e)
        clear hp he
        exact wk trueW trueW trueW
    · obtain rfl : i = a.length := by omega
      rw [decide_eq_true (list_eq_of hl hp)]
      clear hp
      exact wk trueW trueW trueW
  · rw [decide_eq_false fun e => hl (by rw [e])]
    refine LFx.mk' tt Try.func28 rfl rfl rfl (by kernel_rfl) rfl rfl fun F => ?_
    exact wk trueW trueW trueW
theorem lg_ext {x y : Lg} (h1 : x.addr = y.addr) (h2 : x.topics = y.topics) (h3 : x.data = y.data) : x = y := by
  cases x; cases y; simp only at h1 h2 h3; subst h1; subst h2; subst h3; rfl
set_option maxHeartbeats 2000000 in
theorem SameL1 (x y : Lg) (kx : x.ok) (ky : y.ok) : LF Try.prog 27 [lgV x, lgV y] (fun _ => .k (.bool (decide (x = y)))) none := by
  have c1 := EqualW x.topics y.topics kx.tops ky.tops kx.tl ky.tl
  have hxa := kx.addr
  have hya := ky.addr
  have hxd := kx.dl
  have hyd := ky.dl
  have ld1 := @lg_a
  have ld2 := @lg_t
  have ld3 := @lg_d
  have hll : (lgC x).length = 10 := lgS_len hxa
  have hll2 : (lgC y).length = 10 := lgS_len hya
  have hrf := siftRefs
  by_cases h1 : x.addr = y.addr
  · by_cases h2 : x.topics = y.topics
    · rw [decide_eq_true h2] at c1
      by_cases h3 : x.data = y.data
      · rw [decide_eq_true (lg_ext h1 h2 h3)]
        refine LFx.mk' tt Try.func27 rfl rfl rfl (by kernel_rfl) rfl rfl fun F => ?_
        exact wk trueW trueW trueW
      · rw [decide_eq_false fun e => h3 (by rw [e])]
        refine LFx.mk' tt Try.func27 rfl rfl rfl (by kernel_rfl) rfl rfl fun F => ?_
        exact wk trueW trueW trueW
    · rw [decide_eq_false h2] at c1
      rw [decide_eq_false fun e => h2 (by rw [e])]
      refine LFx.mk' tt Try.func27 rfl rfl rfl (by kernel_rfl) rfl rfl fun F => ?_
      exact wk trueW trueW trueW
  · rw [decide_eq_false fun e => h1 (by rw [e])]
    refine LFx.mk' tt Try.func27 rfl rfl rfl (by kernel_rfl) rfl rfl fun F => ?_
    exact wk trueW trueW trueW
set_option maxHeartbeats 2000000 in
theorem EqualL (a b : List Lg) (ha : ∀ t ∈ a, t.ok) (hb : ∀ t ∈ b, t.ok) (hla : a.length < 2000000) (hlb : b.length < 2000000) : LF Try.prog 26 [lgsV a, lgsV b, .f (.func 27) [] []] (fun _ => .k (.bool (decide (a = b)))) none := by
  have hrf := siftRefs
  by_cases hl : a.length = b.length
  · refine LFx.mk' tt Try.func26 rfl rfl rfl (by kernel_rfl) rfl rfl fun F => ?_
    refine wk ?_ trueW trueW
    refine LC.loopN (fun i => [(0, lgsV a), (1, lgsV b), (2, .f (.func 27) [] []), (15, lgsV a), (16, .k (.int .i64 ((a.length : Nat) : Int))), (17, .k (.int .i64 ((i : Nat) : Int)))]) (fun i => []) (fun i => i ≤ a.length ∧ (∀ j, j < i → a.getD j default = b.getD j default)) ((a.length - ·)) (0) ⟨by omega, fun j hj => by omega⟩ ⟨rfl, rfl, rfl, rfl, rfl, rfl, trivial⟩ trivial rfl rfW rfW ?_
    rintro i ⟨hi, hp⟩
    rcases Nat.lt_or_ge i a.length with h | h
    · have h' : i < b.length := by omega
      have ka := ha _ (getD_mem' (d := default) h)
      have kb := hb _ (getD_mem' (d := default) h')
      have hl1 : (lgC (a.getD i default)).length = 10 := lgS_len ka.addr
      have hl2 : (lgC (b.getD i default)).length = 10 := lgS_len kb.addr
      have c1 := SameL1 _ _ ka kb
      by_cases he : a.getD i default = b.getD i default
      · have hok : i + 1 ≤ a.length ∧ ∀ j, j < i + 1 → a.getD j default = b.getD j default := ⟨h, same_step hp he⟩
        rw [decide_eq_true he] at c1
        clear hp he ha hb
        exact wk trueW trueW trueW
      · rw [decide_eq_false fun e => he (by rw [e])]
        rw [decide_eq_false he] at c1
        clear hp he ha hb
        exact wk trueW trueW trueW
    · obtain rfl : i = a.length := by omega
      rw [decide_eq_true (list_eq_of hl hp)]
      clear hp
      exact wk trueW trueW trueW
  · rw [decide_eq_false fun e => hl (by rw [e])]
    refine LFx.mk' tt Try.func26 rfl rfl rfl (by kernel_rfl) rfl rfl fun F => ?_
    exact wk trueW trueW trueW
theorem SameL (a b : List Lg) (ha : ∀ t ∈ a, t.ok) (hb : ∀ t ∈ b, t.ok) (hla : a.length < 2000000) (hlb : b.length < 2000000) : LF Try.prog 14 [lgsV a, lgsV b] (fun _ => .k (.bool (decide (a = b)))) none := by
  have hrf := siftRefs
  have c1 := EqualL a b ha hb hla hlb
  clear ha hb
  generalize decide (a = b) = r at *
  refine LFx.mk' tt Try.func14 rfl rfl rfl (by kernel_rfl) rfl rfl fun F => ?_
  exact wk trueW trueW trueW
theorem SameL_one (x y : Lg) (kx : x.ok) (ky : y.ok) : LF Try.prog 14 [.s none [lgV x], .s none [lgV y]] (fun _ => .k (.bool (decide (x = y)))) none := by
  have h := SameL [x] [y] (by simpa using kx) (by simpa using ky) (by show 1 < 2000000; omega) (by show 1 < 2000000; omega)
  have e : decide ([x] = [y]) = decide (x = y) := by
    by_cases e : x = y
    · rw [decide_eq_true e, decide_eq_true (by rw [e])]
    · rw [decide_eq_false e, decide_eq_false fun h => e (by simpa using h)]
  rw [e] at h
  exact h
theorem fd3_bare (d : Fd) : (V.a (List.drop 3 (fdV d).cells)).bare = some (lgV d.log) := by
  rw [show List.drop 3 (fdV d).cells = lgC d.log from by show List.drop 3 (fdC d) = _; unfold fdC; rw [fdS_eq]; rfl]
  exact lgV_bare _
theorem fd_ext {x y : Fd} (h1 : x.number = y.number) (h2 : x.tx = y.tx) (h3 : x.at_ = y.at_) (h4 : x.log = y.log) : x = y := by
  cases x; cases y; simp only at h1 h2 h3 h4; subst h1; subst h2; subst h3; subst h4; rfl
set_option maxHeartbeats 4000000 in
theorem SameF (a b : List Fd) (ha : ∀ t ∈ a, t.ok) (hb : ∀ t ∈ b, t.ok) (hla : a.length < 2000000) (hlb : b.length < 2000000) : LF Try.prog 9 [fdsV a, fdsV b] (fun _ => .k (.bool (decide (a = b)))) none := by
  have hrf := siftRefs
  by_cases hl : a.length = b.length
  · refine LFx.mk' tt Try.func9 rfl rfl rfl (by kernel_rfl) rfl rfl fun F => ?_
    refine wk ?_ trueW trueW
    refine LC.loopN (fun i => [(0, fdsV a), (1, fdsV b), (11, fdsV a), (12, .k (.int .i64 ((a.length : Nat) : Int))), (13, .k (.int .i64 ((i : Nat) : Int)))]) (fun i => []) (fun i => i ≤ a.length ∧ (∀ j, j < i → a.getD j default = b.getD j default)) ((a.length - ·)) (0) ⟨by omega, fun j hj => by omega⟩ ⟨rfl, rfl, rfl, rfl, rfl, trivial⟩ trivial rfl rfW rfW ?_
    rintro i ⟨hi, hp⟩
    rcases Nat.lt_or_ge i a.length with h | h
    · have h' : i < b.length := by omega
      have ka := ha _ (getD_mem' (d := default) h)
      have kb := hb _ (getD_mem' (d := default) h')
      have c1 := SameL_one (a.getD i default).log (b.getD i default).log ka.log kb.log
      have n1 := ka.number
      have n2 := kb.number
      have n3 := ka.tx
      have n4 := kb.tx
      have n5 := ka.at_
      have n6 := kb.at_
      have hl1 : (fdC (a.getD i default)).length = 13 := fdS_len ka.log.addr
      have hl2 : (fdC (b.getD i default)).length = 13 := fdS_len kb.log.addr
      have hl3 : (lgC (a.getD i default).log).length = 10 := lgS_len ka.log.addr
      have hl4 : (lgC (b.getD i default).log).length = 10 := lgS_len kb.log.addr
      have hk1 := ka.log.addr
      have hk2 := kb.log.addr
      have hbr : ∀ d : Fd, (V.a (List.drop 3 (fdV d).cells)).bare = some (lgV d.log) := fd3_bare
      have hl5 : (List.drop 3 (fdC (a.getD i default))).length = 10 := by rw [List.length_drop, hl1]
      have hl6 : (List.drop 3 (fdC (b.getD i default))).length = 10 := by rw [List.length_drop, hl2]
      have ld1 := @fdq_n
      have ld2 := @fdq_x
      have ld3 := @fdq_i
      have ld4 := @fdq_l
      have hdt : a.getD i default = b.getD i default ↔ (a.getD i default).number = (b.getD i default).number ∧ (a.getD i default).tx = (b.getD i default).tx ∧ (a.getD i default).at_ = (b.getD i default).at_ ∧ (a.getD i default).log = (b.getD i default).log :=
        ⟨fun e => by rw [e]; exact ⟨rfl, rfl, rfl, rfl⟩, fun ⟨e1, e2, e3, e4⟩ => fd_ext e1 e2 e3 e4⟩
      by_cases g1 : (a.getD i default).number = (b.getD i default).number
      · by_cases g2 : (a.getD i default).tx = (b.getD i default).tx
        · by_cases g3 : (a.getD i default).at_ = (b.getD i default).at_
          · by_cases g4 : (a.getD i default).log = (b.getD i default).log
            · have hok : i + 1 ≤ a.length ∧ ∀ j, j < i + 1 → a.getD j default = b.getD j default := ⟨h, same_step hp (hdt.2 ⟨g1, g2, g3, g4⟩)⟩
              rw [decide_eq_true g4] at c1
              clear hp ha hb hdt
              exact wk trueW trueW trueW
            · rw [decide_eq_false fun e => g4 (hdt.1 (by rw [e])).2.2.2]
              rw [decide_eq_false g4] at c1
              clear hp ha hb hdt
              exact wk trueW trueW trueW
          · rw [decide_eq_false fun e => g3 (hdt.1 (by rw [e])).2.2.1]
            clear hp ha hb hdt
            exact wk trueW trueW trueW
        · rw [decide_eq_false fun e => g2 (hdt.1 (by rw [e])).2.1]
          clear hp ha hb hdt
          exact wk trueW trueW trueW
      · rw [decide_eq_false fun e => g1 (hdt.1 (by rw [e])).1]
        clear hp ha hb hdt
        exact wk trueW trueW trueW
    · obtain rfl : i = a.length := by omega
      rw [decide_eq_true (list_eq_of hl hp)]
      clear hp
      exact wk trueW trueW trueW
  · rw [decide_eq_false fun e => hl (by rw [e])]
    refine LFx.mk' tt Try.func9 rfl rfl rfl (by kernel_rfl) rfl rfl fun F => ?_
    exact wk trueW trueW trueW
end Sf
end Lf
end Go.Proofs.Ytpchigdcikknmaa

/- Sift: the texts of logs; rightly. -/
namespace Go.Proofs.Ytpchigdcikknmaa
open Go.RowKit Rg Wm Ar
set_option linter.unusedVariables false
set_option maxRecDepth 100000
namespace Lf
abbrev tsL (ts : List (List UInt8)) : List V := ts.map bsV
/-- The texts of logs. -/
def textsL (ls : List Lg) : List (List UInt8) := ls.flatMap fun l => l.addr :: l.topics.map wordB
theorem texts_snoc {ls : List Lg} {i : Nat} (h : i < ls.length) : textsL (ls.take (i + 1)) = textsL (ls.take i) ++ ((ls.getD i default).addr :: (ls.getD i default).topics.map wordB) := by
  unfold textsL
  rw [take_snoc h, List.flatMap_append]
  simp
theorem texts_len {ls : List Lg} (hs : ∀ l ∈ ls, l.ok) : ∀ i, i ≤ ls.length → (textsL (ls.take i)).length ≤ i * 2000001
  | 0, _ => by rw [List.take_zero]; exact Nat.le_refl 0
  | i + 1, h => by
    have := texts_len hs i (by omega)
    have hk := (hs _ (getD_mem' (d := default) (show i < ls.length by omega))).tl
    rw [texts_snoc (by omega), List.length_append, List.length_cons, List.length_map]
    omega
theorem tsL_one (ts : List (List UInt8)) : ∀ e ∈ tsL ts, e.cells.length = 1 := fun e he => by obtain ⟨x, _, rfl⟩ := List.mem_map.1 he; rfl
theorem cq_addr {l : Lg} (k : l.ok) : CutQ (lgC l) 8 l.addr := ⟨by unfold lgC; rw [lgS_eq, List.take_append_of_le_length (by rw [len_b _ k.addr]; omega), List.take_of_length_le (by rw [len_b _ k.addr]; omega)], k.addr⟩
theorem cq_word (t : Nat) : CutQ ((wordB t).map bK) 32 (wordB t) := ⟨List.take_of_length_le (by rw [List.length_map, wordB_len]; omega), wordB_len t⟩
theorem lgq_t {ti : TI} {a : List UInt8} {t u : V} (k : a.length = 8) (hd : ti.d.agg = false) : ti.part (List.drop 8 (lgS a t u)) 0 = some t := part_num (r := [u]) hd (by rw [List.drop_zero, lgS_eq]; exact drop_at (len_b _ k) 0)
attribute [irreducible] textsL
namespace Sf
set_option maxHeartbeats 8000000 in
theorem Texts_ (ls : List Lg) (hs : ∀ l ∈ ls, l.ok) (hl : ls.length < 2000000) (k : Nat) : LM Try.prog 20 [lgsV ls] [] fun o m => o = .ret (.s (some k) (tsL (textsL ls))) ∧ m = [(k, .r 39 1 (textsL ls).length)] := by
  have hrf := siftRefs
  have c1 := Wo.Bytes
  refine LM.row1 (k0 := 60) (fun _ => rfl) ?_ k
  refine LFx.mk' tt Try.func20 rfl rfl rfl (by kernel_rfl) rfl rfl fun F => ?_
  refine wk ?_ trueW trueW
  refine LC.nilrow 3 60 39 1 rfl rfl rfl ?_
  refine LC.loop2 (fun i S => [(3, .s (some 60) (tsL S)), (9, lgsV ls), (10, .k (.int .i64 ((ls.length : Nat) : Int))), (11, .k (.int .i64 ((i : Nat) : Int)))]) (fun i S => [(60, .r 39 1 S.length)]) (fun i S => i ≤ ls.length ∧ S = textsL (ls.take i)) ((ls.length - ·)) (0) ([]) ⟨by omega, by unfold textsL; rfl⟩ ⟨rfl, rfl, rfl, rfl, trivial⟩ ⟨rfl, trivial⟩ rfl rfW rfW ?_
  rintro i S ⟨hi, hS⟩
  have hSl : S.length ≤ i * 2000001 := by rw [hS]; exact texts_len hs i hi
  have hz := tsL_one S
  by_cases h : i < ls.length
  · have kl := hs _ (getD_mem' (d := default) h)
    have ka := kl.addr
    have ktl := kl.tl
    have hll : (lgC (ls.getD i default)).length = 10 := lgS_len ka
    have hq1 := cq_addr kl
    have hfb : FrzBox 5 5 := ⟨⟩
    have hbg : V.bare.go (lgC (ls.getD i default)) = some (lgC (ls.getD i default)) := lgS_bare _ _ _
    have ld1 := @lg_t
    have ld2 : ∀ {ti : TI} {a : List UInt8} {t u : V}, a.length = 8 → ti.d.agg = false → ti.part (List.drop 8 (lgS a t u)) 0 = some t := @lgq_t
    refine wk ?_ trueW trueW
    clear hfb
    have hfb : FrzBox 10 8 := ⟨⟩
    refine LC.loop2 (fun j S2 => [(3, .s (some 60) (tsL S2)), (9, lgsV ls), (10, .k (.int .i64 ((ls.length : Nat) : Int))), (11, .k (.int .i64 ((i : Nat) : Int))), (21, wsV (ls.getD i default).topics), (22, .k (.int .i64 (((ls.getD i default).topics.length : Nat) : Int))), (23, .k (.int .i64 ((j : Nat) : Int)))]) (fun j S2 => [(60, .r 39 1 S2.length)]) (fun j S2 => j ≤ (ls.getD i default).topics.length ∧ S2 = S ++ [(ls.getD i default).addr] ++ ((ls.getD i default).topics.take j).map wordB) (((ls.getD i default).topics.length - ·)) (0) ((S ++ [(ls.getD i default).addr])) ⟨by omega, by rw [List.take_zero]; simp⟩ ⟨rfl, rfl, rfl, rfl, rfl, rfl, rfl, trivial⟩ ⟨rfl, trivial⟩ rfl rfW rfW ?_
    rintro j S2 ⟨hj, hS2⟩
    have hSl2 : S2.length = S.length + 1 + j := by rw [hS2, List.length_append, List.length_append, List.length_map, List.length_take, List.length_singleton, Nat.min_eq_left hj]
    have hz2 := tsL_one S2
    by_cases h2 : j < (ls.getD i default).topics.length
    · have hlw := limbs_len ((ls.getD i default).topics.getD j default)
      have hwl := wordB_len ((ls.getD i default).topics.getD j default)
      have hq2 := cq_word ((ls.getD i default).topics.getD j default)
      have hok : j + 1 ≤ (ls.getD i default).topics.length ∧ S2 ++ [wordB ((ls.getD i default).topics.getD j default)] = S ++ [(ls.getD i default).addr] ++ ((ls.getD i default).topics.take (j + 1)).map wordB := ⟨h2, by rw [hS2, take_snoc h2, List.map_append, List.append_assoc, List.append_assoc, List.append_assoc]; rfl⟩
      have hbb := bare_bK (wordB ((ls.getD i default).topics.getD j default))
      clear hS hS2 hs
      exact wk trueW trueW trueW
    · obtain rfl : j = (ls.getD i default).topics.length := by omega
      rw [List.take_length] at hS2
      have hok : i + 1 ≤ ls.length ∧ S2 = textsL (ls.take (i + 1)) := ⟨h, by rw [hS2, texts_snoc h, hS]; simp⟩
      clear hS hS2 hs
      exact wk trueW trueW trueW
  · obtain rfl : i = ls.length := by omega
    rw [List.take_length] at hS
    rw [← hS]
    clear hS hs
    exact wk trueW trueW trueW
end Sf
end Lf
end Go.Proofs.Ytpchigdcikknmaa

/- Sift: rightly. -/
namespace Go.Proofs.Ytpchigdcikknmaa
open Go.RowKit Rg Wm Ar
set_option linter.unusedVariables false
set_option maxRecDepth 100000
namespace Lf
def fixR (r : Rc) : Rc := ⟨r.good, r.used, ofB (textsL r.logs), r.logs⟩
def rightP (p : Pg) : Pg := ⟨p.number, p.recs.map fixR⟩
theorem fixR_ok {r : Rc} (k : r.ok) : (fixR r).ok := ⟨k.used, ofB_len _, k.logs, k.ll⟩
theorem rightP_ok {p : Pg} (k : p.ok) : (rightP p).ok := ⟨k.number, fun r hr => by
  obtain ⟨x, hx, rfl⟩ := List.mem_map.1 hr
  exact fixR_ok (k.recs x hx), by show (p.recs.map fixR).length < _; rw [List.length_map]; exact k.rl⟩
theorem textsL_mem {ls : List Lg} (hs : ∀ l ∈ ls, l.ok) : ∀ t ∈ textsL ls, t.length < 1073741824 := fun t ht => by
  unfold textsL at ht
  obtain ⟨l, hl, ht⟩ := List.mem_flatMap.1 ht
  rcases List.mem_cons.1 ht with rfl | ht
  · rw [(hs l hl).addr]; omega
  · obtain ⟨w, _, rfl⟩ := List.mem_map.1 ht
    rw [wordB_len]; omega
theorem rcV_bare (r : Rc) : (rcV r).bare = some (rcV r) := by
  show (V.bare.go (rcC r)).map V.a = _
  rw [rcC_bare]; rfl
/-- The stored bloom. -/
theorem rc_set {r : Rc} {b : List UInt8} (k : r.ok) (hb : b.length = 32) : splice (rcC r) 2 (b.map bK) = rcC ⟨r.good, r.used, b, r.logs⟩ := by
  have h1 := len_b _ k.bloom
  have h2 := len_b _ hb
  rw [rcC_eq, rcC_eq]
  unfold splice
  rw [List.take_succ_cons, List.take_succ_cons, List.take_zero, show 2 + (b.map bK).length = 2 + 32 from by rw [h2]]
  rw [show (2 + 32) = 32 + 2 from rfl, List.drop_succ_cons, List.drop_succ_cons]
  have := drop_at h1 (b := [lgsV r.logs]) 0
  rw [Nat.add_zero] at this
  rw [this]
  simp
namespace Sf
set_option maxHeartbeats 8000000 in
theorem rightly_ (ps : List Pg) (hs : ∀ p ∈ ps, p.ok) (hl : ps.length < 2000000) (ht : ∀ p ∈ ps, ∀ r ∈ p.recs, (textsL r.logs).length < 1073741824) : LF Try.prog 8 [pgsV ps] (fun _ => pgsV (ps.map rightP)) none := by
  have hrf := siftRefs
  have hbr := rcV_bare
  refine LFx.mk' tt Try.func8 rfl rfl rfl (by kernel_rfl) rfl rfl fun F => ?_
  refine wk ?_ trueW trueW
  refine LC.nilrow 3 60 49 2 rfl rfl rfl ?_
  refine LC.loop2 (fun i S => [(3, .s (some 60) (S.map pgV)), (9, pgsV ps), (10, .k (.int .i64 ((ps.length : Nat) : Int))), (11, .k (.int .i64 ((i : Nat) : Int)))]) (fun i S => [(60, .r 49 2 S.length)]) (fun i S => i ≤ ps.length ∧ S = (ps.take i).map rightP) ((ps.length - ·)) (0) ([]) ⟨by omega, by rw [List.take_zero]; rfl⟩ ⟨rfl, rfl, rfl, rfl, trivial⟩ ⟨rfl, trivial⟩ rfl rfW rfW ?_
  rintro i S ⟨hi, hS⟩
  have hSl : S.length = i := by rw [hS, List.length_map, List.length_take, Nat.min_eq_left hi]
  have hz : ∀ e ∈ S.map pgV, e.cells.length = 2 := fun e he => by obtain ⟨x, _, rfl⟩ := List.mem_map.1 he; rfl
  by_cases h : i < ps.length
  · have hpm := getD_mem' (d := default) h
    have kp := hs _ hpm
    have hpt := ht _ hpm
    have hrl := kp.rl
    refine wk ?_ trueW trueW
    refine LC.nilcell 6 1 70 54 35 rfl rfl rfl (by decide) rfl ?_
    refine LC.loop2 (fun j R => [(3, .s (some 60) (S.map pgV)), (6, .p 6 0), (9, pgsV ps), (10, .k (.int .i64 ((ps.length : Nat) : Int))), (11, .k (.int .i64 ((i : Nat) : Int))), (19, rcsV (ps.getD i default).recs), (20, .k (.int .i64 (((ps.getD i default).recs.length : Nat) : Int))), (21, .k (.int .i64 ((j : Nat) : Int)))]) (fun j R => [(6, .b [uK (ps.getD i default).number, .s (some 70) (R.map rcV)]), (60, .r 49 2 S.length), (70, .r 54 35 R.length)]) (fun j R => j ≤ (ps.getD i default).recs.length ∧ R = ((ps.getD i default).recs.take j).map fixR) (((ps.getD i default).recs.length - ·)) (0) ([]) ⟨by omega, by rw [List.take_zero]; rfl⟩ ⟨rfl, rfl, rfl, rfl, rfl, rfl, rfl, rfl, trivial⟩ ⟨rfl, rfl, rfl, trivial⟩ rfl rfW rfW ?_
    rintro j R ⟨hj, hR⟩
    have hRl : R.length = j := by rw [hR, List.length_map, List.length_take, Nat.min_eq_left hj]
    have hzR : ∀ e ∈ R.map rcV, e.cells.length = 35 := fun e he => by
      obtain ⟨x, hx, rfl⟩ := List.mem_map.1 he
      rw [hR] at hx
      obtain ⟨y, hy, rfl⟩ := List.mem_map.1 hx
      exact rcC_len (fixR_ok (kp.recs _ (List.mem_of_mem_take hy)))
    by_cases h2 : j < (ps.getD i default).recs.length
    · have hrm := getD_mem' (d := default) h2
      have kr := kp.recs _ hrm
      have hT := hpt _ hrm
      have hll := rcC_len kr
      have kll := kr.ll
      have ld1 := @rc_l
      have ld2 := @rc_b
      have c1 := Texts_ _ kr.logs kr.ll
      have c2 := Bl.Of _ hT (textsL_mem kr.logs)
      have hol := ofB_len (textsL ((ps.getD i default).recs.getD j default).logs)
      have hll2 : (rcC (fixR ((ps.getD i default).recs.getD j default))).length = 35 := rcC_len (fixR_ok kr)
      have hsp : splice (rcC ((ps.getD i default).recs.getD j default)) 2 ((ofB (textsL ((ps.getD i default).recs.getD j default).logs)).map bK) = rcC (fixR ((ps.getD i default).recs.getD j default)) := rc_set kr hol
      have hok : j + 1 ≤ (ps.getD i default).recs.length ∧ R ++ [fixR ((ps.getD i default).recs.getD j default)] = ((ps.getD i default).recs.take (j + 1)).map fixR := ⟨h2, by rw [hR, take_snoc h2, List.map_append]; rfl⟩
      have sp1 : ∀ {n : Nat} {us : List V}, n = 2 → us = (ofB (textsL ((ps.getD i default).recs.getD j default).logs)).map bK → splice (rcC ((ps.getD i default).recs.getD j default)) n us = rcC (fixR ((ps.getD i default).recs.getD j default)) := fun e1 e2 => by subst e1; subst e2; exact hsp
      clear hS hR hs ht hpt
      generalize textsL ((ps.getD i default).recs.getD j default).logs = T at *
      generalize ofB T = B at *
      generalize fixR ((ps.getD i default).recs.getD j default) = r' at *
      exact wk trueW trueW trueW
    · obtain rfl : j = (ps.getD i default).recs.length := by omega
      rw [List.take_length] at hR
      have hok : i + 1 ≤ ps.length ∧ S ++ [⟨(ps.getD i default).number, R⟩] = (ps.take (i + 1)).map rightP := ⟨h, by rw [hS, take_snoc h, List.map_append, hR]; rfl⟩
      clear hS hR hs ht hpt
      refine wk ?_ trueW trueW
      exact LNext2.go (y := i + 1) (z := S ++ [⟨(ps.getD i default).number, R⟩]) ⟨by rw [List.map_append]; rfl, rfl, rfl, rfl, True.intro⟩ ⟨by simp only [List.length_append, List.length_map]; rfl, True.intro⟩ rfl rfl rfl hok (by omega)
  · obtain rfl : i = ps.length := by omega
    rw [List.take_length] at hS
    rw [← hS]
    clear hS hs ht
    exact wk trueW trueW trueW
end Sf
end Lf
end Go.Proofs.Ytpchigdcikknmaa

/- Sift: who skips loses nothing. -/
namespace Go.Proofs.Ytpchigdcikknmaa
open Go.RowKit Rg Wm Ar
set_option linter.unusedVariables false
set_option maxRecDepth 100000
namespace Lf
theorem mayT_mem {t : List UInt8} {ts : List (List UInt8)} (h : t ∈ ts) : mayT (ofB ts) t = true := by
  have := ofB_mem (f := z32) rfl h
  unfold mayT
  refine decide_eq_true ?_
  show J (ofB [t]) (ofB ts) = ofB ts
  have e : ts.foldl addT z32 = ofB ts := by unfold ofB; rfl
  rw [e] at this
  exact this
theorem text_addr {ls : List Lg} {l : Lg} (h : l ∈ ls) : l.addr ∈ textsL ls := by
  unfold textsL
  exact List.mem_flatMap.2 ⟨l, h, by simp⟩
theorem text_word {ls : List Lg} {l : Lg} {t : Nat} (h : l ∈ ls) (ht : t ∈ l.topics) : wordB t ∈ textsL ls := by
  unfold textsL
  exact List.mem_flatMap.2 ⟨l, h, by simp only [List.mem_cons, List.mem_map]; exact .inr ⟨t, ht, rfl⟩⟩
/-- What lets a log through may be behind the receipt's own. -/
theorem never_r {f : Fl} {ls : List Lg} {l : Lg} (h : l ∈ ls) (hl : lets f l = true) : mayB f (ofB (textsL ls)) = true := by
  unfold lets at hl
  unfold mayB
  simp only [Bool.and_eq_true, Bool.or_eq_true, decide_eq_true_eq, List.all_eq_true] at hl ⊢
  refine ⟨fun t ht => mayT_mem (text_word h (hl.2 t ht)), ?_⟩
  rcases hl.1 with h1 | h1
  · exact .inl h1
  · exact .inr (any_of.2 ⟨_, h1, mayT_mem (text_addr h)⟩)
theorem recF_log {n i : Nat} {ls : List Lg} : ∀ d ∈ recF n i ls, d.log ∈ ls := fun d hd => by
  unfold recF at hd
  obtain ⟨k, hk, rfl⟩ := List.mem_mapIdx.1 hd
  exact List.getElem_mem hk
theorem recsF_filt {f : Fl} {lk : Rc → Bool} {n : Nat} {rs : List Rc} (h : ∀ r ∈ rs, ∀ l ∈ r.logs, lets f l = true → lk r = true) : ((recsF lk n rs).filter fun x => lets f x.log) = (recsF lkAll n rs).filter fun x => lets f x.log := by
  have key : ∀ m, m ≤ rs.length → ((recsF lk n (rs.take m)).filter fun x => lets f x.log) = (recsF lkAll n (rs.take m)).filter fun x => lets f x.log := by
    intro m
    induction m with
    | zero => intro _; rw [List.take_zero, recs_nil, recs_nil]
    | succ m ih =>
      intro hm
      rw [recsF_snoc (by omega), recsF_snoc (by omega), List.filter_append, List.filter_append, ih (by omega)]
      congr 1
      cases hk : lk (rs.getD m default) with
      | true => rfl
      | false =>
        rw [cond_false, cond_true, List.filter_nil, eq_comm, List.filter_eq_nil_iff]
        intro d hd hl
        have := h _ (getD_mem' (by omega)) _ (recF_log d hd) hl
        rw [hk] at this; cases this
  have := key rs.length (Nat.le_refl _)
  rwa [List.take_length] at this
theorem allF_cons (lk : Rc → Bool) (p : Pg) (ps : List Pg) : allF lk (p :: ps) = recsF lk p.number p.recs ++ allF lk ps := by unfold allF; rfl
theorem allF_append (lk : Rc → Bool) : ∀ a b : List Pg, allF lk (a ++ b) = allF lk a ++ allF lk b
  | [], _ => by rw [all_nil]; rfl
  | p :: a, b => by rw [List.cons_append, allF_cons, allF_cons, allF_append lk a b, List.append_assoc]
theorem allF_filt {f : Fl} {lk : Rc → Bool} : ∀ {ps : List Pg}, (∀ p ∈ ps, ∀ r ∈ p.recs, ∀ l ∈ r.logs, lets f l = true → lk r = true) → ((allF lk ps).filter fun x => lets f x.log) = (allF lkAll ps).filter fun x => lets f x.log
  | [], _ => by rw [all_nil, all_nil]
  | p :: ps, h => by
    rw [allF_cons, allF_cons, List.filter_append, List.filter_append, recsF_filt (h p (by simp)), allF_filt fun q hq => h q (by simp [hq])]
theorem never {f : Fl} {z : Int} {ps : List Pg} : foundL (fun r => mayB f r.bloom) f z (ps.map rightP) = foundL lkAll f z (ps.map rightP) := by
  unfold foundL
  rw [allF_filt]
  intro p hp r hr l hl h
  obtain ⟨q, _, rfl⟩ := List.mem_map.1 hp
  obtain ⟨x, _, rfl⟩ := List.mem_map.1 hr
  exact never_r hl h
/-! ### Sizes -/
theorem recs_cnt (n m : Nat) : ∀ (rs rs' : List Rc), rs'.length = rs.length → (∀ j, (rs'.getD j default).logs.length = (rs.getD j default).logs.length) → (recsF lkAll n rs').length = (recsF lkAll m rs).length := by
  intro rs rs' hl h
  have key : ∀ k, k ≤ rs.length → (recsF lkAll n (rs'.take k)).length = (recsF lkAll m (rs.take k)).length := by
    intro k
    induction k with
    | zero => intro _; rw [List.take_zero, List.take_zero, recs_nil, recs_nil]
    | succ k ih =>
      intro hk
      rw [recsF_snoc (by omega), recsF_snoc (by omega), List.length_append, List.length_append, ih (by omega)]
      simp only [cond_true]
      unfold recF
      rw [List.length_mapIdx, List.length_mapIdx, h k]
  have := key rs.length (Nat.le_refl _)
  rwa [List.take_length, List.take_of_length_le (by omega)] at this
theorem right_cnt : ∀ ps : List Pg, (allF lkAll (ps.map rightP)).length = (allF lkAll ps).length
  | [] => rfl
  | p :: ps => by
    rw [List.map_cons, allF_cons, allF_cons, List.length_append, List.length_append, right_cnt ps]
    congr 1
    refine recs_cnt _ _ _ _ (List.length_map _) fun j => ?_
    show ((p.recs.map fixR).getD j default).logs.length = _
    rw [List.getD_eq_getElem?_getD, List.getD_eq_getElem?_getD, List.getElem?_map]
    cases p.recs[j]? with
    | none => rfl
    | some r => rfl
theorem PgsOk.right {ps : List Pg} (h : PgsOk ps) : PgsOk (ps.map rightP) := ⟨fun p hp => by
  obtain ⟨q, hq, rfl⟩ := List.mem_map.1 hp
  exact rightP_ok (h.pgs q hq), by rw [List.length_map]; exact h.len, by rw [right_cnt]; exact h.tot⟩
theorem found_ok {lk : Rc → Bool} {f : Fl} {z : Int} {ps : List Pg} (h : PgsOk ps) : ∀ d ∈ foundL lk f z ps, d.ok := fun d hd => by
  unfold foundL at hd
  exact allF_ok h.pgs d (List.mem_filter.1 (List.mem_of_mem_take hd)).1
theorem found_len {lk : Rc → Bool} {f : Fl} {z : Int} {ps : List Pg} (h : PgsOk ps) : (foundL lk f z ps).length < 2000000 := by
  unfold foundL
  have h1 := List.length_filter_le (fun x : Fd => lets f x.log) (allF lk ps)
  have h2 := allF_le lk ps
  have h3 := h.tot
  rw [List.length_take]
  omega
/-- Texts of a size that the set can take. -/
def TxOk (ps : List Pg) : Prop := ∀ p ∈ ps, ∀ r ∈ p.recs, (textsL r.logs).length < 1073741824
namespace Sf
theorem SiftNever_ (al : LF Try.prog 7 [] (fun _ => .k (.bool true)) none) (ps : List Pg) (f : Fl) (z : Int) (kf : f.ok) (hz : z < 9223372036854775808) (h : PgsOk ps) (ht : TxOk ps) : LF Try.prog 3 [pgsV ps, flV f, .k (.int .i64 z)] (fun _ => .k (.bool true)) none := by
  have hrf := siftRefs
  have hr := h.right
  have c1 := al
  have c2 := rightly_ ps h.pgs h.len ht
  have c3 := Find_ (ps.map rightP) f z kf hz hr
  have c4 := All_ (ps.map rightP) f z kf hz hr
  rw [never] at c3
  have c5 := SameF (foundL lkAll f z (ps.map rightP)) (foundL lkAll f z (ps.map rightP)) (found_ok hr) (found_ok hr) (found_len hr) (found_len hr)
  rw [decide_eq_true rfl] at c5
  generalize foundL lkAll f z (ps.map rightP) = R at *
  generalize ps.map rightP = ps' at *
  refine LFx.mk' tt Try.func3 rfl rfl rfl (by kernel_rfl) rfl rfl fun F => ?_
  exact wk trueW trueW trueW
end Sf
end Lf
end Go.Proofs.Ytpchigdcikknmaa

/- Sift: it is alive. -/
namespace Go.Proofs.Ytpchigdcikknmaa
open Go.RowKit Rg Wm Ar
set_option linter.unusedVariables false
set_option maxRecDepth 100000
namespace Lf
def ad8 (x : UInt8) : List UInt8 := [x, 0, 0, 0, 0, 0, 0, 0]
def aL1 : Lg := ⟨ad8 1, [5], []⟩
def aL2 : Lg := ⟨ad8 2, [], []⟩
def aLs : List Lg := [aL1, aL2]
def aR : Rc := ⟨false, 0, ofB (textsL aLs), aLs⟩
def aP : List Pg := [⟨3, [aR]⟩]
theorem five_ok : ∀ t ∈ [5], t < M256 := by
  intro t ht
  have e : t = 5 := by simpa using ht
  rw [e]
  decide
theorem aLs_ok : ∀ l ∈ aLs, l.ok := by
  intro l hl
  simp only [aLs, List.mem_cons, List.not_mem_nil, or_false] at hl
  rcases hl with rfl | rfl
  · exact ⟨rfl, five_ok, by decide, by decide⟩
  · exact ⟨rfl, by simp [aL2], by decide, by decide⟩
theorem aR_ok : aR.ok := ⟨by decide, ofB_len _, aLs_ok, by decide⟩
theorem aT_len : (textsL aLs).length = 3 := by unfold textsL; rfl
theorem aP_all (lk : Rc → Bool) : allF lk aP = cond (lk aR) [⟨3, 0, 0, aL1⟩, ⟨3, 0, 1, aL2⟩] [] := by
  unfold aP
  rw [allF_cons, all_nil, List.append_nil]
  unfold recsF recF
  have e : (⟨3, [aR]⟩ : Pg).recs = [aR] := rfl
  rw [e]
  cases h : lk aR with
  | true => simp only [List.mapIdx_cons, List.mapIdx_nil, h, cond_true, List.flatten_cons, List.flatten_nil, List.append_nil]; rfl
  | false => simp only [List.mapIdx_cons, List.mapIdx_nil, h, cond_false, List.flatten_cons, List.flatten_nil, List.append_nil]
theorem aP_ok : PgsOk aP := ⟨fun p hp => by
  have : p = ⟨3, [aR]⟩ := by simpa [aP] using hp
  subst this
  exact ⟨by decide, fun r hr => by have : r = aR := by simpa using hr
                                   subst this; exact aR_ok, by show 1 < _; omega⟩, by show 1 < _; omega, by rw [aP_all]; decide⟩
theorem aF1 : foundL (fun r => mayB ⟨[], [5]⟩ r.bloom) ⟨[], [5]⟩ 9 aP = [⟨3, 0, 0, aL1⟩] := by
  have h : mayB ⟨[], [5]⟩ aR.bloom = true := never_r (l := aL1) (by simp [aLs]) (by decide)
  unfold foundL
  rw [aP_all, h]
  decide
theorem aF2 : (foundL lkAll ⟨[], []⟩ 9 aP).length = 2 := by
  unfold foundL
  rw [aP_all]
  decide
theorem aF3 : foundL lkAll ⟨[ad8 3], []⟩ 9 aP = [] := by
  unfold foundL
  rw [aP_all]
  decide
theorem fl_ok1 : (⟨[], [5]⟩ : Fl).ok := ⟨by simp, five_ok, by decide, by decide⟩
theorem fl_ok2 : (⟨[], []⟩ : Fl).ok := ⟨by simp, by simp, by decide, by decide⟩
theorem fl_ok3 : (⟨[ad8 3], []⟩ : Fl).ok := ⟨by simp [ad8], by simp, by show 1 < _; omega, by show 0 < _; omega⟩
def zerosL : List Z := [.int .u8, .int .u8, .int .u8, .int .u8, .int .u8, .int .u8, .int .u8, .int .u8, .sl, .sl]
def zerosR : List Z := .bool :: .int .u64 :: (List.replicate 32 (.int .u8) ++ [.sl])
abbrev zadV (x : Int) : V := .a [.k (.int .u8 x), .k (.int .u8 0), .k (.int .u8 0), .k (.int .u8 0), .k (.int .u8 0), .k (.int .u8 0), .k (.int .u8 0), .k (.int .u8 0)]
theorem log_b1 : ∃ cs, vfill (fun i => [(0, 8), (8, 1), (9, 1)][i]?) (zerosL.map Z.v) [(0, zadV 1), (1, .s (some 6) [wV 5])] = some cs ∧ V.cv.go (fun _ => false) true cs = lgC aL1 := by
  refine ⟨_, rfl, ?_⟩
  unfold lgC
  rw [lgS_eq]; rfl
theorem log_b2 : ∃ cs, vfill (fun i => [(0, 8), (8, 1), (9, 1)][i]?) (zerosL.map Z.v) [(0, zadV 2)] = some cs ∧ V.cv.go (fun _ => false) true cs = lgC aL2 := by
  refine ⟨_, rfl, ?_⟩
  unfold lgC
  rw [lgS_eq]; rfl
theorem rec_b {B : List UInt8} (hB : B.length = 32) (ls : List V) : ∃ cs, vfill (fun i => [(0, 1), (1, 1), (2, 32), (34, 1)][i]?) (zerosR.map Z.v) [(3, .s (some 10) ls), (2, .a (B.map bK))] = some cs ∧ V.cv.go (fun _ => false) true cs = .k (.bool false) :: uK 0 :: (B.map bK ++ [.s none ls]) := by
  have hl := len_b _ hB
  refine ⟨.k (.bool false) :: uK 0 :: (B.map bK ++ [.s (some 10) ls]), ?_, ?_⟩
  · have e1 : splice (zerosR.map Z.v) 34 (V.s (some 10) ls).cells = .k (.bool false) :: uK 0 :: ((List.replicate 32 (V.k (.int .u8 0))) ++ [.s (some 10) ls]) := rfl
    have e2 : splice (.k (.bool false) :: uK 0 :: ((List.replicate 32 (V.k (.int .u8 0))) ++ [.s (some 10) ls])) 2 (V.a (B.map bK)).cells = .k (.bool false) :: uK 0 :: (B.map bK ++ [.s (some 10) ls]) := by
      unfold splice
      rw [show (V.a (B.map bK)).cells = B.map bK from rfl, hl]
      rfl
    have z0 : (zerosR.map Z.v).length = 35 := rfl
    have z1 : (V.k (.bool false) :: uK 0 :: ((List.replicate 32 (V.k (.int .u8 0))) ++ [V.s (some 10) ls])).length = 35 := rfl
    have l1 : (V.s (some 10) ls).cells.length = 1 := rfl
    have l2 : (V.a (B.map bK)).cells.length = 32 := hl
    have o1 : (V.s (some 10) ls).ok = true := rfl
    have o2 : (V.a (B.map bK)).ok = true := rfl
    simp only [vfill, List.getElem?_cons_zero, List.getElem?_cons_succ, e1, e2, z0, z1, l1, l2, o1, o2]
    rfl
  · rw [V.cv.go, V.cv.go, cv_app', cv_mapb]
    rfl
namespace Sf
set_option maxHeartbeats 8000000 in
theorem alive20 : LF Try.prog 7 [] (fun _ => .k (.bool true)) none := by
  have hrf := siftRefs
  have hlw := limbs_len 5
  have c1 := Wo.IntW 5 (by decide)
  have c2 : ∀ k, LM Try.prog 20 [.s none [lgV aL1, lgV aL2]] [] fun o m => o = .ret (.s (some k) (tsL (textsL aLs))) ∧ m = [(k, .r 39 1 (textsL aLs).length)] := Texts_ aLs aLs_ok (by decide)
  have c3 := Bl.Of (textsL aLs) (by rw [aT_len]; decide) (textsL_mem aLs_ok)
  have c4 : LF Try.prog 10 [.s none [pgV ⟨3, [aR]⟩], .a [.s none [], .s none [wV 5]], .k (.int .i64 9)] (fun _ => fdsV (foundL (fun r => mayB ⟨[], [5]⟩ r.bloom) ⟨[], [5]⟩ 9 aP)) none := Find_ aP ⟨[], [5]⟩ 9 fl_ok1 (by decide) aP_ok
  have c5 : LF Try.prog 11 [.s none [pgV ⟨3, [aR]⟩], .a [.s none [], .s none []], .k (.int .i64 9)] (fun _ => fdsV (foundL lkAll ⟨[], []⟩ 9 aP)) none := All_ aP ⟨[], []⟩ 9 fl_ok2 (by decide) aP_ok
  have c6 : LF Try.prog 11 [.s none [pgV ⟨3, [aR]⟩], .a [.s none [zadV 3], .s none []], .k (.int .i64 9)] (fun _ => fdsV (foundL lkAll ⟨[ad8 3], []⟩ 9 aP)) none := All_ aP ⟨[ad8 3], []⟩ 9 fl_ok3 (by decide) aP_ok
  have n2 := aF2
  rw [aF1] at c4
  rw [aF3] at c6
  have hl1 : (lgC aL1).length = 10 := lgS_len rfl
  have hl2 : (lgC aL2).length = 10 := lgS_len rfl
  have hll := rcC_len aR_ok
  have hbr := lgV_bare
  have hBl := ofB_len (textsL aLs)
  have e3 : rcC aR = .k (.bool false) :: uK 0 :: ((ofB (textsL aLs)).map bK ++ [.s none [lgV aL1, lgV aL2]]) := rcC_eq _
  obtain ⟨cs1, b1, b2⟩ := log_b1
  obtain ⟨cs2, b3, b4⟩ := log_b2
  obtain ⟨cs3, b5, b6⟩ := rec_b hBl [lgV aL1, lgV aL2]
  rw [← e3] at b6
  clear e3
  have ld1 := @fdq_n
  have hl3 : (fdC ⟨3, 0, 0, aL1⟩).length = 13 := fdS_len rfl
  refine LFx.mk' tt Try.func7 rfl rfl rfl (by kernel_rfl) rfl rfl fun F => ?_
  refine wk ?_ trueW trueW
  clear hbr
  have hbr := rcV_bare
  exact wk trueW trueW trueW
theorem SiftNever (ps : List Pg) (f : Fl) (z : Int) (kf : f.ok) (hz : z < 9223372036854775808) (h : PgsOk ps) (ht : TxOk ps) : LF Try.prog 3 [pgsV ps, flV f, .k (.int .i64 z)] (fun _ => .k (.bool true)) none := SiftNever_ alive20 ps f z kf hz h ht
end Sf
end Lf
end Go.Proofs.Ytpchigdcikknmaa

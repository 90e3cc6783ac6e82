/- A part of the proof: texts joined. -/
import Derived.Test.YtffaobngpbaklaaGreatDoorProg
import Derived.Shelf.Bits.Mul64
import Derived.Test.YtffaobngpbaklaaGreatDoorQ6f61d33
namespace Go.Proofs.YtffaobngpbaklaaGreatDoor
namespace Ps
def pos (B : Nat) : List Nat → Nat
 | [] => 0
 | a :: l => a * B ^ l.length + pos B l
def NL (l : List Nat) : Prop := l.head? ≠ some 0
def lexN : List Nat → List Nat → Bool
 | a :: l, b :: m => decide (a < b) || (decide (a = b) && lexN l m)
 | [], _ :: _ => true
 | _, [] => false
theorem pos_append (B : Nat) (l m : List Nat) : pos B (l ++ m) = pos B l * B ^ m.length + pos B m := by
 induction l with
 | nil => simp [pos]
 | cons a l ih =>
  simp only [List.cons_append, pos, ih, List.length_append, Nat.pow_add, Nat.add_mul, Nat.mul_assoc, Nat.add_assoc]
theorem pos_lt {B : Nat} {l : List Nat} (h : ∀ a ∈ l, a < B) : pos B l < B ^ l.length := by
 induction l with
 | nil => simp [pos]
 | cons a l ih =>
  have h1 := ih fun x hx => h x (by simp [hx])
  have h2 : (a + 1) * B ^ l.length ≤ B * B ^ l.length := Nat.mul_le_mul_right _ (h a (by simp))
  simp only [pos, List.length_cons, Nat.pow_succ]
  rw [Nat.mul_comm (B ^ l.length) B]
  rw [Nat.add_mul, Nat.one_mul] at h2
  omega
theorem pos_ge {B : Nat} {a : Nat} {l : List Nat} (h : a ≠ 0) : B ^ l.length ≤ pos B (a :: l) := by
 simp only [pos]
 have : 1 * B ^ l.length ≤ a * B ^ l.length := Nat.mul_le_mul_right _ (by omega)
 omega
theorem pos_lex {B : Nat} : ∀ {l m : List Nat}, l.length = m.length → (∀ a ∈ l, a < B) → (∀ a ∈ m, a < B) → (pos B l < pos B m ↔ lexN l m = true)
 | [], [], _, _, _ => by simp [pos, lexN]
 | a :: l, b :: m, hl, h1, h2 => by
  have hl' : l.length = m.length := by simpa using hl
  have ih := pos_lex hl' (fun x hx => h1 x (by simp [hx])) (fun x hx => h2 x (by simp [hx]))
  have k1 := pos_lt (B := B) (l := l) fun x hx => h1 x (by simp [hx])
  have k2 := pos_lt (B := B) (l := m) fun x hx => h2 x (by simp [hx])
  simp only [pos, lexN, Bool.or_eq_true, Bool.and_eq_true, decide_eq_true_eq, ← ih]
  rw [← hl'] at k2 ⊢
  generalize B ^ l.length = p at *
  rcases Nat.lt_trichotomy a b with h | h | h
  ·have := Nat.mul_le_mul_right p (Nat.succ_le_of_lt h)
   rw [Nat.succ_mul] at this
   exact ⟨fun _ => .inl h, fun _ => by omega⟩
  ·subst h
   exact ⟨fun k => .inr ⟨rfl, by omega⟩, fun k => by rcases k with k | k <;> omega⟩
  ·have := Nat.mul_le_mul_right p (Nat.succ_le_of_lt h)
   rw [Nat.succ_mul] at this
   exact ⟨fun k => by omega, fun k => by rcases k with k | k <;> omega⟩
 | [], _ :: _, hl, _, _ => by simp at hl
 | _ :: _, [], hl, _, _ => by simp at hl
theorem pos_len {B : Nat} {l m : List Nat} (hB : 0 < B) (hl : l.length < m.length) (h1 : ∀ a ∈ l, a < B) (hm : NL m) : pos B l < pos B m := by
 cases m with
 | nil => simp at hl
 | cons b m =>
  have h2 : b ≠ 0 := fun e => hm (by simp [e])
  have := pos_ge (B := B) (l := m) h2
  have k := pos_lt h1
  have : B ^ l.length ≤ B ^ m.length := Nat.pow_le_pow_right hB (by simp at hl; omega)
  omega
theorem pos_order {B : Nat} {l m : List Nat} (hB : 0 < B) (h1 : ∀ a ∈ l, a < B) (h2 : ∀ a ∈ m, a < B) (k1 : NL l) (k2 : NL m) : pos B l < pos B m ↔ l.length < m.length ∨ (l.length = m.length ∧ lexN l m = true) := by
 rcases Nat.lt_trichotomy l.length m.length with h | h | h
 ·exact ⟨fun _ => .inl h, fun _ => pos_len hB h h1 k2⟩
 ·rw [pos_lex h h1 h2]
  exact ⟨fun k => .inr ⟨h, k⟩, fun k => by rcases k with k | k <;> first | omega | exact k.2⟩
 ·have := pos_len hB h h2 k1
  exact ⟨fun k => by omega, fun k => by omega⟩
theorem lexN_eq : ∀ {l m : List Nat}, l.length = m.length → lexN l m = false → lexN m l = false → l = m
 | [], [], _, _, _ => rfl
 | a :: l, b :: m, hl, h1, h2 => by
  simp only [lexN, Bool.or_eq_false_iff, Bool.and_eq_false_iff, decide_eq_false_iff_not] at h1 h2
  obtain rfl : a = b := by omega
  rw [lexN_eq (l := l) (m := m) (by simpa using hl) (by rcases h1.2 with h | h; exact absurd rfl h; exact h) (by rcases h2.2 with h | h; exact absurd rfl h; exact h)]
 | [], _ :: _, hl, _, _ => by simp at hl
 | _ :: _, [], hl, _, _ => by simp at hl
theorem pos_inj {B : Nat} {l m : List Nat} (hB : 0 < B) (h1 : ∀ a ∈ l, a < B) (h2 : ∀ a ∈ m, a < B) (k1 : NL l) (k2 : NL m) (h : pos B l = pos B m) : l = m := by
 have e1 := pos_order hB h1 h2 k1 k2
 have e2 := pos_order hB h2 h1 k2 k1
 have n1 : ¬ (l.length < m.length ∨ (l.length = m.length ∧ lexN l m = true)) := fun h' => by have := e1.2 h'; omega
 have n2 : ¬ (m.length < l.length ∨ (m.length = l.length ∧ lexN m l = true)) := fun h' => by have := e2.2 h'; omega
 have hl : l.length = m.length := by omega
 refine lexN_eq hl ?_ ?_
 ·rw [← Bool.not_eq_true]; exact fun h' => n1 (.inr ⟨hl, h'⟩)
 ·rw [← Bool.not_eq_true]; exact fun h' => n2 (.inr ⟨hl.symm, h'⟩)
def strip (l : List UInt8) : List UInt8 := l.dropWhile (· == 0)
def nat8 (l : List UInt8) : List Nat := l.map UInt8.toNat
theorem nat8_lt (l : List UInt8) : ∀ a ∈ nat8 l, a < 256 := fun a ha => by
 obtain ⟨x, _, rfl⟩ := List.mem_map.1 ha
 exact x.toNat_lt
theorem nat8_inj {l m : List UInt8} (h : nat8 l = nat8 m) : l = m := by
 induction l generalizing m with
 | nil => cases m with
  | nil => rfl
  | cons _ _ => simp [nat8] at h
 | cons a l ih => cases m with
  | nil => simp [nat8] at h
  | cons b m =>
   simp only [nat8, List.map_cons, List.cons.injEq] at h
   rw [UInt8.toNat_inj.1 h.1, ih h.2]
theorem strip_nl (l : List UInt8) : NL (nat8 (strip l)) := by
 unfold strip
 induction l with
 | nil => simp [NL, nat8]
 | cons a l ih =>
  rw [List.dropWhile_cons]
  split
  ·exact ih
  ·rename_i h
   intro e
   simp only [nat8, List.map_cons, List.head?_cons, Option.some.injEq] at e
   apply h
   have : a = 0 := UInt8.toNat_inj.1 (by rw [e]; rfl)
   simp [this]
theorem strip_pos (B : Nat) (l : List UInt8) : pos B (nat8 (strip l)) = pos B (nat8 l) := by
 unfold strip
 induction l with
 | nil => rfl
 | cons a l ih =>
  rw [List.dropWhile_cons]
  split
  ·rename_i h
   have : a = 0 := by simpa using h
   subst this
   rw [ih]
   simp [nat8, pos]
  ·rfl
theorem nl_iff (l : List UInt8) : NL (nat8 l) ↔ l.head? ≠ some 0 := by
 cases l with
 | nil => simp [NL, nat8]
 | cons a l =>
  simp only [NL, nat8, List.map_cons, List.head?_cons, ne_eq, Option.some.injEq]
  constructor
  ·intro h e; apply h; rw [e]; rfl
  ·intro h e; apply h; exact UInt8.toNat_inj.1 (by rw [e]; rfl)
theorem strip_id {l : List UInt8} (h : l.head? ≠ some 0) : strip l = l := by
 cases l with
 | nil => rfl
 | cons a l =>
  unfold strip
  rw [List.dropWhile_cons, if_neg]
  intro e
  apply h
  have : a = 0 := by simpa using e
  rw [this]; rfl
def beN (l : List UInt8) : Nat := pos 256 (nat8 l)
theorem beN_lt (l : List UInt8) : beN l < 256 ^ l.length := by
 have := pos_lt (nat8_lt l)
 rwa [show (nat8 l).length = l.length by simp [nat8]] at this
theorem beN_strip (l : List UInt8) : beN (strip l) = beN l := strip_pos 256 l
theorem beN_inj {l m : List UInt8} (k1 : l.head? ≠ some 0) (k2 : m.head? ≠ some 0) (h : beN l = beN m) : l = m :=
 nat8_inj (pos_inj (by decide) (nat8_lt l) (nat8_lt m) ((nl_iff l).2 k1) ((nl_iff m).2 k2) h)
theorem strip_head (l : List UInt8) : (strip l).head? ≠ some 0 := (nl_iff _).1 (strip_nl l)
end Ps
open Go.RowKit
namespace Rf
open Rg (noCall noCall_spec np wp_monoQ wpOp_monoQ Closed Closed.step waits waitsB waits_listed nth pick freeW chkS chkT chk planSize nth_of)
structure Ext (F : Nat → Prop) (w w' : World) : Prop where
 size : w.heap.size ≤ w'.heap.size
 block : ∀ k, k < w.heap.size → F k → w'.heap[k]? = w.heap[k]?
theorem Ext.refl {F : Nat → Prop} (w : World) : Ext F w w := ⟨Nat.le_refl _, fun _ _ _ => rfl⟩
theorem Ext.trans {F : Nat → Prop} {a b c : World} (h : Ext F a b) (k : Ext F b c) : Ext F a c := ⟨Nat.le_trans h.size k.size, fun i hi hF => (k.block i (Nat.lt_of_lt_of_le hi h.size) hF).trans (h.block i hi hF)⟩
theorem Ext.of {F : Nat → Prop} {w w' : World} (h : Rg.Ext w w') : Ext F w w' := ⟨h.size, fun k hk _ => h.block k hk⟩
theorem Ext.setCell {F : Nat → Prop} (w : World) (p : Addr) (u : Value) (h : ¬ F p.block) : Ext F w (w.setCell p u) :=
 ⟨by simp, fun k _ hF => Below.heap_setCell w p u k (fun e => h (e ▸ hF))⟩
theorem Ext.setRow {F : Nat → Prop} (w : World) (g : Nat) (cs : Array Value) (h : ¬ F g) : Ext F w (w.setRow g cs) :=
 ⟨by simp, fun k _ hF => setRow_other w g k cs (fun e => h (e ▸ hF))⟩
structure Lt (F : Nat → Prop) (w : World) where
 v : World
 ext : Ext F w v
instance (F : Nat → Prop) (w : World) : Nonempty (Lt F w) := ⟨⟨w, Ext.refl w⟩⟩
def Cls (F : Nat → Prop) (w : World) (w' : World) : Prop := ∃ x : Lt F w, w' = x.v
theorem Cls.mk {F : Nat → Prop} {w w' : World} (h : Ext F w w') : Cls F w w' := ⟨⟨w', h⟩, rfl⟩
@[go_sem] theorem cls_iff (F : Nat → Prop) (w w' : World) : Cls F w w' ↔ ∃ x : Lt F w, w' = x.v := Iff.rfl
theorem Ext.cell {F : Nat → Prop} {w w' : World} (h : Ext F w w') {a : Addr} {v : Value} (hc : w.cell? a = some v) (hF : F a.block) : w'.cell? a = some v := by
 rw [World.cell?_of_block (w := w) (h.block a.block (World.block_lt_of_cell? w a hc) hF)]; exact hc
theorem later {F : Nat → Prop} {w : World} {a : Addr} {v : Value} (hc : w.cell? a = some v) (hF : F a.block) : ∀ x : Lt F w, x.v.cell? a = some v := fun x => x.ext.cell hc hF
section
variable {F : Nat → Prop} {P : Program} {ops : Array Oper} {Q : Exit → Act → World → Prop} {md : Region.Mode}
def Yld (F : Nat → Prop) (P : Program) (ops : Array Oper) (w : World) (o : Oper) (v : Value) (a : Act) : Prop :=
 (Region.wanted o (yielded ops a.tmps) = true ∧ ∀ w', Ext F w w' → (execOp a.eval o).run P w' = .ok (.value v) w' ∨ ((execOp a.eval o).run P w' = .ok .skip w' ∧ v = undef)) ∨
 (Region.wanted o (yielded ops a.tmps) = false ∧ v = undef)
theorem Yld.later {w w1 : World} {o : Oper} {v : Value} {a : Act} (h : Yld F P ops w o v a) (he : Ext F w w1) : Yld F P ops w1 o v a := by
 rcases h with ⟨hw, h⟩ | h
 ·exact .inl ⟨hw, fun w' hw' => h w' (he.trans hw')⟩
 ·exact .inr h
theorem Yld.of_same {w : World} {o : Oper} {v : Value} {a a' : Act} (hy : Yld F P ops w o v a) (he : execOp a'.eval o = execOp a.eval o)
  (hw : Region.wanted o (yielded ops a'.tmps) = Region.wanted o (yielded ops a.tmps)) : Yld F P ops w o v a' := by
 unfold Yld at *
 rw [he, hw]
 exact hy
theorem Yld.wpOp {w : World} {i : Nat} {o : Oper} {v : Value} {a : Act} (hi : ops[i]? = some o) (hy : Yld F P ops w o v a) {K : Act → World → Prop} (h : K (a.put o.dst v) w) : wpOp P ops Q i K a w := by
 unfold Go.wpOp
 simp only [hi]
 rcases hy with ⟨hw, hv⟩ | ⟨hw, rfl⟩
 ·rw [if_pos hw]
  refine .inl ?_
  unfold Oper.wp
  rcases hv w (Ext.refl w) with hx | ⟨hx, rfl⟩
  ·rw [hx]; exact h
  ·rw [hx]; exact h
 ·simp only [hw, Bool.false_eq_true, if_false]; exact h
theorem yld_of_quiet {w : World} {o : Oper} {a : Act} {K : Act → Prop} (hn : noCall o.op = true)
  (h : if Region.wanted o (yielded ops a.tmps) then o.quiet P a (Cls F w) K else K (a.put o.dst undef)) : ∃ v, Yld F P ops w o v a ∧ K (a.put o.dst v) := by
 by_cases hw : Region.wanted o (yielded ops a.tmps) = true
 ·simp only [hw, if_true] at h
  obtain ⟨v, h1, h2⟩ := h
  refine ⟨v, .inl ⟨hw, fun w' hw' => ?_⟩, h2⟩
  have h3 := h1 w' (Cls.mk hw')
  unfold Oper.quietAt at h3
  have hne := fun f args w'' => noCall_spec (P := P) hn a.eval w' f args w''
  generalize (execOp a.eval o).run P w' = r at *
  cases r with
  | halt x w'' => simp only [Oper.quietUpon] at h3
  | ok n w'' =>
   cases n <;> simp only [Oper.quietUpon] at h3
   case value u => obtain ⟨rfl, rfl⟩ := h3; exact .inl rfl
   case skip => obtain ⟨rfl, rfl⟩ := h3; exact .inr ⟨rfl, rfl⟩
   case enter f args => exact absurd rfl (hne f args w'')
 ·simp only [hw] at h
  exact ⟨undef, .inr ⟨by simpa using hw, rfl⟩, h⟩
def anyE (F : Nat → Prop) (P : Program) (md : Region.Mode) (ops : Array Oper) (Q : Exit → Act → World → Prop) (tl : List Nat) (wb : World) : Nat → Array Bool → Act → World → Prop
 | 0, listed, a, w => Region.ready md ops listed = [] ∧ Q .normal a w
 | fuel + 1, listed, a, w =>
  (Region.ready md ops listed = [] → Q .normal a w) ∧
  ∀ i ∈ Region.ready md ops listed, wpOp P ops (if tl.contains i then Q else np Q) i (fun a' w' => (tl.contains i = false → Ext F wb w') ∧ anyE F P md ops Q tl wb fuel (listed.setIfInBounds i true) a' w') a w
theorem anyE_any {tl : List Nat} {wb : World} : ∀ (fuel : Nat) (listed : Array Bool) (a : Act) (w : World), anyE F P md ops Q tl wb fuel listed a w → wpAny P md ops Q fuel listed a w
 | 0, _, _, _, h => h
 | fuel + 1, _, _, _, h => ⟨h.1, fun i hi => wpOp_monoQ (fun c a w hq => by split at hq; exact hq; exact hq.2) (fun a w hq => by split at hq; exact hq; exact hq.2) (wpOp_mono (fun a' w' h' => anyE_any fuel _ a' w' h'.2) (h.2 i hi))⟩
theorem anyE_base {tl : List Nat} {wb wb' : World} (he : Ext F wb wb') : ∀ (fuel : Nat) (listed : Array Bool) (a : Act) (w : World), anyE F P md ops Q tl wb' fuel listed a w → anyE F P md ops Q tl wb fuel listed a w
 | 0, _, _, _, h => h
 | fuel + 1, _, _, _, h => ⟨h.1, fun i hi => wpOp_mono (fun a' w' h' => ⟨fun ht => he.trans (h'.1 ht), anyE_base he fuel _ a' w' h'.2⟩) (h.2 i hi)⟩
theorem anyE_first {tl : List Nat} {wb : World} {i : Nat} {oi : Oper} {v : Value} {W : Array Nat} (hW : waitsB md ops W = true) (hi : ops[i]? = some oi)
    (hsel : ∀ (j : Nat) (o : Oper) cs b, ops[j]? = some o → o.op ≠ .select cs b) :
    ∀ (fuel : Nat) (listed : Array Bool) (a : Act) (w : World), Closed md ops listed → Ext F wb w →
      (∀ j oj, ops[j]? = some oj → j ≠ i → listed.getD j true = false → waits W j i = true ∨ (oi.apart ops oj = true ∧ tl.contains j = false)) →
      i ∈ Region.ready md ops listed → Yld F P ops wb oi v a →
      anyE F P md ops Q tl wb fuel (listed.setIfInBounds i true) (a.put oi.dst v) w → anyE F P md ops Q tl wb (fuel + 1) listed a w := by
  intro fuel
  induction fuel with
  | zero =>
    intro listed a w hc hwb hfree hr hy H
    refine ⟨fun h => (by rw [h] at hr; cases hr), fun j hj => ?_⟩
    by_cases hji : j = i
    · subst hji; exact (hy.later hwb).wpOp hi ⟨fun _ => hwb, H⟩
    · have := ready_mono hj hji
      rw [H.1] at this
      cases this
  | succ fuel ih =>
    intro listed a w hc hwb hfree hr hy H
    refine ⟨fun h => (by rw [h] at hr; cases hr), fun j hj => ?_⟩
    by_cases hji : j = i
    · subst hji; exact (hy.later hwb).wpOp hi ⟨fun _ => hwb, H⟩
    · have h1 := H.2 j (ready_mono hj hji)
      obtain ⟨hjun, oj, hoj, hall⟩ := mem_ready.1 hj
      have hilt : i < ops.size := (Array.getElem?_eq_some_iff.1 hi).1
      have hiun : listed.getD i false = false := by
        have h0 := (mem_ready.1 hr).1
        rcases Nat.lt_or_ge i listed.size with h' | h'
        · simpa [h'] using h0
        · simp [Array.getElem?_eq_none h']
      have hap : oi.apart ops oj = true ∧ tl.contains j = false := by
        rcases hfree j oj hoj hji hjun with hw | h
        · have := waits_listed hW hc hilt j j oj (Nat.le_refl _) hoj hall hw
          rw [hiun] at this
          cases this
        · exact h
      obtain ⟨p1, p2, p3⟩ := Oper.apart_spec hap.1
      have hsi := fun cs b => hsel i oi cs b hi
      have hsj := fun cs b => hsel j oj cs b hoj
      have keep : ∀ (a : Act), Yld F P ops wb oi v a → ∀ u, Yld F P ops wb oi v (a.put oj.dst u) := fun a hy u =>
        hy.of_same (execOp_put oi hsi a oj.dst u p3) (wanted_put oi a oj.dst u p3)
      have keepD : ∀ d, Yld F P ops wb oi v { a with defers := d :: a.defers } := fun d => hy.of_same rfl rfl
      have hfree' : ∀ k ok, ops[k]? = some ok → k ≠ i → (listed.setIfInBounds j true).getD k true = false → waits W k i = true ∨ (oi.apart ops ok = true ∧ tl.contains k = false) := fun k ok hk hki hun => by
        refine hfree k ok hk hki ?_
        by_cases hjk : j = k
        · subst hjk; exact hjun
        · rw [getD_set_ne true hjk] at hun; exact hun
      have fin : ∀ (a' : Act) (w' : World), Yld F P ops wb oi v a' → Ext F wb w' → anyE F P md ops Q tl wb fuel ((listed.setIfInBounds i true).setIfInBounds j true) (a'.put oi.dst v) w' →
          (True → Ext F wb w') ∧ anyE F P md ops Q tl wb (fuel + 1) (listed.setIfInBounds j true) a' w' := fun a' w' hy' he' h' =>
        ⟨fun _ => he', ih _ a' w' (hc.step hj) he' hfree' (ready_mono hr (Ne.symm hji)) hy' (by rw [Array.setIfInBounds_comm _ _ hji]; exact h')⟩
      rw [hap.2] at h1 ⊢
      simp only [Bool.false_eq_true, if_false] at h1 ⊢
      unfold wpOp at *
      simp only [hoj] at *
      rw [wanted_put oj a oi.dst v p1] at h1
      split
      · rename_i hw
        simp only [hw, if_true] at h1
        rcases h1 with h1 | ⟨hasks, hlets⟩
        case inr => exact .inr ⟨by unfold Oper.asks at *; rw [execOp_put oj hsj a oi.dst v p1] at hasks; exact hasks, hlets⟩
        refine .inl ?_
        unfold Oper.wp at *
        rw [execOp_put oj hsj a oi.dst v p1] at h1
        generalize (execOp a.eval oj).run P w = r at *
        cases r with
        | ok n w' =>
          cases n <;> simp only [Oper.upon] at h1 ⊢
          case value u => exact fin _ _ (keep a hy u) (h1.1 trivial) (by rw [← Act.put_comm a v u p2]; exact h1.2)
          case skip => exact fin _ _ (keep a hy _) (h1.1 trivial) (by rw [← Act.put_comm a v undef p2]; exact h1.2)
          case defer d =>
            refine fin _ _ (keep _ (keepD d) _) (h1.1 trivial) ?_
            rw [← Act.put_comm _ v undef p2, ← Act.put_defers]
            exact h1.2
          case enter f args =>
            refine Calls.mono h1 fun e w'' he => ?_
            cases e with
            | returned u => exact fin _ _ (keep a hy u) (he.1 trivial) (by rw [← Act.put_comm a v u p2]; exact he.2)
            | panicked c => exact absurd rfl (he.1 c)
            | outgrown => exact he
          case row row args => exact Rows.mono h1 fun u w'' he => fin _ _ (keep a hy u) (he.1 trivial) (by rw [← Act.put_comm a v u p2]; exact he.2)
        | halt x w' =>
          cases x <;> simp only [Oper.upon] at h1 ⊢
          case panic u => exact absurd rfl (h1.1 _)
      · rename_i hw
        simp only [hw] at h1
        exact fin _ _ (keep a hy _) (h1.1 trivial) (by rw [← Act.put_comm a v undef p2]; exact h1.2)
def walk (F : Nat → Prop) (P : Program) (ops : Array Oper) (Q : Exit → Act → World → Prop) (tail : List Oper) : List (List Oper × Oper) → List Oper → World → Act → Prop
 | [], last, w, a => wpQuiet P ops (Cls F w) (fun a' => wpList P ops Q tail a' w) last a
 | (S, oc) :: t, last, w, a => wpQuiet P ops (Cls F w) (fun a' => wpList P ops (Exit.then (fun a'' w'' => Ext F w w'' ∧ walk F P ops Q tail t last w'' a'') (fun _ _ _ => False)) [oc] a' w) S a
theorem tail_sound {tl : List Nat} {wb : World} : ∀ (l : List Nat) (listed : Array Bool) (a : Act) (w : World), chkT md ops tl l listed = true → wpList P ops Q (pick ops.toList l) a w →
  anyE F P md ops Q tl wb l.length listed a w
 | [], listed, a, w, hc, h => ⟨by simpa [chkT] using hc, by simpa [pick, wpList] using h⟩
 | i :: l, listed, a, w, hc, h => by
  simp only [chkT, Bool.and_eq_true, beq_iff_eq] at hc
  obtain ⟨⟨hr, ht⟩, hc⟩ := hc
  refine ⟨fun h0 => (by rw [h0] at hr; cases hr), fun j hj => ?_⟩
  rw [hr] at hj
  obtain rfl : j = i := by simpa using hj
  have hmem : j ∈ Region.ready md ops listed := by rw [hr]; simp
  obtain ⟨_, o, ho, _⟩ := mem_ready.1 hmem
  have hn : nth ops.toList j = o := nth_of (by simpa using ho)
  simp only [pick, hn, wpList] at h
  rw [if_pos ht]
  unfold wpOp
  simp only [ho]
  have fin : ∀ a' w', wpList P ops Q (pick ops.toList l) a' w' → (tl.contains j = false → Ext F wb w') ∧ anyE F P md ops Q tl wb l.length (listed.setIfInBounds j true) a' w' :=
   fun a' w' h' => ⟨fun hf => (by rw [ht] at hf; cases hf), tail_sound l _ a' w' hc h'⟩
  split
  ·rename_i hw
   rw [if_pos hw] at h
   rcases h with h | h
   ·exact .inl (Oper.wp_mono fin h)
   ·exact .inr h
  ·rename_i hw
   rw [if_neg hw] at h
   exact fin _ _ h
theorem seg_sound {tl : List Nat} {W : Array Nat} {wb : World} (hW : waitsB md ops W = true) (hs : Region.noSelect ops = true) {k : Array Bool → Bool} {n : Nat} {K : Act → Prop}
  (hk : ∀ (listed : Array Bool) (a : Act), Closed md ops listed → k listed = true → K a → anyE F P md ops Q tl wb n listed a wb) :
  ∀ (l : List Nat) (listed : Array Bool) (a : Act), Closed md ops listed → chkS md ops W tl l listed k = true → wpQuiet P ops (Cls F wb) K (pick ops.toList l) a →
   anyE F P md ops Q tl wb (l.length + n) listed a wb
 | [], listed, a, hcl, hc, h => by simpa using hk listed a hcl (by simpa [chkS] using hc) (by simpa [pick, wpQuiet] using h)
 | i :: l, listed, a, hcl, hc, h => by
  simp only [chkS, Bool.and_eq_true] at hc
  obtain ⟨⟨hr, hf⟩, hc⟩ := hc
  have hmem : i ∈ Region.ready md ops listed := by simpa using hr
  obtain ⟨_, o, ho, _⟩ := mem_ready.1 hmem
  have hn : nth ops.toList i = o := nth_of (by simpa using ho)
  simp only [freeW, ho, Bool.and_eq_true, List.all_eq_true, List.mem_range] at hf
  obtain ⟨⟨hnc, htl⟩, hall⟩ := hf
  simp only [pick, hn, wpQuiet] at h
  obtain ⟨v, hy, h'⟩ := yld_of_quiet hnc h
  have := seg_sound hW hs hk l _ _ (hcl.step hmem) hc h'
  rw [List.length_cons, Nat.add_right_comm]
  refine anyE_first hW ho (Region.noSelect_spec hs) _ listed a wb hcl (Ext.refl _) (fun j oj hj hne hun => ?_) hmem hy this
  have h2 := hall j (Array.getElem?_eq_some_iff.1 hj).1
  simp only [hj, Bool.or_eq_true, beq_iff_eq, hne, hun, Bool.false_eq_true, false_or, Bool.and_eq_true, Bool.not_eq_true'] at h2
  exact h2
theorem walk_sound {tl : List Nat} {W : Array Nat} (hW : waitsB md ops W = true) (hs : Region.noSelect ops = true) : ∀ (pl : List (List Nat × Nat)) (last : List Nat) (listed : Array Bool) (a : Act) (w : World),
    Closed md ops listed → chk md ops W tl pl last listed = true → walk F P ops Q (pick ops.toList tl) (pl.map fun x => (pick ops.toList x.1, nth ops.toList x.2)) (pick ops.toList last) w a →
    anyE F P md ops Q tl w (planSize pl last tl) listed a w
  | [], last, listed, a, w, hcl, hc, h => by
    have := seg_sound (P := P) (Q := Q) hW hs (k := chkT md ops tl tl) (n := tl.length) (K := fun a' => wpList P ops Q (pick ops.toList tl) a' w) (wb := w)
      (fun l a' _ hk h' => tail_sound tl l a' w hk h') last listed a hcl (by simpa [chk] using hc) (by simpa [walk] using h)
    simpa [planSize] using this
  | (S, i) :: t, last, listed, a, w, hcl, hc, h => by
    have := seg_sound (P := P) (Q := Q) hW hs (wb := w) (n := planSize t last tl + 1) (tl := tl)
      (k := fun l' => Region.ready md ops l' == [i] && !tl.contains i && chk md ops W tl t last (l'.setIfInBounds i true))
      (K := fun a' => wpList P ops (Exit.then (fun a'' w'' => Ext F w w'' ∧ walk F P ops Q (pick ops.toList tl) (t.map fun x => (pick ops.toList x.1, nth ops.toList x.2)) (pick ops.toList last) w'' a'') (fun _ _ _ => False)) [nth ops.toList i] a' w)
      (fun l a' hcl' hk h' => by
        simp only [Bool.and_eq_true, beq_iff_eq, Bool.not_eq_true'] at hk
        obtain ⟨⟨hr, ht⟩, hc'⟩ := hk
        refine ⟨fun h0 => (by rw [h0] at hr; cases hr), fun j hj => ?_⟩
        rw [hr] at hj
        obtain rfl : j = i := by simpa using hj
        have hmem : j ∈ Region.ready md ops l := by rw [hr]; simp
        obtain ⟨_, o, ho, _⟩ := mem_ready.1 hmem
        have hn : nth ops.toList j = o := nth_of (by simpa using ho)
        rw [ht]
        simp only [Bool.false_eq_true, if_false]
        simp only [hn, wpList, Exit.then] at h'
        have fin : ∀ a'' w'', (Ext F w w'' ∧ walk F P ops Q (pick ops.toList tl) (t.map fun x => (pick ops.toList x.1, nth ops.toList x.2)) (pick ops.toList last) w'' a'') →
            (True → Ext F w w'') ∧ anyE F P md ops Q tl w (planSize t last tl) (l.setIfInBounds j true) a'' w'' := fun a'' w'' hh =>
          ⟨fun _ => hh.1, anyE_base hh.1 _ _ _ _ (walk_sound hW hs t last _ a'' w'' (hcl'.step hmem) hc' hh.2)⟩
        unfold wpOp
        simp only [ho]
        split
        · rename_i hw
          rw [if_pos hw] at h'
          rcases h' with h' | ⟨_, a0, w0, hq⟩
          · refine .inl (wp_monoQ (Q' := Exit.then (fun a'' w'' => Ext F w w'' ∧ walk F P ops Q (pick ops.toList tl) (t.map fun x => (pick ops.toList x.1, nth ops.toList x.2)) (pick ops.toList last) w'' a'') (fun _ _ _ => False)) (fun c a1 w1 hq => hq.elim) (fun a1 w1 hq => hq.elim) (Oper.wp_mono fin h'))
          · exact hq.elim
        · rename_i hw
          rw [if_neg hw] at h'
          exact fin _ _ h') S listed a hcl (by simpa [chk] using hc) (by simpa [walk] using h)
    have e : planSize ((S, i) :: t) last tl = S.length + (planSize t last tl + 1) := by simp [planSize]; omega
    rw [e]
    exact this
theorem region (F : Nat → Prop) {id : Nat} {l : List Oper} {a : Act} {w : World} (pl : List (List Nat × Nat)) (last tl : List Nat) (hm : P.follows .mixedOrders = true)
  (hB : (waitsB .any l.toArray (Region.before l.toArray) && Region.noSelect l.toArray && chk .any l.toArray (Region.before l.toArray) tl pl last (Array.replicate l.length false) && planSize pl last tl == l.length) = true)
  (h : ∀ w', Rg.Ext w w' → walk F P l.toArray Q (pick l tl) (pl.map fun x => (pick l x.1, nth l x.2)) (pick l last) w' a) : (Code.region id l.toArray true).wp P Q a w := by
 simp only [Bool.and_eq_true, beq_iff_eq] at hB
 obtain ⟨⟨⟨hW, hs⟩, hc⟩, hsz⟩ := hB
 refine wp_region_any hm (anyE_any (F := F) (tl := tl) (wb := { w with drawn := w.drawn + 1 }) _ _ _ _ ?_)
 have := walk_sound (F := F) (P := P) (Q := Q) (md := .any) (ops := l.toArray) (tl := tl) hW hs pl last (Array.replicate l.length false) a { w with drawn := w.drawn + 1 } (by
  intro j o _ hl
  exfalso
  simp [Array.getElem?_replicate] at hl
  split at hl <;> simp_all) (by simpa using hc) (by simpa using h _ (Below.drew (Below.refl _ w)))
 rw [hsz] at this
 simpa using this
end
end Rf
open Go.RowKit Rp Rg Ops Mm Ar Wm
namespace Wd
theorem aggW : Agg Tryz.prog 36 4 := ⟨⟨.array 4 23, by kernel_rfl, rfl⟩, by kernel_rfl⟩
theorem Add64 (x y c : Nat) (hc : c ≤ 1) (w : World) : (callFunc 70 #[.int .u64 (x : Int), .int .u64 (y : Int), .int .u64 (c : Int)]).run Tryz.prog w =
  .ok (.value (.tuple #[.int .u64 (((x + y + c) % m64 : Nat) : Int), .int .u64 (((x + y + c) / m64 : Nat) : Int)])) w := by
 rw [run_callFunc_extern (e := add64Entry) Tryz.func70 (by kernel_rfl) (by kernel_rfl) (by kernel_rfl) (by kernel_rfl)]
 rw [run_add64 _ _ _ (by omega) (by omega) (by omega) (by omega)]
 simp [Result.andThen, m64]
theorem grow_at {α : Type} (V : α → Value) (f : Nat → α) (z : α) (k i : Nat) : V (if i < k + 1 then f i else z) = if i = k then V (f k) else V (if i < k then f i else z) := by
 by_cases h : i = k
 ·subst h; simp
 ·rw [if_neg h]
  by_cases h2 : i < k
  ·rw [if_pos h2, if_pos (Nat.lt_succ_of_lt h2)]
  ·rw [if_neg h2, if_neg (by omega)]
theorem word_small (n : Nat) (h0 : n < m64) : wordA n = #[.int .u64 (n : Int), .int .u64 0, .int .u64 0, .int .u64 0] := by
 simp only [wordA, arr, List.range_succ_eq_map, List.range_zero, List.map_cons, List.map_nil, u64V]
 have e0 : limb n 0 = n := by simp [limb, Nat.mod_eq_of_lt h0]
 have e : ∀ k, limb n (k + 1) = 0 := fun k => by
  unfold limb
  rw [Nat.div_eq_of_lt (Nat.lt_of_lt_of_le h0 (by rw [Nat.pow_succ]; exact Nat.le_mul_of_pos_left _ (pow_pos' k)))]
  simp
 simp [e0, e]
theorem IntW (n : Nat) (hn : n < m64) (w : World) : Calls Tryz.prog 29 #[.int .u64 (n : Int)] w fun e w' => e = .returned (.agg (wordA n)) ∧ Ext w w' := by
 have hz := word_small n hn
 have HZ := Lib.hid hz
 clear hz
 have s1 := (St.start w).alloc (arr 4 fun _ => .int .u64 0) 36
 have s2 := s1.setRow 0 rfl #[.int .u64 (n : Int), .int .u64 0, .int .u64 0, .int .u64 0]
 go_enter Tryz.func29, Tryz.ntmps29
 go_wp2_with (refine stAll aggW (vs := #[.int .u64 (n : Int), .int .u64 0, .int .u64 0, .int .u64 0]) rfl _ _ rfl (by rfl) (by rfl) (s1.at 0 rfl) (by rfl) (by rfl) (by simp [Value.oneCell']) ?_)
 go_wp2
 refine bodyPost_ret (v := .agg _) (ret_cell aggW rfl rfl (s2.at 0 rfl) rfl) rfl ⟨by rw [HZ.out], s2.below⟩
theorem sum (x y : Nat) (w : World) : Calls Tryz.prog 49 #[.agg (wordA x), .agg (wordA y)] w fun e w' => e = .returned (.tuple #[.agg (wordA (x + y)), .int .u64 (carry x y 4 : Int)]) ∧ Ext w w' := by
  have hadd := fun k => Add64 (limb x k) (limb y k) (carry x y k) (carry_le x y k)
  simp only [sum_limb, sum_carry] at hadd
  go_enter Tryz.func49, Tryz.ntmps49
  go_wp2
  have s1 := (((St.start w).alloc (wordA x) 36).alloc' (wordA y) 36 (w.heap.size + 1) (by simp)).alloc' (arr 4 fun _ => u64V 0) 36 (w.heap.size + 1 + 1) (by simp)
  go_loopw [5, 7] (fun c i wr => ∃ k : Nat, k ≤ 4 ∧ i = .int .i64 k ∧ c = .int .u64 (carry x y k : Int) ∧
      St w wr [(w.heap.size + 1 + 1, 36, arr 4 fun i => u64V (if i < k then limb (x + y) i else 0)), (w.heap.size + 1, 36, wordA y), (w.heap.size, 36, wordA x)]) (fun _ i _ => 4 - (intOf i).toNat)
  case atStart => exact ⟨0, by omega, rfl, by rw [carry_zero]; rfl, s1⟩
  case round =>
    obtain ⟨k, hk, rfl, rfl, st⟩ := hrel
    by_cases hlt : k < 4
    · have a1 := st.cell 2 rfl k (wordA_get x k hlt)
      have a2 := st.cell 1 rfl k (wordA_get y k hlt)
      go_wp2
      refine Rf.region (· ≠ w.heap.size + 1 + 1) [([0, 1, 2, 3, 4, 5, 6, 7], 8), ([9, 10, 11, 12], 13)] [14] [] (by kernel_rfl) (by kernel_rfl) fun w' hw' => ?_
      have st' := st.ext hw'
      have b1 := Rf.later (F := (· ≠ w.heap.size + 1 + 1)) (st'.cell 2 rfl k (wordA_get x k hlt)) (by simp; omega)
      have b2 := Rf.later (F := (· ≠ w.heap.size + 1 + 1)) (st'.cell 1 rfl k (wordA_get y k hlt)) (by simp)
      have c3 := st'.cell 0 rfl k (arr_get 4 _ k hlt)
      have f3 := st'.frozen 0 rfl k
      have hc := hadd k
      simp only [Rf.walk, Rg.pick, Rg.nth, List.map_cons, List.map_nil]
      repeat (go_big_quiet_step (fail))
      refine wpQuiet_nil ?_
      go_wp2
      refine ⟨Rf.Ext.refl _, ?_⟩
      repeat (go_big_quiet_step (fail))
      refine wpQuiet_nil ?_
      go_wp2
      refine ⟨Rf.Ext.setCell _ _ _ (by simp), ?_⟩
      repeat (go_big_quiet_step (fail))
      refine wpQuiet_nil ?_
      go_wp2
      go_roundw
      case rel =>
        refine ⟨k + 1, by omega, by simp, rfl, ?_⟩
        exact st'.setFn 0 rfl k _ (fun i hi => grow_at (u64V) (limb (x + y)) 0 k i) rfl
      case measure => simp [intOf]; omega
    · obtain rfl : k = 4 := by omega
      have e : (arr 4 fun i => u64V (if i < 4 then limb (x + y) i else 0)) = wordA (x + y) := arr_ext fun i hi => by rw [if_pos hi]
      rw [e] at st
      have s2 := st.setRow 0 rfl (wordA (x + y))
      go_wp2_with (first
        | refine ldAll aggW rfl _ rfl (by rfl) (st.at 0 rfl) (by rfl) ?_
        | refine stAll aggW (vs := wordA (x + y)) rfl _ _ rfl (by rfl) (by rfl) (st.at 0 rfl) (by rfl) (by rfl) (wordA_mem _) ?_)
      go_wp2
      refine bodyPost_ret (v := .tuple #[.agg (wordA (x + y)), .int .u64 (carry x y 4 : Int)]) (ret_two rfl (slot_cell aggW rfl (s2.at 0 rfl) (by rfl)) (slot_tmp rfl)) rfl ⟨rfl, s2.below⟩
def sub64Entry : Array Value → Sem Value := fun args => do
 let (x, y, b) ← Extern.MathBitsCarry.three "Sub64" args
 pure (Extern.MathBitsCarry.pair ((x + Extern.MathBitsCarry.m64 - y - b) % Extern.MathBitsCarry.m64) (if x < y + b then 1 else 0))
theorem run_sub64 {P : Program} (x y c : Nat) (hc : c ≤ 1) (w : World) : (sub64Entry #[.int .u64 x, .int .u64 y, .int .u64 c]).run P w =
  .ok (.tuple #[.int .u64 ((x + m64 - y - c) % m64 : Nat), .int .u64 ((if x < y + c then 1 else 0 : Nat) : Int)]) w := by
 have : c = 0 ∨ c = 1 := by omega
 rcases this with rfl | rfl <;> rfl
theorem Sub64 (x y c : Nat) (hc : c ≤ 1) (w : World) : (callFunc 51 #[.int .u64 (x : Int), .int .u64 (y : Int), .int .u64 (c : Int)]).run Tryz.prog w =
  .ok (.value (.tuple #[.int .u64 (((x + m64 - y - c) % m64 : Nat) : Int), .int .u64 ((if x < y + c then 1 else 0 : Nat) : Int)])) w := by
 rw [run_callFunc_extern (e := sub64Entry) Tryz.func51 (by kernel_rfl) (by kernel_rfl) (by kernel_rfl) (by kernel_rfl)]
 rw [run_sub64 _ _ _ hc]
 simp [Result.andThen]
set_option maxHeartbeats 1000000 in
theorem Mul64 (x y : Nat) (hx : x < m64) (hy : y < m64) (w : World) :
  Calls Tryz.prog 59 #[.int .u64 x, .int .u64 y] w fun e w' => e = .returned (.tuple #[.int .u64 ((x * y / m64 : Nat) : Int), .int .u64 ((x * y % m64 : Nat) : Int)]) ∧ w' = w := by
 unfold m64 at *
 obtain ⟨bd, bt, bw, hhi⟩ := Lib.mul64_hi x y hx hy
 have ba := Lib.half_mul_le (a := x / 4294967296) (b := y / 4294967296) (by omega) (by omega)
 have bb := Lib.half_mul_le (a := x / 4294967296) (b := y % 4294967296) (by omega) (by omega)
 have bc := Lib.half_mul_le (a := x % 4294967296) (b := y / 4294967296) (by omega) (by omega)
 have ba' : x / 4294967296 * (y / 4294967296) < 18446744073709551616 := by omega
 have bb' : x / 4294967296 * (y % 4294967296) < 18446744073709551616 := by omega
 have bc' : x % 4294967296 * (y / 4294967296) < 18446744073709551616 := by omega
 have bh1 : x / 4294967296 * (y / 4294967296) + (x / 4294967296 * (y % 4294967296) + x % 4294967296 * (y % 4294967296) / 4294967296) / 4294967296 < 18446744073709551616 := by omega
 have bh : x / 4294967296 * (y / 4294967296) + (x / 4294967296 * (y % 4294967296) + x % 4294967296 * (y % 4294967296) / 4294967296) / 4294967296 + ((x / 4294967296 * (y % 4294967296) + x % 4294967296 * (y % 4294967296) / 4294967296) % 4294967296 + x % 4294967296 * (y / 4294967296)) / 4294967296 < 18446744073709551616 := by omega
 go_enter Tryz.func59, Tryz.ntmps59
 go_wp2
 simp only [Mul64.maskN x hx, Mul64.maskN y hy, Mul64.divN, Mul64.mulN, Mul64.addN, Mul64.wrapN _ bd, Mul64.wrapN _ bb', Mul64.wrapN _ bt, Mul64.maskN _ bt, Mul64.wrapN _ bc', Mul64.wrapN _ bw, Mul64.wrapN _ ba', Mul64.wrapN _ bh1, Mul64.wrapN _ bh, Mul64.wrapM (x * y)]
 rw [hhi]
 go_ret2
 exact ⟨rfl, rfl⟩
end Wd
open Go.RowKit Rp Rg Ops Mm Ar Wm
namespace Wd
theorem Add (x y : Nat) (w : World) : Calls Tryz.prog 30 #[.agg (wordA x), .agg (wordA y)] w fun e w' => e = .returned (.agg (wordA (x + y))) ∧ Ext w w' := by
  go_enter Tryz.func30, Tryz.ntmps30
  have s1 := (((St.start w).alloc (wordA x) 36).alloc' (wordA y) 36 (w.heap.size + 1) (by simp)).alloc' (arr 4 fun _ => u64V 0) 36 (w.heap.size + 1 + 1) (by simp)
  go_wp2_with (first
    | refine ldAll aggW rfl _ rfl (by rfl) (s1.at 2 rfl) (by rfl) ?_
    | refine ldAll aggW rfl _ rfl (by rfl) (s1.at 1 rfl) (by rfl) ?_
    | (go_at_call 49
       refine (sum x y _).mono ?_
       rintro e w1 ⟨rfl, hw1⟩
       have s2 := (s1.ext hw1).alloc (arr 4 fun _ => .int .u64 0) 36
       have s3 := s2.setRow 0 rfl (wordA (x + y))
       have s4 := s3.setRow 1 rfl (wordA (x + y)))
    | refine stAll aggW (vs := wordA (x + y)) rfl _ _ rfl (by rfl) (by rfl) (s2.at 0 rfl) (by rfl) (by rfl) (wordA_mem _) ?_
    | refine ldAll aggW rfl _ rfl (by rfl) (s3.at 0 rfl) (by rfl) ?_
    | refine stAll aggW (vs := wordA (x + y)) rfl _ _ rfl (by rfl) (by rfl) (s3.at 1 rfl) (by rfl) (by rfl) (wordA_mem _) ?_)
  go_wp2
  refine bodyPost_ret (v := .agg _) (ret_cell aggW rfl rfl (s4.at 1 rfl) rfl) rfl ⟨rfl, s4.below⟩
theorem Sub (x y : Nat) (w : World) : Calls Tryz.prog 32 #[.agg (wordA x), .agg (wordA y)] w fun e w' => e = .returned (.agg (wordA (dif x y))) ∧ Ext w w' := by
  go_enter Tryz.func32, Tryz.ntmps32
  go_wp2
  have s1 := ((((St.start w).alloc (wordA x) 36).alloc' (wordA y) 36 (w.heap.size + 1) (by simp)).alloc' (arr 4 fun _ => u64V 0) 36 (w.heap.size + 1 + 1) (by simp)).alloc' (arr 4 fun _ => u64V 0) 36 (w.heap.size + 1 + 1 + 1) (by simp)
  go_loopw [6, 8] (fun c i wr => ∃ k : Nat, k ≤ 4 ∧ i = .int .i64 k ∧ c = .int .u64 (borrow x y k : Int) ∧
      St w wr [(w.heap.size + 1 + 1 + 1, 36, arr 4 fun i => u64V (if i < k then limb (dif x y) i else 0)), (w.heap.size + 1 + 1, 36, arr 4 fun _ => u64V 0), (w.heap.size + 1, 36, wordA y), (w.heap.size, 36, wordA x)]) (fun _ i _ => 4 - (intOf i).toNat)
  case atStart => exact ⟨0, by omega, rfl, by rw [borrow_zero]; rfl, s1⟩
  case round =>
    obtain ⟨k, hk, rfl, rfl, st⟩ := hrel
    by_cases hlt : k < 4
    · have a1 := st.cell 3 rfl k (wordA_get x k hlt)
      have a2 := st.cell 2 rfl k (wordA_get y k hlt)
      go_wp2
      refine Rf.region (· ≠ w.heap.size + 1 + 1 + 1) [([0, 1, 2, 3, 4, 5, 6, 7], 8), ([9, 10, 11, 12], 13)] [14] [] (by kernel_rfl) (by kernel_rfl) fun w' hw' => ?_
      have st' := st.ext hw'
      have b1 := Rf.later (F := (· ≠ w.heap.size + 1 + 1 + 1)) (st'.cell 3 rfl k (wordA_get x k hlt)) (by simp; omega)
      have b2 := Rf.later (F := (· ≠ w.heap.size + 1 + 1 + 1)) (st'.cell 2 rfl k (wordA_get y k hlt)) (by simp)
      have c3 := st'.cell 0 rfl k (arr_get 4 _ k hlt)
      have f3 := st'.frozen 0 rfl k
      have hc := Sub64 (limb x k) (limb y k) (borrow x y k) (borrow_le x y k)
      rw [sub_limb x y k hlt, sub_borrow] at hc
      simp only [Rf.walk, Rg.pick, Rg.nth, List.map_cons, List.map_nil]
      repeat (go_big_quiet_step (fail))
      refine wpQuiet_nil ?_
      go_wp2
      refine ⟨Rf.Ext.refl _, ?_⟩
      repeat (go_big_quiet_step (fail))
      refine wpQuiet_nil ?_
      go_wp2
      refine ⟨Rf.Ext.setCell _ _ _ (by simp), ?_⟩
      repeat (go_big_quiet_step (fail))
      refine wpQuiet_nil ?_
      go_wp2
      go_roundw
      case rel =>
        refine ⟨k + 1, by omega, by simp, rfl, ?_⟩
        exact st'.setFn 0 rfl k _ (fun i hi => grow_at (u64V) (limb (dif x y)) 0 k i) rfl
      case measure => simp [intOf]; omega
    · obtain rfl : k = 4 := by omega
      have e : (arr 4 fun i => u64V (if i < 4 then limb (dif x y) i else 0)) = wordA (dif x y) := arr_ext fun i hi => by rw [if_pos hi]
      rw [e] at st
      have s2 := st.setRow 1 rfl (wordA (dif x y))
      go_wp2_with (first
        | refine ldAll aggW rfl _ rfl (by rfl) (st.at 0 rfl) (by rfl) ?_
        | refine stAll aggW (vs := wordA (dif x y)) rfl _ _ rfl (by rfl) (by rfl) (st.at 1 rfl) (by rfl) (by rfl) (wordA_mem _) ?_)
      go_wp2
      refine bodyPost_ret (v := .agg _) (ret_cell aggW rfl rfl (s2.at 1 rfl) rfl) rfl ⟨rfl, s2.below⟩
theorem cmp_step {x y k : Nat} (h : x / m64 ^ (k + 1) = y / m64 ^ (k + 1)) : (limb x k < limb y k ↔ x / m64 ^ k < y / m64 ^ k) ∧ (x / m64 ^ k = y / m64 ^ k ↔ limb x k = limb y k) := by
 unfold limb
 rw [Nat.pow_succ, ← Nat.div_div_eq_div_mul, ← Nat.div_div_eq_div_mul] at h
 generalize x / m64 ^ k = A at *
 generalize y / m64 ^ k = B at *
 have := Nat.div_add_mod A m64
 have := Nat.div_add_mod B m64
 rw [h] at *
 omega
theorem Cmp (x y : Nat) (w : World) : Calls Tryz.prog 35 #[.agg (wordA x), .agg (wordA y)] w fun e w' => e = .returned (.int .i64 (cmp x y)) ∧ Ext w w' := by
  obtain ⟨X, hX, hXe, hXl⟩ : ∃ X, wordA x = wordA X ∧ x % M256 = X ∧ X < M256 := ⟨x % M256, (wordA_mod x).symm, rfl, Nat.mod_lt _ M256_pos⟩
  obtain ⟨Y, hY, hYe, hYl⟩ : ∃ Y, wordA y = wordA Y ∧ y % M256 = Y ∧ Y < M256 := ⟨y % M256, (wordA_mod y).symm, rfl, Nat.mod_lt _ M256_pos⟩
  obtain ⟨c, hc⟩ : ∃ c, c = cmp x y := ⟨_, rfl⟩
  rw [hX, hY, ← hc]
  have clt : X < Y → c = -1 := fun h => by rw [hc, cmp, hXe, hYe, if_pos h]
  have cgt : Y < X → c = 1 := fun h => by rw [hc, cmp, hXe, hYe, if_neg (by omega), if_pos h]
  have ceq : X = Y → c = 0 := fun h => by rw [hc, cmp, hXe, hYe, if_neg (by omega), if_neg (by omega)]
  clear hX hY hXe hYe hc
  go_enter Tryz.func35, Tryz.ntmps35
  have s1 := ((St.start w).alloc (wordA X) 36).alloc' (wordA Y) 36 (w.heap.size + 1) (by simp)
  go_wp2
  go_loopw [5] (fun i wr => ∃ (k : Nat) (z : Int), k ≤ 4 ∧ z = (k : Int) - 1 ∧ i = .int .i64 z ∧ X / m64 ^ k = Y / m64 ^ k ∧
      St w wr [(w.heap.size + 1, 36, wordA Y), (w.heap.size, 36, wordA X)]) (fun i _ => (intOf i + 1).toNat)
  case atStart =>
    refine ⟨4, 3, by omega, rfl, rfl, ?_, s1⟩
    rw [Nat.div_eq_of_lt (by exact hXl), Nat.div_eq_of_lt (by exact hYl)]
  case round =>
    obtain ⟨k, z, hk, hz, rfl, he, st⟩ := hrel
    cases k with
    | zero =>
      have hxy : X = Y := by simpa using he
      obtain rfl : z = -1 := by omega
      clear hz
      go_wp2
      go_ret
      exact ⟨by rw [ceq hxy]; rfl, st.below⟩
    | succ k =>
      have C := Lib.hid (cmp_step he)
      obtain rfl : z = (k : Int) := by omega
      clear hz
      go_wp2
      refine Rg.region [] [0, 1, 2, 3, 4, 5, 6, 7] [] (by kernel_rfl) (by kernel_rfl) fun w' hw' => ?_
      have st' := st.ext hw'
      have b1 := Rg.later (st'.cell 1 rfl k (wordA_get X k (by omega)))
      have b2 := Rg.later (st'.cell 0 rfl k (wordA_get Y k (by omega)))
      simp only [Rg.walk, Rg.pick, Rg.nth, List.map_nil]
      repeat (go_big_quiet_step (fail))
      refine wpQuiet_nil ?_
      by_cases h1 : limb X k < limb Y k
      · have : X < Y := by
          refine Nat.lt_of_not_le fun h => ?_
          have := Nat.div_le_div_right (c := m64 ^ k) h
          have := C.out.1.1 h1
          omega
        have hd : decide (limb X k < limb Y k) = true := by simpa using h1
        go_wp2
        go_ret
        exact ⟨by rw [clt this]; rfl, st'.below⟩
      · have hd : decide (limb X k < limb Y k) = false := by simpa using h1
        go_wp2
        refine Rg.region [] [0, 1, 2, 3, 4, 5, 6, 7] [] (by kernel_rfl) (by kernel_rfl) fun w2 hw2 => ?_
        have st2 := st'.ext hw2
        have b1 := Rg.later (st2.cell 1 rfl k (wordA_get X k (by omega)))
        have b2 := Rg.later (st2.cell 0 rfl k (wordA_get Y k (by omega)))
        simp only [Rg.walk, Rg.pick, Rg.nth, List.map_nil]
        repeat (go_big_quiet_step (fail))
        refine wpQuiet_nil ?_
        by_cases h2 : limb Y k < limb X k
        · have : Y < X := by
            refine Nat.lt_of_not_le fun h => ?_
            have h3 := Nat.div_le_div_right (c := m64 ^ k) h
            have h4 := C.out
            have h5 : X / m64 ^ k ≠ Y / m64 ^ k := fun h => by have := h4.2.1 h; omega
            have := h4.1.2 (by omega)
            omega
          have hd2 : decide (limb Y k < limb X k) = true := by simpa using h2
          go_wp2
          go_ret
          exact ⟨by rw [cgt this]; rfl, st2.below⟩
        · have hd2 : decide (limb Y k < limb X k) = false := by simpa using h2
          go_wp2
          go_roundw
          case rel => exact ⟨k, (k : Int) - 1, by omega, rfl, rfl, C.out.2.2 (by omega), st2⟩
          case measure => simp [intOf]
end Wd
open Go.RowKit Rp Rg Ops Mm Ar Wm
namespace Wd
theorem agg8 : Agg Tryz.prog 86 8 := ⟨⟨.array 8 23, by kernel_rfl, rfl⟩, by kernel_rfl⟩
def wideA (x : Nat) : Array Value := arr 8 fun i => u64V (limb x i)
theorem inner_sum {f : Nat → Nat} {x y k j c P L Q : Nat} (h : val f 8 + c * m64 ^ (k + j) = x % m64 ^ k * y + limb x k * (y % m64 ^ j) * m64 ^ k) (hP : P = limb x k * limb y j + f (k + j) + c)
  (hL : L = P % m64) (hQ : Q = P / m64) (hk : k + j < 8) :
  val (fun i => if i = k + j then L else f i) 8 + Q * m64 ^ (k + (j + 1)) = x % m64 ^ k * y + limb x k * (y % m64 ^ (j + 1)) * m64 ^ k := by
 have h1 := val_set (f := f) (n := 8) (k := k + j) L hk
 have h2 := Nat.mod_add_div P m64
 rw [← hL, ← hQ] at h2
 have e1 : y % m64 ^ (j + 1) = y % m64 ^ j + m64 ^ j * limb y j := by rw [Nat.pow_succ, Nat.mod_mul]; rfl
 have e2 : m64 ^ (k + (j + 1)) = m64 * m64 ^ (k + j) := by rw [← Nat.add_assoc, Nat.pow_succ, Nat.mul_comm]
 have e3 : limb x k * (m64 ^ j * limb y j) * m64 ^ k = limb x k * limb y j * m64 ^ (k + j) := by rw [Nat.pow_add]; ac_rfl
 rw [e1, e2, Nat.mul_add, Nat.add_mul, e3]
 have e4 : P * m64 ^ (k + j) = L * m64 ^ (k + j) + Q * (m64 * m64 ^ (k + j)) := by rw [← h2, Nat.add_mul]; ac_rfl
 rw [hP, Nat.add_mul, Nat.add_mul] at e4
 omega
theorem product (x y : Nat) (hx : x < M256) (hy : y < M256) (w : World) : Calls Tryz.prog 50 #[.agg (wordA x), .agg (wordA y)] w fun e w' => e = .returned (.agg (wideA (x * y))) ∧ Ext w w' := by
  go_enter Tryz.func50, Tryz.ntmps50
  have s1 := ((((St.start w).alloc (wordA x) 36).alloc' (wordA y) 36 (w.heap.size + 1) (by simp)).alloc' (arr 8 fun _ => u64V 0) 86 (w.heap.size + 1 + 1) (by simp)).alloc' (arr 8 fun _ => u64V 0) 86 (w.heap.size + 1 + 1 + 1) (by simp)
  go_wp2_with (first
    | refine ldAll aggW rfl _ rfl (by rfl) (s1.at 3 rfl) (by rfl) ?_)
  go_loopw [15] (fun c wr => ∃ k : Nat, k ≤ 4 ∧ c = .int .i64 k ∧
      St w wr [(w.heap.size + 1 + 1 + 1, 86, arr 8 fun i => u64V (limb (x % m64 ^ k * y) i)), (w.heap.size + 1 + 1, 86, arr 8 fun _ => u64V 0), (w.heap.size + 1, 36, wordA y), (w.heap.size, 36, wordA x)]) (fun i _ => 4 - (intOf i).toNat)
  case atStart =>
    refine ⟨0, by omega, rfl, ?_⟩
    have e : (arr 8 fun i => u64V (limb (x % m64 ^ 0 * y) i)) = arr 8 fun _ => u64V 0 := arr_ext fun i hi => by simp [Nat.mod_one, limb]
    rw [e]; exact s1
  case round =>
    obtain ⟨k, hk, rfl, st⟩ := hrel
    by_cases hlt : k < 4
    · have ak := run_idx (P := Tryz.prog) (t := 36) (e := 23) (n := 4) (d := .int .u64) (by kernel_rfl) (by kernel_rfl) rfl (by kernel_rfl) hlt (wordA_get x k hlt) .i64

      go_wp2_with (first
        | refine ldAll aggW rfl _ rfl (by rfl) (st.at 2 rfl) (by rfl) ?_)
      go_loopw [8, 20] (fun c jv wr => ∃ (j c' : Nat) (f : Nat → Nat), j ≤ 4 ∧ jv = .int .i64 j ∧ c = .int .u64 (c' : Int) ∧ c' < m64 ∧ (∀ i, i < 8 → f i < m64) ∧ (∀ i, k + 4 ≤ i → i < 8 → f i = 0) ∧
        val f 8 + c' * m64 ^ (k + j) = x % m64 ^ k * y + limb x k * (y % m64 ^ j) * m64 ^ k ∧
        St w wr [(w.heap.size + 1 + 1 + 1, 86, arr 8 fun i => u64V (f i)), (w.heap.size + 1 + 1, 86, arr 8 fun _ => u64V 0), (w.heap.size + 1, 36, wordA y), (w.heap.size, 36, wordA x)]) (fun _ i _ => 4 - (intOf i).toNat)
      case atStart => 
        have hV : x % m64 ^ k * y < m64 ^ (k + 4) := by
          rw [Nat.pow_add]
          exact Nat.mul_lt_mul_of_lt_of_lt (Nat.mod_lt _ (pow_pos' k)) hy
        refine ⟨0, 0, limb (x % m64 ^ k * y), by omega, rfl, rfl, m64_pos, fun i _ => limb_lt _ _, fun i h1 h2 => ?_, ?_, st⟩
        · unfold limb
          rw [Nat.div_eq_of_lt (Nat.lt_of_lt_of_le hV (Nat.pow_le_pow_right m64_pos h1))]
          rfl
        · rw [val_limb, Nat.mod_eq_of_lt (Nat.lt_of_lt_of_le hV (Nat.pow_le_pow_right m64_pos (by omega))), Nat.pow_zero, Nat.mod_one]
          simp
      case round =>
        obtain ⟨j, c, f, hj, rfl, rfl, hc, hf, hz, hv, st⟩ := hrel
        by_cases hlj : j < 4
        · have aj := run_idx (P := Tryz.prog) (t := 36) (e := 23) (n := 4) (d := .int .u64) (by kernel_rfl) (by kernel_rfl) rfl (by kernel_rfl) hlj (wordA_get y j hlj) .i64
          have c1 : wr.cell? ⟨w.heap.size + 1 + 1 + 1, k + j, none⟩ = some (.int .u64 (f (k + j) : Int)) := st.cell 0 rfl (k + j) (arr_get 8 _ (k + j) (by omega))
          have f1 := st.frozen 0 rfl (k + j)
          have m1 := Mul64 (limb x k) (limb y j) (limb_lt _ _) (limb_lt _ _)
          have A1 := Lib.hid hv
          clear hv
          have hp := hf (k + j) (by omega)
          have slt := step_lt (limb_lt x k) (limb_lt y j) hp hc
          have slo := step_lo (limb x k) (limb y j) (f (k + j)) c
          have shi := step_hi (limb x k) (limb y j) (f (k + j)) c
          have a1 := Add64 (limb x k * limb y j % m64) (f (k + j)) 0 (by omega)
          have a2 := Add64 ((limb x k * limb y j % m64 + f (k + j)) % m64) c 0 (by omega)
          have e0 : ((0 : Nat) : Int) = 0 := rfl
          simp only [Nat.add_zero, e0] at a1 a2
          clear e0
          obtain ⟨P, hP⟩ : ∃ P, P = limb x k * limb y j + f (k + j) + c := ⟨_, rfl⟩
          rw [← hP] at slt slo shi
          generalize limb x k * limb y j / m64 = H0 at m1 shi
          generalize limb x k * limb y j % m64 = L0 at m1 a1 a2 slo shi
          generalize (L0 + f (k + j)) / m64 = C1 at a1 shi
          generalize (L0 + f (k + j)) % m64 = L1 at a1 a2 slo shi
          generalize (L1 + c) / m64 = C2 at a2 shi
          generalize (L1 + c) % m64 = L2 at a2 slo
          have S := Lib.hid (And.intro slo shi)
          clear slo shi
          go_wp2_with (first
            | (go_at_call 59
               refine (m1 _).mono ?_
               rintro e w1 ⟨rfl, rfl⟩))
          go_roundw
          case rel =>
            have hs := S.out
            have hlt2 : H0 + C1 + C2 < m64 := by rw [hs.2]; exact Nat.div_lt_of_lt_mul slt
            refine ⟨j + 1, H0 + C1 + C2, fun i => if i = k + j then L2 else f i, by omega, by simp, ?_, hlt2, fun i hi => ?_, fun i h1 h2 => ?_, ?_, st.setFn 0 rfl (k + j) _ (fun i hi => ?_) rfl⟩
            · rw [IntKind.wrap_u64, IntKind.wrap_u64]
              unfold m64 at hlt2
              congr 1
              omega
            · simp only
              split
              · rw [hs.1]; exact Nat.mod_lt _ m64_pos
              · exact hf i hi
            · simp only
              rw [if_neg (by omega)]
              exact hz i h1 h2
            · exact inner_sum A1.out hP hs.1 hs.2 (by omega)
            · by_cases h : i = k + j
              · simp [h, u64V]
              · simp [h, u64V]
          case measure => simp [intOf]; omega
        · obtain rfl : j = 4 := by omega
          have c1 : wr.cell? ⟨w.heap.size + 1 + 1 + 1, k + 4, none⟩ = some (.int .u64 (f (k + 4) : Int)) := st.cell 0 rfl (k + 4) (arr_get 8 _ (k + 4) (by omega))
          have f1 := st.frozen 0 rfl (k + 4)
          have A1 := Lib.hid hv
          clear hv
          go_wp2
          go_roundw
          case rel =>
            refine ⟨k + 1, by omega, by simp, ?_⟩
            have hval : val (fun i => if i = k + 4 then c else f i) 8 = x % m64 ^ (k + 1) * y := by
              have h1 := val_set (f := f) (n := 8) (k := k + 4) c (by omega)
              have h2 := A1.out
              rw [hz (k + 4) (by omega) (by omega), Nat.zero_mul, Nat.add_zero] at h1
              rw [h1, h2, Nat.mod_eq_of_lt (show y < m64 ^ 4 from hy), Nat.pow_succ, Nat.mod_mul, Nat.add_mul]
              unfold limb
              ac_rfl
            refine st.setFn 0 rfl (k + 4) _ (fun i hi => ?_) rfl
            have hlt8 : ∀ i, i < 8 → (fun i => if i = k + 4 then c else f i) i < m64 := fun i hi => by
              simp only
              split
              · exact hc
              · exact hf i hi
            rw [← hval, limb_val hlt8 hi]
            by_cases h : i = k + 4
            · simp [h, u64V]
            · simp [h, u64V]
          case measure => simp [intOf]; omega
    · obtain rfl : k = 4 := by omega
      have e : (arr 8 fun i => u64V (limb (x % m64 ^ 4 * y) i)) = wideA (x * y) := by
        rw [Nat.mod_eq_of_lt (show x < m64 ^ 4 from hx)]; rfl
      rw [e] at st
      have s2 := st.setRow 1 rfl (wideA (x * y))
      go_wp2_with (first
        | refine ldAll agg8 rfl _ rfl (by rfl) (st.at 0 rfl) (by rfl) ?_
        | refine stAll agg8 (vs := wideA (x * y)) rfl _ _ rfl (by rfl) (by rfl) (st.at 1 rfl) (by rfl) (by rfl) (arr_mem fun _ _ => rfl) ?_)
      go_wp2
      refine bodyPost_ret (v := .agg _) (ret_cell agg8 rfl rfl (s2.at 1 rfl) rfl) rfl ⟨rfl, s2.below⟩
theorem wide_low (x : Nat) : (wideA x).extract 0 (0 + 4) = wordA x := by
 unfold wideA wordA arr
 simp [List.range_succ_eq_map]
theorem Mul (x y : Nat) (w : World) : Calls Tryz.prog 31 #[.agg (wordA x), .agg (wordA y)] w fun e w' => e = .returned (.agg (wordA (x * y))) ∧ Ext w w' := by
  have hr : wordA (x * y) = wordA (x % M256 * (y % M256)) := wordA_eq (by rw [Nat.mul_mod])
  rw [hr, ← wordA_mod x, ← wordA_mod y]
  have hx := Nat.mod_lt x M256_pos
  have hy := Nat.mod_lt y M256_pos
  generalize x % M256 = X at *
  generalize y % M256 = Y at *
  clear hr
  have hp := product X Y hx hy
  have hlow := Lib.hid (wide_low (X * Y))
  have hat := fun g => run_arrayAt (P := Tryz.prog) (t := 36) (n := 4) (e := 23) (by kernel_rfl) g 0 4 8 (by omega)
  go_enter Tryz.func31, Tryz.ntmps31
  have s1 := (((St.start w).alloc (wordA X) 36).alloc' (wordA Y) 36 (w.heap.size + 1) (by simp)).alloc' (arr 4 fun _ => u64V 0) 36 (w.heap.size + 1 + 1) (by simp)
  go_wp2_with (first
    | refine ldAll aggW rfl _ rfl (by rfl) (s1.at 2 rfl) (by rfl) ?_
    | refine ldAll aggW rfl _ rfl (by rfl) (s1.at 1 rfl) (by rfl) ?_
    | (go_at_call 50
       refine (hp _).mono ?_
       rintro e w1 ⟨rfl, hw1⟩
       have s2 := (s1.ext hw1).alloc (arr 8 fun _ => .int .u64 0) 86
       have s3 := s2.setRow 0 rfl (wideA (X * Y))
       have s4 := s3.setRow 1 rfl (wordA (X * Y)))
    | refine stAll agg8 (vs := wideA (X * Y)) rfl _ _ rfl (by rfl) (by rfl) (s2.at 0 rfl) (by rfl) (by rfl) (arr_mem fun _ _ => rfl) ?_
    | (refine ld aggW rfl _ rfl (by rfl) (s3.at 0 rfl) (by simp [wideA, arr_size]) ?_; rw [hlow.out])
    | refine stAll aggW (vs := wordA (X * Y)) rfl _ _ rfl (by rfl) (by rfl) (s3.at 1 rfl) (by rfl) (by rfl) (wordA_mem _) ?_)
  go_wp2
  refine bodyPost_ret (v := .agg _) (ret_cell aggW rfl rfl (s4.at 1 rfl) rfl) rfl ⟨rfl, s4.below⟩
end Wd
open Go.RowKit Rg Wm Ar
namespace Lf
def limbs (x : Nat) : List Nat := [limb x 0, limb x 1, limb x 2, limb x 3]
abbrev wV (x : Nat) : V := .a ((limbs x).map uK)
theorem limbs_len (x : Nat) : (limbs x).length = 4 := rfl
theorem limbs_get (x : Nat) {k : Nat} (h : k < 4) : (limbs x).getD k default = limb x k := by
 match k, h with
 | 0, _ => rfl
 | 1, _ => rfl
 | 2, _ => rfl
 | 3, _ => rfl
theorem limb_lt64 (x k : Nat) : limb x k < 18446744073709551616 := limb_lt x k
theorem limbs_lt (x k : Nat) : (limbs x).getD k default < 18446744073709551616 := by
 rcases Nat.lt_or_ge k 4 with h | h
 ·rw [limbs_get x h]; exact limb_lt64 x k
 ·rw [List.getD_eq_getElem?_getD, List.getElem?_eq_none (by rw [limbs_len]; exact h)]; exact Nat.zero_lt_succ _
theorem wordA_list (x : Nat) : wordA x = #[.int .u64 (limb x 0 : Int), .int .u64 (limb x 1 : Int), .int .u64 (limb x 2 : Int), .int .u64 (limb x 3 : Int)] := rfl
theorem exact_word (x : Nat) : Exact (wV x) (.agg (wordA x)) := by
 rw [wordA_list]
 refine ⟨fun w g => .a rfl (fun u hu => ?_) (fun j u y hj hy => ?_), fun w g y h => ?_⟩
 ·obtain ⟨a, _, rfl⟩ := List.mem_map.1 hu; rfl
 ·match j with
  | 0 => simp [limbs] at hj hy; subst hj; subst hy; exact .k _
  | 1 => simp [limbs] at hj hy; subst hj; subst hy; exact .k _
  | 2 => simp [limbs] at hj hy; subst hj; subst hy; exact .k _
  | 3 => simp [limbs] at hj hy; subst hj; subst hy; exact .k _
  | j + 4 => simp [limbs] at hj
 ·cases h with
  | @a _ _ vs hl h1 hc =>
   have hs : vs.size = 4 := by simpa [limbs] using hl.symm
   congr 1
   apply Array.ext
   ·simpa using hs
   ·intro i h1 h2
    have hv : vs[i]? = some vs[i] := Array.getElem?_eq_getElem h1
    match i with
    | 0 => exact rep_k (hc 0 _ _ rfl hv)
    | 1 => exact rep_k (hc 1 _ _ rfl hv)
    | 2 => exact rep_k (hc 2 _ _ rfl hv)
    | 3 => exact rep_k (hc 3 _ _ rfl hv)
    | i + 4 => omega
theorem limbs_eq {x y : Nat} (h : x % M256 = y % M256) : limbs x = limbs y := by
 have := wordA_eq h
 rw [wordA_list, wordA_list] at this
 simp only [Array.mk.injEq, List.cons.injEq, Value.int.injEq, true_and, and_true] at this
 obtain ⟨h1, h2, h3, h4⟩ := this
 simp only [limbs, List.cons.injEq, and_true]
 exact ⟨by omega, by omega, by omega, by omega⟩
theorem limbs_inj {x y : Nat} (h : limbs x = limbs y) : x % M256 = y % M256 := by
 refine wordA_inj ?_
 simp only [limbs, List.cons.injEq, and_true] at h
 obtain ⟨h1, h2, h3, h4⟩ := h
 rw [wordA_list, wordA_list, h1, h2, h3, h4]
theorem limbs_iff {x y : Nat} : limbs x = limbs y ↔ x % M256 = y % M256 := ⟨limbs_inj, limbs_eq⟩
theorem limbs_small {n : Nat} (h : n < m64) : limbs n = [n, 0, 0, 0] := by
 have h0 : limb n 0 = n := by unfold limb; rw [Nat.pow_zero, Nat.div_one, Nat.mod_eq_of_lt h]
 have hi : ∀ i, 1 ≤ i → limb n i = 0 := fun i hi => by
  have : m64 ≤ m64 ^ i := by
   have := Nat.pow_le_pow_right (show 0 < m64 from m64_pos) hi
   rwa [Nat.pow_one] at this
  unfold limb; rw [Nat.div_eq_of_lt (by omega), Nat.zero_mod]
 unfold limbs
 rw [h0, hi 1 (by decide), hi 2 (by decide), hi 3 (by decide)]
def beB (x : Nat) : Nat → List UInt8
 | 0 => []
 | n + 1 => UInt8.ofNat (x / 256 ^ n % 256) :: beB x n
theorem beB_len (x n : Nat) : (beB x n).length = n := by induction n <;> simp [beB, *]
theorem beB_num (x : Nat) : ∀ n, Ps.beN (beB x n) = x % 256 ^ n
 | 0 => by simp [beB, Ps.beN, Ps.nat8, Ps.pos, Nat.mod_one]
 | n + 1 => by
  have ih := beB_num x n
  have e : Ps.beN (beB x (n + 1)) = x / 256 ^ n % 256 * 256 ^ n + Ps.beN (beB x n) := by
   simp only [beB, Ps.beN, Ps.nat8, List.map_cons, Ps.pos, List.length_map, beB_len, UInt8.toNat_ofNat']
   simp
  rw [e, ih, Nat.pow_succ, Nat.mod_mul, Nat.mul_comm]
  omega
theorem m256_bytes : M256 = 256 ^ 32 := by unfold M256 m64; decide
def wordB (x : Nat) : List UInt8 := beB x 32
theorem wordB_len (x : Nat) : (wordB x).length = 32 := beB_len x 32
theorem wordB_num (x : Nat) : Ps.beN (wordB x) = x % M256 := by rw [m256_bytes]; exact beB_num x 32
def bytesR (x i : Nat) : List UInt8 := (List.range 32).map fun j => if j < i then UInt8.ofNat (x / 256 ^ (31 - j) % 256) else 0
theorem bytesR_len (x i : Nat) : (bytesR x i).length = 32 := by simp [bytesR]
theorem bytesR_full (x : Nat) : bytesR x 32 = wordB x := by
 have e : ∀ n, beB x n = (List.range n).map fun j => UInt8.ofNat (x / 256 ^ (n - 1 - j) % 256) := by
  intro n
  induction n with
  | zero => rfl
  | succ n ih =>
   rw [beB, ih, List.range_succ_eq_map, List.map_cons, List.map_map]
   congr 1
   refine List.map_congr_left fun j hj => ?_
   have := List.mem_range.1 hj
   simp only [Function.comp]
   rw [show n + 1 - 1 - (j + 1) = n - 1 - j by omega]
 unfold wordB bytesR
 rw [e]
 refine List.map_congr_left fun j hj => ?_
 rw [if_pos (List.mem_range.1 hj)]
theorem bytesR_set (x i : Nat) (_hi : i < 32) {b : Nat} (hb : b % 256 = x / 256 ^ (31 - i) % 256) : (bytesR x i).set i (UInt8.ofNat b) = bytesR x (i + 1) := by
 apply List.ext_getElem
 ·simp [bytesR]
 ·intro j h1 h2
  rw [List.getElem_set]
  simp only [bytesR, List.getElem_map, List.getElem_range]
  by_cases h : i = j
  ·subst h
   rw [if_pos rfl, if_pos (by omega)]
   apply UInt8.toNat_inj.1
   rw [UInt8.toNat_ofNat', UInt8.toNat_ofNat']
   omega
  ·rw [if_neg h]
   by_cases h3 : j < i
   ·rw [if_pos h3, if_pos (by omega)]
   ·rw [if_neg h3, if_neg (by omega)]
theorem limb_byte (x k r : Nat) (hr : r < 8) : limb x k / 2 ^ (r * 8) % 256 = x / 256 ^ (8 * k + r) % 256 := by
 unfold limb
 have e1 : (256 : Nat) ^ (8 * k + r) = m64 ^ k * 2 ^ (r * 8) := by
  rw [Nat.pow_add, Nat.pow_mul]
  have h1 : (256 : Nat) ^ 8 = m64 := by unfold m64; decide
  have h2 : (256 : Nat) ^ r = 2 ^ (r * 8) := by rw [Nat.mul_comm, Nat.pow_mul]
  rw [h1, h2]
 rw [e1, ← Nat.div_div_eq_div_mul]
 generalize x / m64 ^ k = y
 have h3 : m64 = 2 ^ (r * 8) * 2 ^ ((8 - r) * 8) := by rw [← Nat.pow_add, show r * 8 + (8 - r) * 8 = 64 from by omega]; unfold m64; decide
 have h4 : (256 : Nat) ∣ 2 ^ ((8 - r) * 8) := by
  refine ⟨2 ^ ((8 - r) * 8 - 8), ?_⟩
  have : (8 - r) * 8 = 8 + ((8 - r) * 8 - 8) := by omega
  rw [this, Nat.pow_add]; simp
 rw [h3, Nat.mod_mul_right_div_self]
 exact Nat.mod_mod_of_dvd _ h4
theorem pow256 (i : Nat) : (256 : Nat) ^ i = m64 ^ (i / 8) * 2 ^ (i % 8 * 8) := by
 have h1 : (256 : Nat) ^ 8 = m64 := by unfold m64; decide
 have h2 : (256 : Nat) ^ (i % 8) = 2 ^ (i % 8 * 8) := by rw [Nat.mul_comm, Nat.pow_mul]
 rw [← h1, ← h2, ← Nat.pow_mul, ← Nat.pow_add, Nat.div_add_mod]
theorem limb_set {V b i : Nat} (hV : V < 256 ^ i) (hb : b < 256) (k : Nat) : limb (V + b * 256 ^ i) k = if k = i / 8 then limb V k ||| (b * 2 ^ (i % 8 * 8) % 2 ^ 64) else limb V k := by
 have hp := pow256 i
 have hm : 2 ^ 64 = m64 := by unfold m64; decide
 have hr : i % 8 < 8 := Nat.mod_lt _ (by decide)
 have h64 : m64 = 2 ^ (i % 8 * 8) * 2 ^ (64 - i % 8 * 8) := by rw [← Nat.pow_add, ← hm, show i % 8 * 8 + (64 - i % 8 * 8) = 64 from by omega]
 have hpos : ∀ j, 0 < m64 ^ j := fun j => pow_pos' j
 have hle : b * 2 ^ (i % 8 * 8) + 2 ^ (i % 8 * 8) ≤ m64 := by
  have h1 : (2 : Nat) ^ 8 ≤ 2 ^ (64 - i % 8 * 8) := Nat.pow_le_pow_right (by decide) (by omega)
  have h2 : (b + 1) * 2 ^ (i % 8 * 8) ≤ 2 ^ (64 - i % 8 * 8) * 2 ^ (i % 8 * 8) := Nat.mul_le_mul_right _ (by omega)
  rw [Nat.mul_comm (2 ^ (64 - i % 8 * 8)), ← h64, Nat.add_mul, Nat.one_mul] at h2
  exact h2
 have hs0 : 0 < 2 ^ (i % 8 * 8) := Nat.two_pow_pos _
 rcases Nat.lt_trichotomy k (i / 8) with h | h | h
 ·rw [if_neg (by omega)]
  obtain ⟨j, hj⟩ : ∃ j, i / 8 = k + 1 + j := ⟨i / 8 - k - 1, by omega⟩
  unfold limb
  rw [hp, hj, show b * (m64 ^ (k + 1 + j) * 2 ^ (i % 8 * 8)) = m64 ^ k * (m64 * (m64 ^ j * (b * 2 ^ (i % 8 * 8)))) from by rw [Nat.pow_add, Nat.pow_add, Nat.pow_one]; ac_rfl, Nat.add_mul_div_left _ _ (hpos k), Nat.add_mul_mod_self_left]
 ·rw [if_pos h]
  subst h
  have hlt : V / m64 ^ (i / 8) < 2 ^ (i % 8 * 8) := Nat.div_lt_of_lt_mul (by rw [← hp]; exact hV)
  unfold limb
  rw [hp, show b * (m64 ^ (i / 8) * 2 ^ (i % 8 * 8)) = m64 ^ (i / 8) * (b * 2 ^ (i % 8 * 8)) from by ac_rfl, Nat.add_mul_div_left _ _ (hpos _)]
  rw [Nat.mod_eq_of_lt (show V / m64 ^ (i / 8) < m64 by omega), hm, Nat.mod_eq_of_lt (show b * 2 ^ (i % 8 * 8) < m64 by omega), Nat.mod_eq_of_lt (by omega)]
  rw [Nat.or_comm, Nat.mul_comm b, ← Nat.two_pow_add_eq_or_of_lt hlt, Nat.add_comm]
 ·rw [if_neg (by omega)]
  have h1 : (256 : Nat) ^ (i + 1) ≤ m64 ^ k := by
   have : (256 : Nat) ^ (i + 1) ≤ 256 ^ (8 * k) := Nat.pow_le_pow_right (by decide) (by omega)
   rw [Nat.pow_mul] at this
   have e : (256 : Nat) ^ 8 = m64 := by unfold m64; decide
   rwa [e] at this
  have h2 : V + b * 256 ^ i < 256 ^ (i + 1) := by
   have h2 := Nat.mul_le_mul_right (256 ^ i) (Nat.succ_le_of_lt hb)
   rw [Nat.pow_succ, Nat.mul_comm (256 ^ i)]
   rw [Nat.succ_mul] at h2
   omega
  unfold limb
  rw [Nat.div_eq_of_lt (by omega), Nat.div_eq_of_lt (by omega)]
def tailN (l : List UInt8) (i : Nat) : Nat := Ps.beN (l.drop (l.length - i))
theorem tailN_zero (l : List UInt8) : tailN l 0 = 0 := by unfold tailN; rw [Nat.sub_zero, List.drop_length]; rfl
theorem tailN_all (l : List UInt8) : tailN l l.length = Ps.beN l := by unfold tailN; rw [Nat.sub_self, List.drop_zero]
theorem tailN_lt (l : List UInt8) {i : Nat} (h : i ≤ l.length) : tailN l i < 256 ^ i := by
 have := Ps.beN_lt (l.drop (l.length - i))
 rwa [List.length_drop, show l.length - (l.length - i) = i by omega] at this
theorem tailN_succ (l : List UInt8) {i : Nat} (h : i < l.length) : tailN l (i + 1) = tailN l i + (l.getD (l.length - 1 - i) default).toNat * 256 ^ i := by
 unfold tailN
 rw [show l.length - (i + 1) = l.length - 1 - i by omega, List.drop_eq_getElem_cons (by omega)]
 have e : l.length - 1 - i + 1 = l.length - i := by omega
 rw [e]
 have e2 : ∀ (a : UInt8) (r : List UInt8), Ps.beN (a :: r) = a.toNat * 256 ^ r.length + Ps.beN r := fun a r => by simp [Ps.beN, Ps.nat8, Ps.pos]
 rw [e2, List.length_drop, show l.length - (l.length - i) = i by omega, Nat.add_comm]
 simp [List.getD_eq_getElem?_getD, List.getElem?_eq_getElem (show l.length - 1 - i < l.length by omega)]
attribute [irreducible] bytesR limbs tailN wordB
end Lf
open Wm Ar
set_option maxRecDepth 20000
namespace My
structure MOp where
 kind : Int
 at_ : Nat
 from_ : Nat
 len : Nat
 word : Nat
 data : List UInt8
structure MOp.ok (o : MOp) : Prop where
 a : o.at_ < M256
 f : o.from_ < M256
 l : o.len < M256
 w : o.word < M256
structure St where
 gen : Nat
 l : List UInt8
def cost (w : Nat) : Nat := if w ≤ 128 then 3 * w + w * w / 64 else 0
def price (L size : Nat) : Nat := if size ≤ L then 0 else cost (size / 32) - cost (L / 32)
def up (n : Nat) : Nat := (n + 31) / 32 * 32
def need (L a n : Nat) : Option Nat := if n = 0 then some L else if 4096 < a ∨ 4096 - a < n then none else some (max L (up (a + n)))
def grow (s : St) (size : Nat) : St := if size ≤ s.l.length then s else ⟨s.gen + 1, s.l ++ List.replicate (size - s.l.length) 0⟩
def view (l : List UInt8) (a n : Nat) : List UInt8 := (l.drop a).take n
def size2 (L a f n : Nat) : Option Nat := match need L a n, need L f n with
 | some x, some y => some (max x y)
 | _, _ => none
def sizeOf (L : Nat) (o : MOp) : Option Nat :=
 if o.kind = 1 ∨ o.kind = 2 then need L o.at_ 32
 else if o.kind = 3 then need L o.at_ 1
 else if o.kind = 4 then size2 L o.at_ o.from_ o.len
 else need L o.at_ o.data.length
def act (o : MOp) (l : List UInt8) : Nat × List UInt8 :=
 if o.kind = 1 then (Ps.beN (view l o.at_ 32), l)
 else if o.kind = 2 then (0, Lf.put l o.at_ (Lf.wordB o.word))
 else if o.kind = 3 then (0, l.set o.at_ (UInt8.ofNat o.word))
 else if o.kind = 4 then (0, if o.len = 0 then l else Lf.put l o.at_ (view l o.from_ o.len))
 else (0, if o.data.length = 0 then l else Lf.put l o.at_ o.data)
structure Good (l : List UInt8) : Prop where
 le : l.length ≤ 4096
 m : l.length % 32 = 0
theorem up_ge (n : Nat) : n ≤ up n := by unfold up; omega
theorem up_le {n : Nat} (h : n ≤ 4096) : up n ≤ 4096 := by unfold up; omega
theorem up_mod (n : Nat) : up n % 32 = 0 := by unfold up; omega
theorem need_spec {L a n m : Nat} (hL : L ≤ 4096) (hm : L % 32 = 0) (h : need L a n = some m) : L ≤ m ∧ m ≤ 4096 ∧ m % 32 = 0 ∧ (0 < n → a + n ≤ m) := by
 unfold need at h
 split at h
 ·cases h; exact ⟨Nat.le_refl _, hL, hm, fun h => by omega⟩
 ·split at h
  ·cases h
  ·rename_i h1 h2
   cases h
   have h3 := up_ge (a + n)
   have h4 := up_le (n := a + n) (by omega)
   have h5 := up_mod (a + n)
   rcases Nat.le_total L (up (a + n)) with h | h
   ·rw [Nat.max_eq_right h]; exact ⟨h, h4, h5, fun _ => h3⟩
   ·rw [Nat.max_eq_left h]; exact ⟨Nat.le_refl _, hL, hm, fun _ => by omega⟩
theorem grow_len {s : St} {m : Nat} (h : s.l.length ≤ m) : (grow s m).l.length = m := by
 unfold grow
 split
 ·omega
 ·simp; omega
theorem cost_lt (w : Nat) : cost w ≤ 640 := by
 unfold cost
 split
 ·rename_i h
  have : w * w ≤ 128 * 128 := Nat.mul_le_mul h h
  omega
 ·omega
theorem cost_mono {a b : Nat} (h : a ≤ b) (hb : b ≤ 128) : cost a ≤ cost b := by
 unfold cost
 rw [if_pos (by omega), if_pos hb]
 have : a * a ≤ b * b := Nat.mul_le_mul h h
 omega
def zero : St := ⟨0, []⟩
theorem zero_good : Good zero.l := ⟨by decide, by decide⟩
end My
open Go.RowKit Rg Wm Ar
namespace Lf
theorem m64_two : m64 = 2 ^ 64 := by unfold m64; decide
theorem M256_two : M256 = 2 ^ 256 := by unfold M256 m64; decide
theorem limb_two (x i : Nat) : limb x i = x / 2 ^ (64 * i) % 2 ^ 64 := by
 unfold limb; rw [m64_two, ← Nat.pow_mul]
theorem bit_limb (x i j : Nat) : (limb x i).testBit j = (decide (j < 64) && x.testBit (64 * i + j)) := by
 rw [limb_two, Nat.testBit_mod_two_pow, Nat.testBit_div_two_pow, Nat.add_comm j]
theorem limb_and (x y i : Nat) : limb (x &&& y) i = limb x i &&& limb y i := by
 simp only [limb_two, Nat.and_div_two_pow, Nat.and_mod_two_pow]
theorem limb_or (x y i : Nat) : limb (x ||| y) i = limb x i ||| limb y i := by
 simp only [limb_two, Nat.or_div_two_pow, Nat.or_mod_two_pow]
theorem limb_xor (x y i : Nat) : limb (x ^^^ y) i = limb x i ^^^ limb y i := by
 simp only [limb_two, Nat.xor_div_two_pow, Nat.xor_mod_two_pow]
def notN (x : Nat) : Nat := 2 ^ 256 - 1 - x % 2 ^ 256
theorem bit_not (x j : Nat) : (notN x).testBit j = (decide (j < 256) && !x.testBit j) := by
 have h : x % 2 ^ 256 < 2 ^ 256 := Nat.mod_lt _ (Nat.two_pow_pos _)
 unfold notN
 rw [Nat.sub_sub, Nat.add_comm 1, Nat.testBit_two_pow_sub_succ h, Nat.testBit_mod_two_pow]
 by_cases hj : j < 256 <;> simp [hj]
theorem not64 {x j : Nat} (h : x < 2 ^ 64) : (18446744073709551615 - x).testBit j = (decide (j < 64) && !x.testBit j) := by
 have e : 18446744073709551615 - x = 2 ^ 64 - (x + 1) := by omega
 rw [e, Nat.testBit_two_pow_sub_succ h]
theorem limb_not (x i : Nat) (hi : i < 4) : limb (notN x) i = 18446744073709551615 - limb x i := by
 refine Nat.eq_of_testBit_eq fun j => ?_
 have hl : limb x i < 2 ^ 64 := by rw [limb_two]; exact Nat.mod_lt _ (Nat.two_pow_pos _)
 rw [not64 hl, bit_limb, bit_limb, bit_not]
 by_cases hj : j < 64
 ·have : 64 * i + j < 256 := by omega
  simp [hj, this]
 ·simp [hj]
theorem limb_shl (a k s i : Nat) (hs : s < 64) : limb (a * 2 ^ (64 * k + s)) i = if i < k then 0 else (limb a (i - k) * 2 ^ s % 2 ^ 64) ||| (if k < i then limb a (i - k - 1) / 2 ^ (64 - s) else 0) := by
  refine Nat.eq_of_testBit_eq fun j => ?_
  rw [bit_limb, Nat.testBit_mul_two_pow]
  by_cases hj : j < 64
  · by_cases hik : i < k
    · have : ¬ (64 * k + s ≤ 64 * i + j) := by omega
      simp [hik, this]
    · rw [if_neg hik, Nat.testBit_or, Nat.testBit_mod_two_pow, Nat.testBit_mul_two_pow, bit_limb]
      by_cases hsj : s ≤ j
      · have h1 : 64 * k + s ≤ 64 * i + j := by omega
        have h2 : j - s < 64 := by omega
        have e : 64 * i + j - (64 * k + s) = 64 * (i - k) + (j - s) := by omega
        have h3 : (if k < i then limb a (i - k - 1) / 2 ^ (64 - s) else 0).testBit j = false := by
          split
          · rw [Nat.testBit_div_two_pow, bit_limb]
            have : ¬ (j + (64 - s) < 64) := by omega
            simp [this]
          · simp
        rw [h3]
        simp [hj, h1, hsj, h2, e]
      · by_cases hki : k < i
        · rw [if_pos hki, Nat.testBit_div_two_pow, bit_limb]
          have h1 : 64 * k + s ≤ 64 * i + j := by omega
          have h2 : j + (64 - s) < 64 := by omega
          have e : 64 * i + j - (64 * k + s) = 64 * (i - k - 1) + (j + (64 - s)) := by omega
          simp [hj, h1, hsj, h2, e]
        · have h1 : ¬ (64 * k + s ≤ 64 * i + j) := by omega
          simp [hki, h1, hsj]
  · have h1 : (if i < k then 0 else (limb a (i - k) * 2 ^ s % 2 ^ 64) ||| (if k < i then limb a (i - k - 1) / 2 ^ (64 - s) else 0)).testBit j = false := by
      split
      · simp
      · rw [Nat.testBit_or, Nat.testBit_mod_two_pow]
        simp only [hj, decide_false, Bool.false_and, Bool.false_or]
        split
        · rw [Nat.testBit_div_two_pow, bit_limb]
          have : ¬ (j + (64 - s) < 64) := by omega
          simp [this]
        · simp
    rw [h1]
    simp [hj]
theorem limb_shr (a k s i : Nat) (hs : s < 64) (ha : a < 2 ^ 256) : limb (a / 2 ^ (64 * k + s)) i = limb a (i + k) / 2 ^ s ||| (if i + k < 3 then limb a (i + k + 1) * 2 ^ (64 - s) % 2 ^ 64 else 0) := by
  refine Nat.eq_of_testBit_eq fun j => ?_
  have hz : ∀ t, 256 ≤ t → a.testBit t = false := fun t ht => Nat.testBit_lt_two_pow (Nat.lt_of_lt_of_le ha (Nat.pow_le_pow_right (by decide) ht))
  rw [bit_limb, Nat.testBit_div_two_pow, Nat.testBit_or, Nat.testBit_div_two_pow, bit_limb]
  by_cases hj : j < 64
  · by_cases hjs : j + s < 64
    · have e : 64 * i + j + (64 * k + s) = 64 * (i + k) + (j + s) := by omega
      have h3 : (if i + k < 3 then limb a (i + k + 1) * 2 ^ (64 - s) % 2 ^ 64 else 0).testBit j = false := by
        split
        · rw [Nat.testBit_mod_two_pow, Nat.testBit_mul_two_pow]
          have : ¬ (64 - s ≤ j) := by omega
          simp [this]
        · simp
      rw [h3]
      simp [hj, hjs, e]
    · have e : 64 * i + j + (64 * k + s) = 64 * (i + k + 1) + (j - (64 - s)) := by omega
      by_cases hik : i + k < 3
      · rw [if_pos hik, Nat.testBit_mod_two_pow, Nat.testBit_mul_two_pow, bit_limb]
        have h1 : 64 - s ≤ j := by omega
        have h2 : j - (64 - s) < 64 := by omega
        simp [hj, hjs, h1, h2, e]
      · rw [if_neg hik, e, hz _ (by omega)]
        simp [hjs]
  · have h3 : (if i + k < 3 then limb a (i + k + 1) * 2 ^ (64 - s) % 2 ^ 64 else 0).testBit j = false := by
      split
      · rw [Nat.testBit_mod_two_pow]
        simp [hj]
      · simp
    have : ¬ (j + s < 64) := by omega
    rw [h3]
    simp [hj, this]
theorem add_bits (a b : Nat) : a + b = (a ^^^ b) + 2 * (a &&& b) := by
 induction a using Nat.strongRecOn generalizing b with
 | _ a ih =>
  by_cases h0 : a = 0
  ·subst h0; simp
  ·have h := ih (a / 2) (by omega) (b / 2)
   have x1 : (a ^^^ b) / 2 = a / 2 ^^^ b / 2 := Nat.xor_div_two
   have x2 : (a &&& b) / 2 = a / 2 &&& b / 2 := Nat.and_div_two
   have x3 : (a ^^^ b) % 2 = (a + b) % 2 := by
    have := @Nat.xor_mod_two_eq_one a b
    omega
   have x4 : (a &&& b) % 2 = 1 ↔ a % 2 = 1 ∧ b % 2 = 1 := Nat.and_mod_two_eq_one
   omega
theorem carry (a b : Nat) : (a + b) % M256 = ((a ^^^ b) + 2 * (a &&& b)) % M256 := by rw [← add_bits]
end Lf
open Go.RowKit Rg Wm Ar
set_option linter.unusedVariables false
set_option maxRecDepth 100000
namespace Lf
namespace Wo
theorem IntW (n : Nat) (h : n < m64) : LF Tryz.prog 29 [uK n] (fun _ => wV n) none := .of_calls (by kernel_rfl) rfl (ex1 (exact_k _)) (exact_word _) fun w => Wd.IntW n h w
theorem Cmp (x y : Nat) : LF Tryz.prog 35 [wV x, wV y] (fun _ => .k (.int .i64 (Wd.cmp x y))) none := .of_calls (by kernel_rfl) rfl (ex2 (exact_word x) (exact_word y)) (exact_k _) fun w => Wd.Cmp x y w
theorem Add (x y : Nat) : LF Tryz.prog 30 [wV x, wV y] (fun _ => wV (x + y)) none := .of_calls (by kernel_rfl) rfl (ex2 (exact_word x) (exact_word y)) (exact_word _) fun w => Wd.Add x y w
theorem Sub (x y : Nat) : LF Tryz.prog 32 [wV x, wV y] (fun _ => wV (dif x y)) none := .of_calls (by kernel_rfl) rfl (ex2 (exact_word x) (exact_word y)) (exact_word _) fun w => Wd.Sub x y w
theorem Mul (x y : Nat) : LF Tryz.prog 31 [wV x, wV y] (fun _ => wV (x * y)) none := .of_calls (by kernel_rfl) rfl (ex2 (exact_word x) (exact_word y)) (exact_word _) fun w => Wd.Mul x y w
end Wo
theorem byte_at (x : Nat) {i : Nat} (h : i < 32) : (limbs x).getD ((31 - i) / 8) default / 2 ^ ((31 - i) % 8 * 8) % 256 = x / 256 ^ (31 - i) % 256 := by
 rw [limbs_get x (by omega), limb_byte _ _ _ (Nat.mod_lt _ (by decide))]
 congr 3
 omega
theorem set_more {i n V b : Nat} (_h : i < n) (hn : i < 32) (hV : V < 256 ^ i) (hb : b < 256) : (limbs V).set (i / 8) ((limbs V).getD (i / 8) default ||| b * 2 ^ (i % 8 * 8) % 2 ^ 64) = limbs (V + b * 256 ^ i) := by
 rw [limbs_get V (by omega)]
 have h : ∀ k, limb (V + b * 256 ^ i) k = _ := limb_set hV hb
 have hq : i / 8 = 0 ∨ i / 8 = 1 ∨ i / 8 = 2 ∨ i / 8 = 3 := by omega
 unfold limbs
 simp only [h]
 rcases hq with e | e | e | e <;> rw [e] <;> rfl
namespace Wo
set_option maxHeartbeats 1000000 in
theorem Bytes (x : Nat) : LF Tryz.prog 14 [wV x] (fun _ => .a ((wordB x).map bK)) none := by
 have hl := limbs_len x
 refine LFx.mk' tt Tryz.func14 rfl rfl rfl (by kernel_rfl) rfl rfl fun F => ?_
 refine wk ?_ trueW trueW
 refine LC.loop2 (fun i L => [(1, .p 1 0), (2, .p 2 0), (3, .p 3 0), (6, .k (.int .i64 ((i : Nat) : Int)))]) (fun i L => [(1, .b ((limbs x).map uK)), (2, .b ((List.replicate 32 0).map bK)), (3, .b (L.map bK))]) (fun i L => i ≤ 32 ∧ L = bytesR x i) ((32 - ·)) (0) ((List.replicate 32 0)) ⟨by omega, by unfold bytesR; rfl⟩ ⟨rfl, rfl, rfl, rfl, trivial⟩ ⟨rfl, rfl, rfl, trivial⟩ rfl rfW rfW ?_
 rintro i L ⟨hi, hL⟩
 have hb := bytesR_len x i
 rw [← hL] at hb
 rcases Nat.lt_or_ge i 32 with h | h
 ·have hok : i + 1 ≤ 32 ∧ L.set i (UInt8.ofNat ((limbs x).getD ((31 - i) / 8) default / 2 ^ ((31 - i) % 8 * 8))) = bytesR x (i + 1) := ⟨h, by rw [hL]; exact bytesR_set x i h (byte_at x h)⟩
  clear hL
  exact wk trueW trueW trueW
 ·obtain rfl : i = 32 := by omega
  have hv1 : V.a (L.map bK) = V.a ((wordB x).map bK) := by rw [hL, bytesR_full]
  clear hL
  exact wk trueW trueW trueW
set_option maxHeartbeats 1000000 in
theorem Read (l : List UInt8) (hn : l.length ≤ 32) : LF Tryz.prog 15 [.s none (l.map bK)] (fun _ => wV (Ps.beN l)) none := by
 have hmin : (if (32 : Int) < ((l.length : Nat) : Int) then (32 : Int) else ((l.length : Nat) : Int)) = ((l.length : Nat) : Int) := if_neg (by omega)
 refine LFx.mk' tt Tryz.func15 rfl rfl rfl (by kernel_rfl) rfl rfl fun F => ?_
 refine wk ?_ trueW trueW
 refine LC.loop2 (fun i L => [(0, .s none (l.map bK)), (2, .p 2 0), (3, .p 3 0), (7, .k (.int .i64 ((l.length : Nat) : Int))), (8, .k (.int .i64 ((i : Nat) : Int)))]) (fun i L => [(2, .b ((List.replicate 4 0).map uK)), (3, .b (L.map uK))]) (fun i L => i ≤ l.length ∧ L = limbs (tailN l i)) ((l.length - ·)) (0) ((List.replicate 4 0)) ⟨by omega, by rw [tailN_zero]; unfold limbs; decide⟩ ⟨rfl, rfl, rfl, rfl, rfl, trivial⟩ ⟨rfl, rfl, trivial⟩ rfl rfW rfW ?_
 rintro i L ⟨hi, hL⟩
 have hb : L.length = 4 := by rw [hL, limbs_len]
 rcases Nat.lt_or_ge i l.length with h | h
 ·have h1 := limbs_lt (tailN l i) (i / 8)
  rw [← hL] at h1
  have hok : i + 1 ≤ l.length ∧ L.set (i / 8) (L.getD (i / 8) default ||| (l.getD (l.length - 1 - i) default).toNat * 2 ^ (i % 8 * 8) % 2 ^ 64) = limbs (tailN l (i + 1)) := ⟨h, by rw [hL, tailN_succ l h]; exact set_more h (by omega) (tailN_lt l hi) (UInt8.toNat_lt _)⟩
  have h2 := (l.getD (l.length - 1 - i) default).toNat_lt
  clear hL
  exact wk trueW trueW trueW
 ·obtain rfl : i = l.length := by omega
  rw [tailN_all] at hL
  subst hL
  exact wk trueW trueW trueW
end Wo
end Lf
open Go.RowKit Rp Rg Ops Mm Ar Wm
namespace Wd
theorem wrapN (a : Nat) : IntKind.u64.wrap (a : Int) = ((a % m64 : Nat) : Int) := by rw [IntKind.wrap_u64]; unfold m64; omega
theorem shl_or (R k : Nat) (hk : 0 < k) : bits BinOp.or IntKind.u64 (IntKind.u64.wrap ((limb R k : Int) * 2)) ((limb R (k - 1) : Int) / 9223372036854775808) = ((limb (2 * R) k : Nat) : Int) := by
 have e1 : IntKind.u64.wrap ((limb R k : Int) * 2) = ((limb R k * 2 % m64 : Nat) : Int) := by rw [← wrapN]; simp
 have e2 : (limb R (k - 1) : Int) / 9223372036854775808 = ((limb R (k - 1) / 9223372036854775808 : Nat) : Int) := by simp
 have h1 := limb_lt R (k - 1)
 have h2 : limb R (k - 1) / 9223372036854775808 < 2 := Nat.div_lt_of_lt_mul (by unfold m64 at h1; omega)
 have h3 := Nat.mod_lt (limb R k * 2) m64_pos
 rw [e1, e2, bits_or_u64_nat _ _ (by unfold m64 at h3; exact h3) (by omega), or_bit _ _ h2, shl_limb R k hk]
theorem low_or (R N t : Nat) : bits BinOp.or IntKind.u64 (IntKind.u64.wrap ((limb R 0 : Int) * 2)) (bits BinOp.and IntKind.u64 ((limb N (t / 64) : Int) / 2 ^ (t % 64)) 1) = ((limb (2 * R + N / 2 ^ t % 2) 0 : Nat) : Int) := by
 have e1 : IntKind.u64.wrap ((limb R 0 : Int) * 2) = ((limb R 0 * 2 % m64 : Nat) : Int) := by rw [← wrapN]; simp
 have e2 : (limb N (t / 64) : Int) / 2 ^ (t % 64) = ((limb N (t / 64) / 2 ^ (t % 64) : Nat) : Int) := by simp
 have h1 := limb_lt N (t / 64)
 have h3 := Nat.mod_lt (limb R 0 * 2) m64_pos
 have h4 := Nat.div_le_self (limb N (t / 64)) (2 ^ (t % 64))
 have e3 := bits_and_u64_nat (limb N (t / 64) / 2 ^ (t % 64)) 1 (by unfold m64 at h1; omega) (by omega)
 rw [Nat.and_one_is_mod, limb_bit] at e3
 have h2 : N / 2 ^ t % 2 < 2 := Nat.mod_lt _ (by omega)
 rw [e1, e2, show (1 : Int) = ((1 : Nat) : Int) from rfl, e3, bits_or_u64_nat _ _ (by unfold m64 at h3; exact h3) (by omega), or_bit _ _ h2, shl_zero _ _ h2]
theorem set_or (Q t : Nat) : bits BinOp.or IntKind.u64 ((limb (Q * 2 ^ (t + 1)) (t / 64) : Nat) : Int) ((2 ^ (t % 64) : Nat) : Int) = ((limb ((2 * Q + 1) * 2 ^ t) (t / 64) : Nat) : Int) := by
 have h1 := limb_lt (Q * 2 ^ (t + 1)) (t / 64)
 have h2 : 2 ^ (t % 64) < 18446744073709551616 := Nat.pow_lt_pow_right (n := 64) (by omega) (by omega)
 have e : limb (Q * 2 ^ (t + 1)) (t / 64) = Q * 2 ^ (t % 64 + 1) % m64 := by
  rw [show Q * 2 ^ (t + 1) = (2 * Q) * 2 ^ t from by rw [Nat.pow_succ]; ac_rfl, limb_shl_at, Nat.pow_succ]; congr 1; ac_rfl
 rw [bits_or_u64_nat _ _ (by unfold m64 at h1; exact h1) h2, limb_setbit, if_pos rfl, e, or_two_pow _ _ (by omega)]
theorem big_shift (A t : Nat) (h : 256 ≤ t) : wordA (A * 2 ^ t) = wordA 0 := by
 refine wordA_eq ?_
 obtain ⟨j, rfl⟩ : ∃ j, t = 256 + j := ⟨t - 256, by omega⟩
 have e : M256 = 2 ^ 256 := by unfold M256; rw [show m64 = 2 ^ 64 from rfl, ← Nat.pow_mul]
 rw [e, Nat.pow_add, Nat.mul_left_comm, Nat.mul_mod_right, Nat.zero_mod]
theorem dif_sub {x y : Nat} (h : y ≤ x) (hy : y < M256) : wordA (dif x y) = wordA (x - y) := by
 refine wordA_eq ?_
 unfold dif
 rw [Nat.mod_eq_of_lt hy, show x + (M256 - y) = x - y + M256 from by omega, Nat.add_mod_right]
set_option maxHeartbeats 8000000 in
set_option maxRecDepth 8000 in
theorem divide (N m n cap g o : Nat) (w : World) (hn : 0 < n) (hn8 : n ≤ 8) (hN : N < m64 ^ n) (hm : 0 < m) (hm2 : m < M256)
    (hcell : ∀ i, i < n → w.cell? ⟨g, o + i, none⟩ = some (.int .u64 (limb N i : Int))) :
    Calls Tryz.prog 25 #[.slice (some ⟨g, o, none⟩) n cap, .agg (wordA m)] w fun e w' => e = .returned (.tuple #[.agg (wordA (N / m)), .agg (wordA (N % m))]) ∧ Ext w w' := by
  go_enter Tryz.func25, Tryz.ntmps25
  have s1 := (((St.start w).alloc (wordA m) 36).alloc' (arr 4 fun _ => u64V 0) 36 (w.heap.size + 1) (by simp)).alloc' (arr 4 fun _ => u64V 0) 36 (w.heap.size + 1 + 1) (by simp)
  go_wp2
  go_loopw [6] (fun i wr => ∃ (t : Nat) (z : Int), t ≤ 64 * n ∧ z = (t : Int) - 1 ∧ i = .int .i64 z ∧
      St w wr [(w.heap.size + 1 + 1, 36, wordA (N / 2 ^ t % m)), (w.heap.size + 1, 36, wordA (N / 2 ^ t / m * 2 ^ t)), (w.heap.size, 36, wordA m)]) (fun i _ => (intOf i + 1).toNat)
  case atStart =>
    refine ⟨64 * n, (n : Int) * 64 - 1, by omega, by omega, by simp, ?_⟩
    have h0 : N / 2 ^ (64 * n) = 0 := Nat.div_eq_of_lt (by rw [Nat.pow_mul]; exact hN)
    rw [h0, Nat.zero_mod, Nat.zero_div, Nat.zero_mul]
    have e : wordA 0 = arr 4 fun _ => u64V 0 := arr_ext fun i hi => by simp [limb]
    rw [e]; exact s1
  case round =>
    obtain ⟨t, z, ht, hz, rfl, st⟩ := hrel
    cases t with
    | zero =>
      obtain rfl : z = -1 := by omega
      clear hz
      simp only [Nat.pow_zero, Nat.div_one, Nat.mul_one] at st
      go_wp2
      refine Rg.region [([0, 1], 2)] [] [3] (by kernel_rfl) (by kernel_rfl) fun w' hw' => ?_
      have st' := st.ext hw'
      simp only [Rg.walk, Rg.pick, Rg.nth, List.map_cons, List.map_nil]
      refine qldAll aggW rfl _ rfl (by rfl) (st'.at 1 rfl) (by rfl) ?_
      refine qldAll aggW rfl _ rfl (by rfl) (st'.at 0 rfl) (by rfl) ?_
      refine wpQuiet_nil ?_
      have st2 := st'.setRow 1 rfl (wordA (N / m))
      have st3 := st2.setRow 0 rfl (wordA (N % m))
      go_wp2_with (refine stAll aggW (vs := wordA (N / m)) rfl _ _ rfl (by rfl) (by rfl) (st'.at 1 rfl) (by rfl) (by rfl) (wordA_mem _) ?_)
      go_wp2
      refine ⟨ext_setRow_same (st'.at 1 rfl), ?_⟩
      refine wpQuiet_nil ?_
      go_wp2_with (refine stAll aggW (vs := wordA (N % m)) rfl _ _ rfl (by rfl) (by rfl) (st2.at 0 rfl) (by rfl) (by rfl) (wordA_mem _) ?_)
      go_wp2
      refine bodyPost_ret (v := .tuple #[.agg (wordA (N / m)), .agg (wordA (N % m))]) (ret_two rfl (slot_cell aggW rfl (st3.at 1 rfl) (by rfl)) (slot_cell aggW rfl (st3.at 0 rfl) (by rfl))) rfl ⟨rfl, st3.below⟩
    | succ t =>
      obtain rfl : z = (t : Int) := by omega
      clear hz
      have a3 : wr.cell? ⟨w.heap.size + 1 + 1, 3, none⟩ = some (.int .u64 (limb (N / 2 ^ (t + 1) % m) 3 : Int)) := st.cell 0 rfl 3 (arr_get 4 _ 3 (by omega))
      obtain ⟨R, hR⟩ : ∃ R, R = N / 2 ^ (t + 1) % m := ⟨_, rfl⟩
      obtain ⟨Q, hQ⟩ : ∃ Q, Q = N / 2 ^ (t + 1) / m := ⟨_, rfl⟩
      rw [← hR, ← hQ] at st
      rw [← hR] at a3
      have hR' := Lib.hid hR
      have hQ' := Lib.hid hQ
      clear hR hQ
      go_wp2
      go_loopw [8] (fun i wr => ∃ k : Nat, k ≤ 3 ∧ i = .int .i64 k ∧
          St w wr [(w.heap.size + 1 + 1, 36, arr 4 fun i => u64V (if k < i then limb (2 * R) i else limb R i)), (w.heap.size + 1, 36, wordA (Q * 2 ^ (t + 1))), (w.heap.size, 36, wordA m)]) (fun i _ => (intOf i).toNat)
      case atStart =>
        refine ⟨3, by omega, rfl, ?_⟩
        have e : (arr 4 fun i => u64V (if 3 < i then limb (2 * R) i else limb R i)) = wordA R := arr_ext fun i hi => by rw [if_neg (by omega)]
        rw [e]; exact st
      case round =>
        obtain ⟨k, hk, rfl, st⟩ := hrel
        cases k with
        | zero =>
          have c1 : wr.cell? ⟨w.heap.size + 1 + 1, 0, none⟩ = some (.int .u64 (limb R 0 : Int)) := st.cell 0 rfl 0 (arr_get 4 _ 0 (by omega))
          have hc := hcell (t / 64) (by omega)
          have c2 : wr.cell? ⟨g, o + t / 64, none⟩ = some (.int .u64 (limb N (t / 64) : Int)) := by
            rw [st.below.cell (World.block_lt_of_cell? w _ hc)]; exact hc
          have f1 := st.frozen 0 rfl 0
          have i1 : ((t : Int) / 64) < (n : Int) := by omega
          go_wp2
          refine Rg.region [] [0, 1, 2, 3, 4, 5, 6, 7, 8, 9, 10, 11, 12, 13] [14] (by kernel_rfl) (by kernel_rfl) fun w' hw' => ?_
          have st' := st.ext hw'
          have d1 := Rg.later (hw'.cell c1)
          have d2 := Rg.later (hw'.cell c2)
          simp only [Rg.walk, Rg.pick, Rg.nth, List.map_nil]
          repeat (go_big_quiet_step (fail))
          refine wpQuiet_nil ?_
          have f2 := st'.frozen 0 rfl 0
          have c3 := hw'.cell c1
          obtain ⟨b, hb⟩ : ∃ b, b = N / 2 ^ t % 2 := ⟨_, rfl⟩
          have hb2 : b < 2 := by rw [hb]; exact Nat.mod_lt _ (by omega)
          have st3 : St w (w'.setCell ⟨w.heap.size + 1 + 1, 0, none⟩ (.int .u64 ((limb (2 * R + b) 0 : Nat) : Int))) [(w.heap.size + 1 + 1, 36, wordA (2 * R + b)), (w.heap.size + 1, 36, wordA (Q * 2 ^ (t + 1))), (w.heap.size, 36, wordA m)] :=
            st'.setFn 0 rfl 0 _ (fun i hi => by
              by_cases h : i = 0
              · subst h; simp [u64V]
              · rw [if_neg h, if_pos (by omega), limb_step R b i hb2 (by omega)]) rfl
          have hlow := low_or R N t
          rw [← hb] at hlow
          rw [← hlow] at st3
          clear hlow
          have HB := Lib.hid hb
          clear hb
          have hRm : R < m := by rw [hR'.out]; exact Nat.mod_lt _ hm
          have htop := top_bit (R := R) (by omega)
          have hcm : ∀ v, Calls Tryz.prog 35 #[.agg (wordA (2 * R + b)), .agg (wordA m)] v fun e w' => e = .returned (.int .i64 (cmp (2 * R + b) m)) ∧ Ext v w' := fun v => Cmp _ _ v
          obtain ⟨c, hc⟩ : ∃ c, c = cmp (2 * R + b) m := ⟨_, rfl⟩
          rw [← hc] at hcm
          obtain ⟨r1, r2⟩ := And.intro (round_lt (H := N / 2 ^ (t + 1)) (m := m) hb2) (round_ge (H := N / 2 ^ (t + 1)) (m := m) hb2 hm)
          have hhalf := half_step N t
          rw [← HB.out] at hhalf
          rw [← hhalf, ← hR'.out, ← hQ'.out] at r1 r2
          have HR1 := Lib.hid r1
          have HR2 := Lib.hid r2
          clear r1 r2 hhalf
          by_cases hT : limb R 3 / 9223372036854775808 = 0
          · have hT' : ((limb R 3 : Int) / 9223372036854775808 == 0) = true := by
              rw [beq_iff_eq]; omega
            have hsm : 2 * R + b < M256 := by
              rw [hT] at htop
              have := (Nat.div_eq_zero_iff).1 htop.symm
              have := M256_pos
              have : M256 % 2 = 0 := by unfold M256 m64; rfl
              omega
            have hcv : c = if 2 * R + b < m then -1 else if m < 2 * R + b then 1 else 0 := by
              rw [hc, cmp, Nat.mod_eq_of_lt hsm, Nat.mod_eq_of_lt hm2]
            clear hc htop
            by_cases hlt : 2 * R + b < m
            · obtain rfl : c = -1 := by rw [hcv, if_pos hlt]
              clear hcv
              go_wp2_with (first
                | refine ldAllW aggW (by rfl) _ rfl (by rfl) (st3.at 0 rfl) (by rfl) ?_
                | refine ldAllW aggW (by rfl) _ rfl (by rfl) (st3.at 2 rfl) (by rfl) ?_
                | (go_at_call 35
                   refine (hcm _).mono ?_
                   rintro e w4 ⟨rfl, hw4⟩
                   have st4 := st3.ext hw4))
              go_roundw
              case rel =>
                refine ⟨t, (t : Int) - 1, by omega, rfl, by simp, ?_⟩
                obtain ⟨h1, h2⟩ := HR1.out hlt
                rw [h1, h2, show 2 * Q * 2 ^ t = Q * 2 ^ (t + 1) from by rw [Nat.pow_succ]; ac_rfl]
                exact st4
              case measure => simp [intOf]
            · have hcn : decide (c < 0) = false := by
                rw [hcv, if_neg hlt]; split <;> rfl
              clear hcv
              have hge : m ≤ 2 * R + b := by omega
              by_cases h256 : t < 256
              · go_wp2_with (first
                  | refine ldAllW aggW (by rfl) _ rfl (by rfl) (st3.at 0 rfl) (by rfl) ?_
                  | refine ldAllW aggW (by rfl) _ rfl (by rfl) (st3.at 2 rfl) (by rfl) ?_
                  | (go_at_call 35
                     refine (hcm _).mono ?_
                     rintro e w4 ⟨rfl, hw4⟩
                     have st4 := st3.ext hw4)
                  | refine ldAll aggW rfl _ rfl (by rfl) (st4.at 0 rfl) (by rfl) ?_
                  | refine ldAll aggW rfl _ rfl (by rfl) (st4.at 2 rfl) (by rfl) ?_
                  | (go_at_call 32
                     refine (Sub _ _ _).mono ?_
                     rintro e w5 ⟨rfl, hw5⟩
                     have st5 := st4.ext hw5
                     have st6 := st5.setRow 0 rfl (wordA (dif (2 * R + b) m)))
                  | refine stAll aggW (vs := wordA (dif (2 * R + b) m)) rfl _ _ rfl (by rfl) (by rfl) (st5.at 0 rfl) (by rfl) (by rfl) (wordA_mem _) ?_)

                have q1 : w5.setRow (w.heap.size + 1 + 1) (wordA (dif (2 * R + b) m)) = w5.setRow (w.heap.size + 1 + 1) (wordA (dif (2 * R + b) m)) := rfl
                have c6 : (w5.setRow (w.heap.size + 1 + 1) (wordA (dif (2 * R + b) m))).cell? ⟨w.heap.size + 1, t / 64, none⟩ = some (.int .u64 (limb (Q * 2 ^ (t + 1)) (t / 64) : Int)) := st6.cell 1 rfl (t / 64) (arr_get 4 _ _ (by omega))
                have i4 : ((t : Int) / 64) < 4 := by omega
                refine Rg.region [] [0, 1, 2, 3, 4, 5, 6, 7, 8] [9] (by kernel_rfl) (by kernel_rfl) fun w7 hw7 => ?_
                have st7 := st6.ext hw7
                have d6 := Rg.later (hw7.cell c6)
                have c7 := hw7.cell c6
                have f7 := st7.frozen 1 rfl (t / 64)
                simp only [Rg.walk, Rg.pick, Rg.nth, List.map_nil]
                repeat (go_big_quiet_step (fail))
                refine wpQuiet_nil ?_
                go_wp2
                go_roundw
                case rel =>
                  refine ⟨t, (t : Int) - 1, by omega, rfl, by simp, ?_⟩
                  obtain ⟨h1, h2⟩ := HR2.out hge
                  rw [h1, h2]
                  have ew : IntKind.u64.wrap ((2 : Int) ^ (t % 64)) = ((2 ^ (t % 64) : Nat) : Int) := by
                    have h3 : 2 ^ (t % 64) < m64 := Nat.pow_lt_pow_right (n := 64) (by omega) (by omega)
                    have h4 := wrapN (2 ^ (t % 64))
                    rw [Nat.mod_eq_of_lt h3] at h4
                    rw [← h4]; simp
                  rw [ew, set_or]
                  have := st7.setFn (f := fun i => u64V (limb (Q * 2 ^ (t + 1)) i)) 1 rfl (t / 64) (u64V (limb ((2 * Q + 1) * 2 ^ t) (t / 64))) (f' := fun i => u64V (limb ((2 * Q + 1) * 2 ^ t) i)) (fun i hi => by
                    by_cases h : i = t / 64
                    · rw [if_pos h, h]
                    · rw [if_neg h, limb_setbit, if_neg h]) rfl
                  rw [← dif_sub hge hm2]
                  exact this
                case measure => simp [intOf]
              · go_wp2_with (first
                  | refine ldAllW aggW (by rfl) _ rfl (by rfl) (st3.at 0 rfl) (by rfl) ?_
                  | refine ldAllW aggW (by rfl) _ rfl (by rfl) (st3.at 2 rfl) (by rfl) ?_
                  | (go_at_call 35
                     refine (hcm _).mono ?_
                     rintro e w4 ⟨rfl, hw4⟩
                     have st4 := st3.ext hw4)
                  | refine ldAll aggW rfl _ rfl (by rfl) (st4.at 0 rfl) (by rfl) ?_
                  | refine ldAll aggW rfl _ rfl (by rfl) (st4.at 2 rfl) (by rfl) ?_
                  | (go_at_call 32
                     refine (Sub _ _ _).mono ?_
                     rintro e w5 ⟨rfl, hw5⟩
                     have st5 := st4.ext hw5
                     have st6 := st5.setRow 0 rfl (wordA (dif (2 * R + b) m)))
                  | refine stAll aggW (vs := wordA (dif (2 * R + b) m)) rfl _ _ rfl (by rfl) (by rfl) (st5.at 0 rfl) (by rfl) (by rfl) (wordA_mem _) ?_)

                go_roundw
                case rel =>
                  refine ⟨t, (t : Int) - 1, by omega, rfl, by simp, ?_⟩
                  obtain ⟨h1, h2⟩ := HR2.out hge
                  rw [h1, h2, big_shift (2 * Q + 1) t (by omega), ← big_shift Q (t + 1) (by omega), ← dif_sub hge hm2]
                  exact st6
                case measure => simp [intOf]
          · have hT' : ((limb R 3 : Int) / 9223372036854775808 == 0) = false := by
              rw [beq_eq_false_iff_ne]; omega
            have hge : m ≤ 2 * R + b := by
              refine Nat.le_of_not_lt fun h => hT ?_
              rw [htop]
              exact Nat.div_eq_of_lt (by omega)
            clear hc htop
            by_cases h256 : t < 256
            · go_wp2_with (first
                | refine ldAllW aggW (by rfl) _ rfl (by rfl) (st3.at 0 rfl) (by rfl) ?_
                | refine ldAllW aggW (by rfl) _ rfl (by rfl) (st3.at 2 rfl) (by rfl) ?_
                | (go_at_call 35
                   refine (hcm _).mono ?_
                   rintro e w4 ⟨rfl, hw4⟩
                   have st4 := st3.ext hw4)
                | refine ldAll aggW rfl _ rfl (by rfl) (st3.at 0 rfl) (by rfl) ?_
                | refine ldAll aggW rfl _ rfl (by rfl) (st3.at 2 rfl) (by rfl) ?_
                | (go_at_call 32
                   refine (Sub _ _ _).mono ?_
                   rintro e w5 ⟨rfl, hw5⟩
                   have st5 := st3.ext hw5
                   have st6 := st5.setRow 0 rfl (wordA (dif (2 * R + b) m)))
                | refine stAll aggW (vs := wordA (dif (2 * R + b) m)) rfl _ _ rfl (by rfl) (by rfl) (st5.at 0 rfl) (by rfl) (by rfl) (wordA_mem _) ?_)

              have q1 : w5.setRow (w.heap.size + 1 + 1) (wordA (dif (2 * R + b) m)) = w5.setRow (w.heap.size + 1 + 1) (wordA (dif (2 * R + b) m)) := rfl
              have c6 : (w5.setRow (w.heap.size + 1 + 1) (wordA (dif (2 * R + b) m))).cell? ⟨w.heap.size + 1, t / 64, none⟩ = some (.int .u64 (limb (Q * 2 ^ (t + 1)) (t / 64) : Int)) := st6.cell 1 rfl (t / 64) (arr_get 4 _ _ (by omega))
              have i4 : ((t : Int) / 64) < 4 := by omega
              refine Rg.region [] [0, 1, 2, 3, 4, 5, 6, 7, 8] [9] (by kernel_rfl) (by kernel_rfl) fun w7 hw7 => ?_
              have st7 := st6.ext hw7
              have d6 := Rg.later (hw7.cell c6)
              have c7 := hw7.cell c6
              have f7 := st7.frozen 1 rfl (t / 64)
              simp only [Rg.walk, Rg.pick, Rg.nth, List.map_nil]
              repeat (go_big_quiet_step (fail))
              refine wpQuiet_nil ?_
              go_wp2
              go_roundw
              case rel =>
                refine ⟨t, (t : Int) - 1, by omega, rfl, by simp, ?_⟩
                obtain ⟨h1, h2⟩ := HR2.out hge
                rw [h1, h2]
                have ew : IntKind.u64.wrap ((2 : Int) ^ (t % 64)) = ((2 ^ (t % 64) : Nat) : Int) := by
                  have h3 : 2 ^ (t % 64) < m64 := Nat.pow_lt_pow_right (n := 64) (by omega) (by omega)
                  have h4 := wrapN (2 ^ (t % 64))
                  rw [Nat.mod_eq_of_lt h3] at h4
                  rw [← h4]; simp
                rw [ew, set_or]
                have := st7.setFn (f := fun i => u64V (limb (Q * 2 ^ (t + 1)) i)) 1 rfl (t / 64) (u64V (limb ((2 * Q + 1) * 2 ^ t) (t / 64))) (f' := fun i => u64V (limb ((2 * Q + 1) * 2 ^ t) i)) (fun i hi => by
                  by_cases h : i = t / 64
                  · rw [if_pos h, h]
                  · rw [if_neg h, limb_setbit, if_neg h]) rfl
                rw [← dif_sub hge hm2]
                exact this
              case measure => simp [intOf]
            · go_wp2_with (first
                | refine ldAllW aggW (by rfl) _ rfl (by rfl) (st3.at 0 rfl) (by rfl) ?_
                | refine ldAllW aggW (by rfl) _ rfl (by rfl) (st3.at 2 rfl) (by rfl) ?_
                | (go_at_call 35
                   refine (hcm _).mono ?_
                   rintro e w4 ⟨rfl, hw4⟩
                   have st4 := st3.ext hw4)
                | refine ldAll aggW rfl _ rfl (by rfl) (st3.at 0 rfl) (by rfl) ?_
                | refine ldAll aggW rfl _ rfl (by rfl) (st3.at 2 rfl) (by rfl) ?_
                | (go_at_call 32
                   refine (Sub _ _ _).mono ?_
                   rintro e w5 ⟨rfl, hw5⟩
                   have st5 := st3.ext hw5
                   have st6 := st5.setRow 0 rfl (wordA (dif (2 * R + b) m)))
                | refine stAll aggW (vs := wordA (dif (2 * R + b) m)) rfl _ _ rfl (by rfl) (by rfl) (st5.at 0 rfl) (by rfl) (by rfl) (wordA_mem _) ?_)

              go_roundw
              case rel =>
                refine ⟨t, (t : Int) - 1, by omega, rfl, by simp, ?_⟩
                obtain ⟨h1, h2⟩ := HR2.out hge
                rw [h1, h2, big_shift (2 * Q + 1) t (by omega), ← big_shift Q (t + 1) (by omega), ← dif_sub hge hm2]
                exact st6
              case measure => simp [intOf]
        | succ k =>
          have c1 : wr.cell? ⟨w.heap.size + 1 + 1, k + 1, none⟩ = some (.int .u64 (limb R (k + 1) : Int)) := by
            have := st.cell 0 rfl (k + 1) (arr_get 4 _ (k + 1) (by omega))
            simpa [u64V] using this
          have c2 : wr.cell? ⟨w.heap.size + 1 + 1, k, none⟩ = some (.int .u64 (limb R k : Int)) := by
            have := st.cell 0 rfl k (arr_get 4 _ k (by omega))
            rw [if_neg (by omega)] at this
            exact this
          have f1 := st.frozen 0 rfl (k + 1)
          go_wp2
          refine Rg.region [] [0, 1, 2, 3, 4, 5, 6, 7, 8, 9, 10, 11] [12] (by kernel_rfl) (by kernel_rfl) fun w' hw' => ?_
          have st' := st.ext hw'
          have d1 := Rg.later (hw'.cell c1)
          have d2 := Rg.later (hw'.cell c2)
          simp only [Rg.walk, Rg.pick, Rg.nth, List.map_nil]
          repeat (go_big_quiet_step (fail))
          refine wpQuiet_nil ?_
          have f2 := st'.frozen 0 rfl (k + 1)
          have c3 := hw'.cell c1
          go_wp2
          go_roundw
          case rel =>
            refine ⟨k, by omega, by simp, ?_⟩
            have e := shl_or R (k + 1) (by omega)
            simp only [Nat.add_sub_cancel] at e
            rw [e]
            refine st'.setFn 0 rfl (k + 1) _ (fun i hi => ?_) rfl
            by_cases h : i = k + 1
            · subst h; simp [u64V]
            · rw [if_neg h]
              by_cases h2 : k + 1 < i
              · rw [if_pos h2, if_pos (by omega)]
              · rw [if_neg h2, if_neg (by omega)]
          case measure => simp [intOf]
end Wd
open Go.RowKit Rp Rg Ops Mm Ar Wm Eq'
namespace Wd
theorem isZero (y : Nat) (hy : y < M256) (w : World) : (binOp .eql 36 (.agg (wordA y)) (.agg #[.int .u64 0, .int .u64 0, .int .u64 0, .int .u64 0])).run Tryz.prog w = .ok (.bool (decide (y = 0))) w := by
 rw [zeroW, eqlW, Nat.zero_mod, Nat.mod_eq_of_lt hy]
theorem DivMod_zero (x : Nat) (w : World) : Calls Tryz.prog 17 #[.agg (wordA x), .agg (wordA 0)] w fun e w' => e = .returned (.tuple #[.agg (wordA 0), .agg (wordA 0)]) ∧ Ext w w' := by
 have hz := isZero 0 M256_pos
 rw [show decide ((0 : Nat) = 0) = true from rfl] at hz
 have e0 : (arr 4 fun _ => u64V 0) = wordA 0 := zeroW
 go_enter Tryz.func17, Tryz.ntmps17
 have s1 := ((((St.start w).alloc (wordA x) 36).alloc' (wordA 0) 36 (w.heap.size + 1) (by simp)).alloc' (arr 4 fun _ => u64V 0) 36 (w.heap.size + 1 + 1) (by simp)).alloc' (arr 4 fun _ => u64V 0) 36 (w.heap.size + 1 + 1 + 1) (by simp)
 go_wp2_with (refine ldAll aggW rfl _ rfl (by rfl) (s1.at 2 rfl) (by rfl) ?_)
 go_wp2
 refine Rg.region [([0, 1], 2)] [] [3] (by kernel_rfl) (by kernel_rfl) fun w' hw' => ?_
 have st' := s1.ext hw'
 rw [e0] at st'
 simp only [Rg.walk, Rg.pick, Rg.nth, List.map_cons, List.map_nil]
 refine qldAll aggW rfl _ rfl (by rfl) (st'.at 1 rfl) (by rfl) ?_
 refine qldAll aggW rfl _ rfl (by rfl) (st'.at 0 rfl) (by rfl) ?_
 refine wpQuiet_nil ?_
 have st2 := st'.setRow 1 rfl (wordA 0)
 have st3 := st2.setRow 0 rfl (wordA 0)
 go_wp2_with (refine stAll aggW (vs := wordA 0) rfl _ _ rfl (by rfl) (by rfl) (st'.at 1 rfl) (by rfl) (by rfl) (wordA_mem _) ?_)
 go_wp2
 refine ⟨ext_setRow_same (st'.at 1 rfl), ?_⟩
 refine wpQuiet_nil ?_
 go_wp2_with (refine stAll aggW (vs := wordA 0) rfl _ _ rfl (by rfl) (by rfl) (st2.at 0 rfl) (by rfl) (by rfl) (wordA_mem _) ?_)
 go_wp2
 refine bodyPost_ret (v := .tuple #[.agg (wordA 0), .agg (wordA 0)]) (ret_two rfl (slot_cell aggW rfl (st3.at 1 rfl) (by rfl)) (slot_cell aggW rfl (st3.at 0 rfl) (by rfl))) rfl ⟨rfl, st3.below⟩
theorem DivMod (x y : Nat) (hx : x < M256) (hy : y < M256) (h0 : 0 < y) (w : World) : Calls Tryz.prog 17 #[.agg (wordA x), .agg (wordA y)] w fun e w' => e = .returned (.tuple #[.agg (wordA (x / y)), .agg (wordA (x % y))]) ∧ Ext w w' := by
 have hz := isZero y hy
 rw [show decide (y = 0) = false from by simp; omega] at hz
 go_enter Tryz.func17, Tryz.ntmps17
 have s1 := ((((St.start w).alloc (wordA x) 36).alloc' (wordA y) 36 (w.heap.size + 1) (by simp)).alloc' (arr 4 fun _ => u64V 0) 36 (w.heap.size + 1 + 1) (by simp)).alloc' (arr 4 fun _ => u64V 0) 36 (w.heap.size + 1 + 1 + 1) (by simp)
 go_wp2_with (refine ldAll aggW rfl _ rfl (by rfl) (s1.at 2 rfl) (by rfl) ?_)
 go_wp2
 refine Rg.region [([0, 1], 2)] [3, 4] [5, 6] (by kernel_rfl) (by kernel_rfl) fun w' hw' => ?_
 have st' := s1.ext hw'
 simp only [Rg.walk, Rg.pick, Rg.nth, List.map_cons, List.map_nil]
 repeat (go_big_quiet_step (fail))
 refine qldAll aggW rfl _ rfl (by rfl) (st'.at 2 rfl) (by rfl) ?_
 refine wpQuiet_nil ?_
 have hd := divide x y 4 4 w.heap.size 0 w' (by omega) (by omega) hx h0 hy (fun i hi => by rw [Nat.zero_add]; exact st'.cell 3 rfl i (wordA_get x i hi))
 go_wp2_with (go_at_call 25; refine hd.mono ?_; rintro e w2 ⟨rfl, hw2⟩)
 refine ⟨hw2, ?_⟩
 repeat (go_big_quiet_step (fail))
 refine wpQuiet_nil ?_
 have st2 := st'.ext hw2
 have st3 := st2.setRow 1 rfl (wordA (x / y))
 have st4 := st3.setRow 0 rfl (wordA (x % y))
 go_wp2_with (first
  | refine stAll aggW (vs := wordA (x / y)) rfl _ _ rfl (by rfl) (by rfl) (st2.at 1 rfl) (by rfl) (by rfl) (wordA_mem _) ?_
  | refine stAll aggW (vs := wordA (x % y)) rfl _ _ rfl (by rfl) (by rfl) (st3.at 0 rfl) (by rfl) (by rfl) (wordA_mem _) ?_)
 go_wp2
 refine bodyPost_ret (v := .tuple #[.agg (wordA (x / y)), .agg (wordA (x % y))]) (ret_two rfl (slot_cell aggW rfl (st4.at 1 rfl) (by rfl)) (slot_cell aggW rfl (st4.at 0 rfl) (by rfl))) rfl ⟨rfl, st4.below⟩
theorem MulMod (x y m : Nat) (hx : x < M256) (hy : y < M256) (hm : m < M256) (w : World) : Calls Tryz.prog 83 #[.agg (wordA x), .agg (wordA y), .agg (wordA m)] w fun e w' => e = .returned (.agg (wordA (if m = 0 then 0 else x * y % m))) ∧ Ext w w' := by
  have hz := isZero m hm
  have e0 : (arr 4 fun _ => u64V 0) = wordA 0 := zeroW
  have hp := product x y hx hy
  by_cases h0 : m = 0
  · subst h0
    rw [if_pos rfl]
    rw [show decide ((0 : Nat) = 0) = true from rfl] at hz
    go_enter Tryz.func83, Tryz.ntmps83
    have s1 := ((((St.start w).alloc (wordA x) 36).alloc' (wordA y) 36 (w.heap.size + 1) (by simp)).alloc' (wordA 0) 36 (w.heap.size + 1 + 1) (by simp)).alloc' (arr 4 fun _ => u64V 0) 36 (w.heap.size + 1 + 1 + 1) (by simp)
    have s2 := s1.setRow 0 rfl (arr 4 fun _ => u64V 0)
    go_wp2_with (first
      | refine ldAll aggW rfl _ rfl (by rfl) (s1.at 1 rfl) (by rfl) ?_
      | refine ldAll aggW rfl _ rfl (by rfl) (s1.at 0 rfl) (by rfl) ?_
      | refine stAll aggW (vs := arr 4 fun _ => u64V 0) rfl _ _ rfl (by rfl) (by rfl) (s1.at 0 rfl) (by rfl) (by rfl) (arr_mem fun _ _ => rfl) ?_)
    go_wp2
    refine bodyPost_ret (v := .agg _) (ret_cell aggW rfl rfl (s2.at 0 rfl) rfl) rfl ⟨by rw [e0], s2.below⟩
  · have hd : decide (m = 0) = false := by simpa using h0
    rw [hd] at hz
    rw [if_neg h0]
    have h1 : 0 < m := by omega
    clear h0 hd
    go_enter Tryz.func83, Tryz.ntmps83
    have s1 := ((((St.start w).alloc (wordA x) 36).alloc' (wordA y) 36 (w.heap.size + 1) (by simp)).alloc' (wordA m) 36 (w.heap.size + 1 + 1) (by simp)).alloc' (arr 4 fun _ => u64V 0) 36 (w.heap.size + 1 + 1 + 1) (by simp)
    go_wp2_with (first
      | refine ldAll aggW rfl _ rfl (by rfl) (s1.at 1 rfl) (by rfl) ?_
      | refine ldAll aggW rfl _ rfl (by rfl) (s1.at 2 rfl) (by rfl) ?_
      | refine ldAll aggW rfl _ rfl (by rfl) (s1.at 3 rfl) (by rfl) ?_
      | (go_at_call 50
         refine (hp _).mono ?_
         rintro e w1 ⟨rfl, hw1⟩
         have s2 := (s1.ext hw1).alloc (arr 8 fun _ => .int .u64 0) 86
         have s3 := s2.setRow 0 rfl (wideA (x * y)))
      | refine stAll agg8 (vs := wideA (x * y)) rfl _ _ rfl (by rfl) (by rfl) (s2.at 0 rfl) (by rfl) (by rfl) (arr_mem fun _ _ => rfl) ?_)
    go_wp2
    refine Rg.region [([0, 1], 2)] [3, 4, 5] [6] (by kernel_rfl) (by kernel_rfl) fun w' hw' => ?_
    have st' := s3.ext hw'
    simp only [Rg.walk, Rg.pick, Rg.nth, List.map_cons, List.map_nil, Act.put]
    repeat (go_big_quiet_step (fail))
    refine qldAll aggW rfl _ rfl (by rfl) (st'.at 2 rfl) (by rfl) ?_
    refine wpQuiet_nil ?_
    have hd := divide (x * y) m 8 8 w1.heap.size 0 w' (by omega) (by omega) (by rw [show (8 : Nat) = 4 + 4 from rfl, Nat.pow_add]; exact Nat.mul_lt_mul_of_lt_of_lt hx hy) h1 hm (fun i hi => by rw [Nat.zero_add]; exact st'.cell 0 rfl i (arr_get 8 _ i hi))
    go_wp2_with (go_at_call 25; refine hd.mono ?_; rintro e w2 ⟨rfl, hw2⟩)
    refine ⟨hw2, ?_⟩
    repeat (go_big_quiet_step (fail))
    refine wpQuiet_nil ?_
    have st2 := st'.ext hw2
    have st3 := st2.setRow 1 rfl (wordA (x * y % m))
    have st4 := st3.setRow 1 rfl (wordA (x * y % m))
    go_wp2_with (first
      | refine stAll aggW (vs := wordA (x * y % m)) rfl _ _ rfl (by rfl) (by rfl) (st2.at 1 rfl) (by rfl) (by rfl) (wordA_mem _) ?_
      | refine ldAll aggW rfl _ rfl (by rfl) (st3.at 1 rfl) (by rfl) ?_
      | refine stAll aggW (vs := wordA (x * y % m)) rfl _ _ rfl (by rfl) (by rfl) (st3.at 1 rfl) (by rfl) (by rfl) (wordA_mem _) ?_)
    go_wp2
    refine bodyPost_ret (v := .agg _) (ret_cell aggW rfl rfl (st4.at 1 rfl) rfl) rfl ⟨rfl, st4.below⟩
theorem elU : El Tryz.prog 67 23 1 8 := ⟨by kernel_rfl, by
 obtain ⟨i, h1, h2, h3, h4⟩ := info_parts (P := Tryz.prog) (e := 23) (z := .int .u64 0) (size := 1) (bytes := 8) (by kernel_rfl)
 exact ⟨i, _, h1, h2, h3, h4, rfl⟩, by omega⟩
theorem AddMod (x y m : Nat) (hx : x < M256) (hy : y < M256) (hm : m < M256) (w : World) : Calls Tryz.prog 82 #[.agg (wordA x), .agg (wordA y), .agg (wordA m)] w fun e w' => e = .returned (.agg (wordA (if m = 0 then 0 else (x + y) % m))) ∧ Ext w w' := by
  have hz := isZero m hm
  have e0 : (arr 4 fun _ => u64V 0) = wordA 0 := zeroW
  by_cases h0 : m = 0
  · subst h0
    rw [if_pos rfl]
    rw [show decide ((0 : Nat) = 0) = true from rfl] at hz
    go_enter Tryz.func82, Tryz.ntmps82
    have s1 := ((((St.start w).alloc (wordA x) 36).alloc' (wordA y) 36 (w.heap.size + 1) (by simp)).alloc' (wordA 0) 36 (w.heap.size + 1 + 1) (by simp)).alloc' (arr 4 fun _ => u64V 0) 36 (w.heap.size + 1 + 1 + 1) (by simp)
    have s2 := s1.setRow 0 rfl (arr 4 fun _ => u64V 0)
    go_wp2_with (first
      | refine ldAll aggW rfl _ rfl (by rfl) (s1.at 1 rfl) (by rfl) ?_
      | refine ldAll aggW rfl _ rfl (by rfl) (s1.at 0 rfl) (by rfl) ?_
      | refine stAll aggW (vs := arr 4 fun _ => u64V 0) rfl _ _ rfl (by rfl) (by rfl) (s1.at 0 rfl) (by rfl) (by rfl) (arr_mem fun _ _ => rfl) ?_)
    go_wp2
    refine bodyPost_ret (v := .agg _) (ret_cell aggW rfl rfl (s2.at 0 rfl) rfl) rfl ⟨by rw [e0], s2.below⟩
  · have hd : decide (m = 0) = false := by simpa using h0
    rw [hd] at hz
    rw [if_neg h0]
    have h1 : 0 < m := by omega
    clear h0 hd
    have hN : x + y < m64 ^ 5 := by
      have : m64 ^ 5 = M256 * m64 := Nat.pow_succ ..
      rw [this]
      have : M256 * 2 ≤ M256 * m64 := Nat.mul_le_mul_left _ (by unfold m64; omega)
      omega
    have hc4 : carry x y 4 = limb (x + y) 4 := by
      unfold carry limb
      rw [Nat.mod_eq_of_lt (show x < m64 ^ 4 from hx), Nat.mod_eq_of_lt (show y < m64 ^ 4 from hy), Nat.mod_eq_of_lt (Nat.div_lt_of_lt_mul (by rw [← Nat.pow_succ]; exact hN))]
    have hsum := sum x y
    rw [hc4] at hsum
    clear hc4
    go_enter Tryz.func82, Tryz.ntmps82
    have s1 := ((((St.start w).alloc (wordA x) 36).alloc' (wordA y) 36 (w.heap.size + 1) (by simp)).alloc' (wordA m) 36 (w.heap.size + 1 + 1) (by simp)).alloc' (arr 4 fun _ => u64V 0) 36 (w.heap.size + 1 + 1 + 1) (by simp)
    go_wp2_with (first
      | refine ldAll aggW rfl _ rfl (by rfl) (s1.at 1 rfl) (by rfl) ?_
      | refine ldAll aggW rfl _ rfl (by rfl) (s1.at 2 rfl) (by rfl) ?_
      | refine ldAll aggW rfl _ rfl (by rfl) (s1.at 3 rfl) (by rfl) ?_
      | (go_at_call 49
         refine (hsum _).mono ?_
         rintro e w1 ⟨rfl, hw1⟩
         have s2 := (s1.ext hw1).alloc (arr 4 fun _ => .int .u64 0) 36
         have s3 := s2.setRow 0 rfl (wordA (x + y)))
      | refine stAll aggW (vs := wordA (x + y)) rfl _ _ rfl (by rfl) (by rfl) (s2.at 0 rfl) (by rfl) (by rfl) (wordA_mem _) ?_)
    go_wp2
    refine Rg.region [([0, 1, 4], 2), ([], 3), ([], 5)] [6, 7, 8] [9] (by kernel_rfl) (by kernel_rfl) fun w' hw' => ?_
    have st' := s3.ext hw'
    simp only [Rg.walk, Rg.pick, Rg.nth, List.map_cons, List.map_nil]
    repeat (go_big_quiet_step (fail))
    refine qldAll aggW rfl _ rfl (by rfl) (st'.at 2 rfl) (by rfl) ?_
    refine wpQuiet_nil ?_
    go_wp2
    refine ⟨Below.alloc (Below.refl _ _) (Nat.le_refl _) _, ?_⟩
    refine wpQuiet_nil ?_
    have st2 := st'.alloc #[.int .u64 (limb (x + y) 4 : Int)] 23
    have hS0 : Sl (w'.alloc (.cells #[.int .u64 (limb (x + y) 4 : Int)] 23)) (w'.heap.size + 1) 1 (some ⟨w1.heap.size, 0, none⟩) 4 4 (wordA (x + y)).toList :=
      ⟨by rfl, by omega, by simp [maxLen], (fun h => by cases h), fun _ => ⟨_, 0, rfl, by have := st2.lt 1 rfl; simpa using this, fun j u hj => by
        rw [Nat.zero_add]
        refine st2.cell 1 rfl j ?_
        rw [Array.getElem?_toList] at hj
        exact hj⟩⟩
    go_wp2_with (refine grows elU rfl _ _ rfl (by rfl) hS0 (by rfl) (Sl.lit w' #[.int .u64 (limb (x + y) 4 : Int)] 23 1 1 rfl (by simp [maxLen])) (by simp [Value.oneCell']) (by omega) (by omega) (by omega) (by omega) ?_)
    intro v' w3 hown hx3
    obtain ⟨g, cap, rfl, hn5, hcap, _, _, hcells⟩ := own_pos hown (by omega)
    go_wp2
    refine ⟨hx3, ?_⟩
    refine wpQuiet_nil ?_
    have st3 := st2.ext hx3
    have hd := divide (x + y) m 5 cap g 0 w3 (by omega) (by omega) hN h1 hm (fun i hi => by
      rw [Nat.zero_add]
      refine hcells i _ ?_
      by_cases h4 : i < 4
      · rw [List.getElem?_append_left (by simp [wordA, arr_size]; exact h4), Array.getElem?_toList]; exact wordA_get (x + y) i h4
      · obtain rfl : i = 4 := by omega
        rw [List.getElem?_append_right (by simp [wordA, arr_size])]
        simp [wordA, arr_size])
    go_wp2_with (go_at_call 25; refine hd.mono ?_; rintro e w4 ⟨rfl, hw4⟩)
    refine ⟨hw4, ?_⟩
    repeat (go_big_quiet_step (fail))
    refine wpQuiet_nil ?_
    have st4 := st3.ext hw4
    have st5 := st4.setRow 2 rfl (wordA ((x + y) % m))
    have st6 := st5.setRow 2 rfl (wordA ((x + y) % m))
    go_wp2_with (first
      | refine stAll aggW (vs := wordA ((x + y) % m)) rfl _ _ rfl (by rfl) (by rfl) (st4.at 2 rfl) (by rfl) (by rfl) (wordA_mem _) ?_
      | refine ldAll aggW rfl _ rfl (by rfl) (st5.at 2 rfl) (by rfl) ?_
      | refine stAll aggW (vs := wordA ((x + y) % m)) rfl _ _ rfl (by rfl) (by rfl) (st5.at 2 rfl) (by rfl) (by rfl) (wordA_mem _) ?_)
    go_wp2
    refine bodyPost_ret (v := .agg _) (ret_cell aggW rfl rfl (st6.at 2 rfl) rfl) rfl ⟨rfl, st6.below⟩
end Wd
open Go.RowKit Rp Rg Ops Mm Ar Wm Eq'
namespace Wd
theorem bit_and (y t : Nat) : bits BinOp.and IntKind.u64 ((limb y (t / 64) : Int) / 2 ^ (t % 64)) 1 = ((y / 2 ^ t % 2 : Nat) : Int) := by
 have e2 : (limb y (t / 64) : Int) / 2 ^ (t % 64) = ((limb y (t / 64) / 2 ^ (t % 64) : Nat) : Int) := by simp
 have h1 := limb_lt y (t / 64)
 have h4 := Nat.div_le_self (limb y (t / 64)) (2 ^ (t % 64))
 have e3 := bits_and_u64_nat (limb y (t / 64) / 2 ^ (t % 64)) 1 (by unfold m64 at h1; omega) (by omega)
 rw [Nat.and_one_is_mod, limb_bit] at e3
 rw [e2]
 exact e3
set_option maxRecDepth 4000 in
set_option maxHeartbeats 4000000 in
theorem Exp (x y : Nat) (hy : y < M256) (w : World) : Calls Tryz.prog 33 #[.agg (wordA x), .agg (wordA y)] w fun e w' => e = .returned (.agg (wordA (x ^ y))) ∧ Ext w w' := by
  go_enter Tryz.func33, Tryz.ntmps33
  have s1 := (((St.start w).alloc (wordA x) 36).alloc' (wordA y) 36 (w.heap.size + 1) (by simp)).alloc' (arr 4 fun _ => u64V 0) 36 (w.heap.size + 1 + 1) (by simp)
  go_wp2_with (first
    | (go_at_call 29
       refine (IntW 1 (by unfold m64; omega) _).mono ?_
       rintro e w1 ⟨rfl, hw1⟩
       have s2 := (s1.ext hw1).alloc (arr 4 fun _ => .int .u64 0) 36
       have s3 := s2.setRow 0 rfl (wordA 1))
    | refine stAll aggW (vs := wordA 1) rfl _ _ rfl (by rfl) (by rfl) (s2.at 0 rfl) (by rfl) (by rfl) (wordA_mem _) ?_)
  go_wp2
  obtain ⟨G, hG⟩ : ∃ G, G = w1.heap.size := ⟨_, rfl⟩
  go_loopw [6] (fun i wr => ∃ (t : Nat) (z : Int), t ≤ 256 ∧ z = (t : Int) - 1 ∧ i = .int .i64 z ∧
      St w wr [(w1.heap.size, 36, wordA (x ^ (y / 2 ^ t))), (w.heap.size + 1 + 1, 36, arr 4 fun _ => u64V 0), (w.heap.size + 1, 36, wordA y), (w.heap.size, 36, wordA x)]) (fun i _ => (intOf i + 1).toNat)
  case atStart =>
    refine ⟨256, 255, by omega, rfl, rfl, ?_⟩
    have e : M256 = 2 ^ 256 := by unfold M256; rw [show m64 = 2 ^ 64 from rfl, ← Nat.pow_mul]
    rw [e] at hy
    rw [Nat.div_eq_of_lt hy, Nat.pow_zero]
    exact s3
  case round =>
    obtain ⟨t, z, ht, hz, rfl, st⟩ := hrel
    cases t with
    | zero =>
      obtain rfl : z = -1 := by omega
      clear hz
      simp only [Nat.pow_zero, Nat.div_one] at st
      have s2 := st.setRow 1 rfl (wordA (x ^ y))
      go_wp2_with (first
        | refine ldAll aggW rfl _ rfl (by rfl) (st.at 0 rfl) (by rfl) ?_
        | refine stAll aggW (vs := wordA (x ^ y)) rfl _ _ rfl (by rfl) (by rfl) (st.at 1 rfl) (by rfl) (by rfl) (wordA_mem _) ?_)
      go_wp2
      refine bodyPost_ret (v := .agg _) (ret_cell aggW rfl rfl (s2.at 1 rfl) rfl) rfl ⟨rfl, s2.below⟩
    | succ t =>
      obtain rfl : z = (t : Int) := by omega
      clear hz
      obtain ⟨X, hX⟩ : ∃ X, X = x ^ (y / 2 ^ (t + 1)) := ⟨_, rfl⟩
      rw [← hX] at st
      have hb := bit_and y t
      have hh := half_step y t
      have HX := Lib.hid (And.intro hX hh)
      clear hX hh
      by_cases hbit : y / 2 ^ t % 2 = 1
      · rw [hbit] at hb
        have hb' : (bits BinOp.and IntKind.u64 ((limb y (t / 64) : Int) / 2 ^ (t % 64)) 1 == 1) = true := by rw [hb]; rfl
        have HB := Lib.hid hbit
        clear hb hbit
        go_wp2_with (first
          | refine ldAll aggW rfl _ rfl (by rfl) (st.at 0 rfl) (by rfl) ?_
          | (go_at_call 31
             refine (Mul _ _ _).mono ?_
             rintro e w2 ⟨rfl, hw2⟩
             have st2 := st.ext hw2
             have st3 := st2.setRow 0 rfl (wordA (X * X))
             have c3 : (w2.setRow w1.heap.size (wordA (X * X))).cell? ⟨w.heap.size + 1, t / 64, none⟩ = some (.int .u64 (limb y (t / 64) : Int)) := st3.cell 2 rfl (t / 64) (wordA_get y _ (by omega)))
          | refine stAll aggW (vs := wordA (X * X)) rfl _ _ rfl (by rfl) (by rfl) (st2.at 0 rfl) (by rfl) (by rfl) (wordA_mem _) ?_
          | refine ldAll aggW rfl _ rfl (by rfl) (st3.at 0 rfl) (by rfl) ?_
          | refine ldAll aggW rfl _ rfl (by rfl) (st3.at 3 rfl) (by rfl) ?_
          | (go_at_call 31
             refine (Mul _ _ _).mono ?_
             rintro e w4 ⟨rfl, hw4⟩
             have st4 := st3.ext hw4
             have st5 := st4.setRow 0 rfl (wordA (X * X * x)))
          | refine stAll aggW (vs := wordA (X * X * x)) rfl _ _ rfl (by rfl) (by rfl) (st4.at 0 rfl) (by rfl) (by rfl) (wordA_mem _) ?_)
        go_wp2
        go_roundw
        case rel =>
          refine ⟨t, (t : Int) - 1, by omega, rfl, by simp, ?_⟩
          obtain ⟨h1, h2⟩ := HX.out
          rw [HB.out] at h2
          rw [show x ^ (y / 2 ^ t) = X * X * x from by rw [h2, h1, Nat.pow_add, Nat.two_mul, Nat.pow_add, Nat.pow_one]]
          exact st5
        case measure => simp [intOf]
      · have hbit : y / 2 ^ t % 2 = 0 := by omega
        rw [hbit] at hb
        have hb' : (bits BinOp.and IntKind.u64 ((limb y (t / 64) : Int) / 2 ^ (t % 64)) 1 == 1) = false := by rw [hb]; rfl
        have HB := Lib.hid hbit
        clear hb hbit
        go_wp2_with (first
          | refine ldAll aggW rfl _ rfl (by rfl) (st.at 0 rfl) (by rfl) ?_
          | (go_at_call 31
             refine (Mul _ _ _).mono ?_
             rintro e w2 ⟨rfl, hw2⟩
             have st2 := st.ext hw2
             have st3 := st2.setRow 0 rfl (wordA (X * X))
             have c3 : (w2.setRow w1.heap.size (wordA (X * X))).cell? ⟨w.heap.size + 1, t / 64, none⟩ = some (.int .u64 (limb y (t / 64) : Int)) := st3.cell 2 rfl (t / 64) (wordA_get y _ (by omega)))
          | refine stAll aggW (vs := wordA (X * X)) rfl _ _ rfl (by rfl) (by rfl) (st2.at 0 rfl) (by rfl) (by rfl) (wordA_mem _) ?_
          | refine ldAll aggW rfl _ rfl (by rfl) (st3.at 0 rfl) (by rfl) ?_
          | refine ldAll aggW rfl _ rfl (by rfl) (st3.at 3 rfl) (by rfl) ?_
          | (go_at_call 31
             refine (Mul _ _ _).mono ?_
             rintro e w4 ⟨rfl, hw4⟩
             have st4 := st3.ext hw4
             have st5 := st4.setRow 0 rfl (wordA (X * X * x)))
          | refine stAll aggW (vs := wordA (X * X * x)) rfl _ _ rfl (by rfl) (by rfl) (st4.at 0 rfl) (by rfl) (by rfl) (wordA_mem _) ?_)
        go_wp2
        go_roundw
        case rel =>
          refine ⟨t, (t : Int) - 1, by omega, rfl, by simp, ?_⟩
          obtain ⟨h1, h2⟩ := HX.out
          rw [HB.out] at h2
          rw [show x ^ (y / 2 ^ t) = X * X from by rw [h2, h1, Nat.add_zero, Nat.two_mul, Nat.pow_add]]
          exact st3
        case measure => simp [intOf]
end Wd
open Go.RowKit Rg Wm Ar
namespace Lf
theorem wV_eq {x y : Nat} (h : x % M256 = y % M256) : wV x = wV y := congrArg (fun l => V.a (l.map uK)) (limbs_eq h)
theorem mlt (x : Nat) : x % M256 < M256 := Nat.mod_lt _ M256_pos
theorem wV_mod (x : Nat) : wV (x % M256) = wV x := wV_eq (Nat.mod_mod _ _)
def qW (x y : Nat) : Nat := if y % M256 = 0 then 0 else x % M256 / (y % M256)
def rW (x y : Nat) : Nat := if y % M256 = 0 then 0 else x % M256 % (y % M256)
def amW (x y m : Nat) : Nat := if m % M256 = 0 then 0 else (x % M256 + y % M256) % (m % M256)
def mmW (x y m : Nat) : Nat := if m % M256 = 0 then 0 else x % M256 * (y % M256) % (m % M256)
theorem cmp_lt {x y : Nat} : Wd.cmp x y < 0 ↔ x % M256 < y % M256 := by
 unfold Wd.cmp
 split
 ·exact ⟨fun _ => by assumption, fun _ => by omega⟩
 ·split <;> exact ⟨fun h => by omega, fun h => by omega⟩
theorem cmp_gt {x y : Nat} : Wd.cmp x y > 0 ↔ y % M256 < x % M256 := by
 unfold Wd.cmp
 split
 ·exact ⟨fun h => by omega, fun h => by omega⟩
 ·split
  ·exact ⟨fun _ => by assumption, fun _ => by omega⟩
  ·exact ⟨fun h => by omega, fun h => by omega⟩
theorem exact_w3 (a b c : Nat) : ∀ (j : Nat) u z, [wV a, wV b, wV c][j]? = some u → [Value.agg (wordA a), .agg (wordA b), .agg (wordA c)][j]? = some z → Exact u z := ex3 (exact_word a) (exact_word b) (exact_word c)
namespace Wo
theorem Exp (x y : Nat) : LF Tryz.prog 33 [wV x, wV y] (fun _ => wV (x ^ (y % M256))) none := by
 rw [← wV_mod y]
 exact .of_calls (by kernel_rfl) rfl (ex2 (exact_word x) (exact_word _)) (exact_word _) fun w => Wd.Exp x (y % M256) (mlt y) w
theorem DivMod (x y : Nat) : LF Tryz.prog 17 [wV x, wV y] (fun _ => .t [wV (qW x y), wV (rW x y)]) none := by
 rw [← wV_mod x, ← wV_mod y]
 by_cases h : y % M256 = 0
 ·rw [h]
  have e1 : qW x y = 0 := by simp [qW, h]
  have e2 : rW x y = 0 := by simp [rW, h]
  rw [e1, e2]
  exact .of_calls (by kernel_rfl) rfl (ex2 (exact_word _) (exact_word _)) (exact_pair (exact_word _) (exact_word _)) fun w => Wd.DivMod_zero _ w
 ·have e1 : qW x y = x % M256 / (y % M256) := by simp [qW, h]
  have e2 : rW x y = x % M256 % (y % M256) := by simp [rW, h]
  rw [e1, e2]
  exact .of_calls (by kernel_rfl) rfl (ex2 (exact_word _) (exact_word _)) (exact_pair (exact_word _) (exact_word _)) fun w => Wd.DivMod _ _ (mlt x) (mlt y) (Nat.pos_of_ne_zero h) w
theorem AddMod (x y m : Nat) : LF Tryz.prog 82 [wV x, wV y, wV m] (fun _ => wV (amW x y m)) none := by
 rw [← wV_mod x, ← wV_mod y, ← wV_mod m]
 exact .of_calls (by kernel_rfl) rfl (exact_w3 _ _ _) (exact_word _) fun w => Wd.AddMod _ _ _ (mlt x) (mlt y) (mlt m) w
theorem MulMod (x y m : Nat) : LF Tryz.prog 83 [wV x, wV y, wV m] (fun _ => wV (mmW x y m)) none := by
 rw [← wV_mod x, ← wV_mod y, ← wV_mod m]
 exact .of_calls (by kernel_rfl) rfl (exact_w3 _ _ _) (exact_word _) fun w => Wd.MulMod _ _ _ (mlt x) (mlt y) (mlt m) w
end Wo
end Lf
open Go.RowKit Rg Wm Ar
namespace Lf
theorem parts (x : Nat) : x % M256 = limb x 0 + limb x 1 * 18446744073709551616 + limb x 2 * 340282366920938463463374607431768211456 + limb x 3 * 6277101735386680763835789423207666416102355444464034512896 := by
 have h := val_limb x 4
 have h1 : m64 ^ 1 = 18446744073709551616 := by unfold m64; decide
 have h2 : m64 ^ 2 = 340282366920938463463374607431768211456 := by unfold m64; decide
 have h3 : m64 ^ 3 = 6277101735386680763835789423207666416102355444464034512896 := by unfold m64; decide
 simp only [val, h1, h2, h3, Nat.pow_zero, Nat.mul_one, Nat.zero_add] at h
 exact h.symm
theorem far_iff (n : Nat) : 256 ≤ n % M256 ↔ 256 ≤ limb n 0 ∨ (limb n 1 ||| limb n 2 ||| limb n 3) ≠ 0 := by
 have hp := parts n
 have h0 := limb_lt64 n 0
 constructor
 ·intro h
  rcases Nat.lt_or_ge (limb n 0) 256 with h1 | h1
  ·refine .inr fun h2 => ?_
   rw [Nat.or_eq_zero_iff, Nat.or_eq_zero_iff] at h2
   omega
  ·exact .inl h1
 ·rintro (h | h)
  ·omega
  ·by_cases h1 : limb n 1 = 0
   ·by_cases h2 : limb n 2 = 0
    ·by_cases h3 : limb n 3 = 0
     ·exact absurd (by rw [h1, h2, h3]; rfl) h
     ·omega
    ·omega
   ·omega
theorem near_eq {n : Nat} (h : n % M256 < 256) : limb n 0 = n % M256 := by
 have hp := parts n
 omega
theorem minus_iff (x : Nat) : 2 ^ 255 ≤ x % M256 ↔ 9223372036854775808 ≤ limb x 3 := by
 have hp := parts x
 have h0 := limb_lt64 x 0
 have h1 := limb_lt64 x 1
 have h2 := limb_lt64 x 2
 have h3 := limb_lt64 x 3
 have e : (2 : Nat) ^ 255 = 57896044618658097711785492504343953926634992332820282019728792003956564819968 := by decide
 rw [e]
 omega
theorem limb_over {a i : Nat} (ha : a < 2 ^ 256) (hi : 4 ≤ i) : limb a i = 0 := by
 rw [limb_two, Nat.div_eq_of_lt (Nat.lt_of_lt_of_le ha (Nat.pow_le_pow_right (by decide) (by omega)))]
theorem shl_far {a n : Nat} (h : 256 ≤ n) : a * 2 ^ n % M256 = 0 % M256 := by
 obtain ⟨m, rfl⟩ : ∃ m, n = 256 + m := ⟨n - 256, by omega⟩
 rw [M256_two, Nat.pow_add, Nat.mul_left_comm, Nat.mul_mod_right, Nat.zero_mod]
theorem shr_far {a n : Nat} (h : 256 ≤ n) : a % M256 / 2 ^ n = 0 := by
 refine Nat.div_eq_of_lt (Nat.lt_of_lt_of_le (mlt a) ?_)
 rw [M256_two]; exact Nat.pow_le_pow_right (by decide) h
def sgn (x : Nat) : Bool := decide (2 ^ 255 ≤ x % M256)
def sarW (n a : Nat) : Nat := if 2 ^ 255 ≤ a % M256 then (if 256 ≤ n % M256 then notN 0 else (a % M256 / 2 ^ (n % M256)) ||| (notN 0 * 2 ^ (dif 256 n % M256))) else a % M256 / 2 ^ (n % M256)
def sizeW (x : Nat) : Nat := if 2 ^ 255 ≤ x % M256 then dif 0 x else x
def sqW (a b : Nat) : Nat := if sgn a = sgn b then qW (sizeW a) (sizeW b) else dif 0 (qW (sizeW a) (sizeW b))
def srW (a b : Nat) : Nat := if 2 ^ 255 ≤ a % M256 then dif 0 (rW (sizeW a) (sizeW b)) else rW (sizeW a) (sizeW b)
def scmp (a b : Nat) : Int := if sgn a = sgn b then Wd.cmp a b else Wd.cmp b a
def extW (k a : Nat) : Nat := if 31 ≤ k % M256 then a else sarW (8 * (31 - k % M256)) (a * 2 ^ (8 * (31 - k % M256) % M256))
def byteW (i a : Nat) : Nat := if 31 < i % M256 then 0 else ((wordB a).getD (i % M256) default).toNat
def bit4 (f : Nat → Nat) (i : Nat) : List Nat := (List.range 4).map fun j => if j < i then f j else 0
theorem bit4_len (f : Nat → Nat) (i : Nat) : (bit4 f i).length = 4 := by simp [bit4]
theorem bit4_full (x : Nat) : bit4 (limb x) 4 = limbs x := by simp [bit4, limbs, List.range, List.range.loop]
theorem bit4_set {f : Nat → Nat} {i b : Nat} (hb : b = f i) : (bit4 f i).set i b = bit4 f (i + 1) := by
 subst hb
 refine List.ext_getElem (by simp [bit4]) fun j h1 h2 => ?_
 simp only [bit4, List.getElem_set, List.getElem_map, List.getElem_range]
 by_cases h : i = j
 ·subst h; simp
 ·rw [if_neg h]
  by_cases h3 : j < i
  ·rw [if_pos h3, if_pos (by omega)]
  ·rw [if_neg h3, if_neg (by omega)]
theorem bit4_start {f : Nat → Nat} {k : Nat} (h : ∀ j, j < k → f j = 0) : bit4 f k = List.replicate 4 0 := by
 refine List.ext_getElem (by simp [bit4]) fun j h1 h2 => ?_
 simp only [bit4, List.getElem_map, List.getElem_range, List.getElem_replicate]
 split
 ·exact h j (by assumption)
 ·rfl
theorem bit4_end {f : Nat → Nat} {k : Nat} (h : ∀ j, k ≤ j → j < 4 → f j = 0) (hk : k ≤ 4) : bit4 f k = bit4 f 4 := by
 refine List.ext_getElem (by simp [bit4]) fun j h1 h2 => ?_
 simp only [bit4, List.getElem_map, List.getElem_range]
 have h3 : j < 4 := by simpa [bit4] using h1
 rw [if_pos h3]
 split
 ·rfl
 ·exact (h j (by omega) h3).symm
theorem bit4_lt {f : Nat → Nat} (hf : ∀ j, f j < 18446744073709551616) (i j : Nat) : (bit4 f i).getD j default < 18446744073709551616 := by
 rw [List.getD_eq_getElem?_getD]
 cases h : (bit4 f i)[j]? with
 | none => exact Nat.zero_lt_succ _
 | some x =>
  obtain ⟨k, _, rfl⟩ := List.mem_map.1 (List.mem_of_getElem? h)
  simp only [Option.getD_some]
  split
  ·exact hf k
  ·omega
theorem split64 {n : Nat} (h : n % M256 < 256) : n % M256 = 64 * ((limbs n).getD 0 default / 64) + (limbs n).getD 0 default % 64 ∧ (limbs n).getD 0 default / 64 < 4 := by
 rw [limbs_get n (by decide), near_eq h]
 omega
theorem tgetD_set {l : List Nat} {i b : Nat} (h : i < l.length) : (l.set i b).getD i default = b := by
 rw [List.getD_eq_getElem?_getD, List.getElem?_set_self h]; rfl
theorem shl_at (a k s i : Nat) (hs : s < 64) (hk : k ≤ i) (hi : i < 4) (L : List Nat) (hL : L = bit4 (limb (a * 2 ^ (64 * k + s))) i) : L.set i ((limbs a).getD (i - k) default * 2 ^ s % 2 ^ 64) = if k = i then bit4 (limb (a * 2 ^ (64 * k + s))) (i + 1) else L.set i ((limbs a).getD (i - k) default * 2 ^ s % 2 ^ 64) := by
 split
 ·rename_i e
  rw [hL]
  refine bit4_set ?_
  rw [limb_shl a k s i hs, if_neg (by omega), if_neg (by omega), limbs_get a (by omega), Nat.or_zero]
 ·rfl
theorem shl_or (a k s i : Nat) (hs : s < 64) (hk : k < i) (hi : i < 4) (L : List Nat) (hL : L = bit4 (limb (a * 2 ^ (64 * k + s))) i) (X : Nat) (hX : X = (limbs a).getD (i - k) default * 2 ^ s % 2 ^ 64) : (L.set i X).set i (X ||| (limbs a).getD (i - k - 1) default / 2 ^ (64 - s)) = bit4 (limb (a * 2 ^ (64 * k + s))) (i + 1) := by
 rw [List.set_set, hL, hX]
 refine bit4_set ?_
 rw [limb_shl a k s i hs, if_neg (by omega), if_pos hk, limbs_get a (by omega), limbs_get a (by omega)]
theorem shr_one (a k s i : Nat) (hs : s < 64) (ha : a < 2 ^ 256) (hi : i + k < 4) (h3 : ¬ i + k < 3) (L : List Nat) (hL : L = bit4 (limb (a / 2 ^ (64 * k + s))) i) : L.set i ((limbs a).getD (i + k) default / 2 ^ s) = bit4 (limb (a / 2 ^ (64 * k + s))) (i + 1) := by
 rw [hL]
 refine bit4_set ?_
 rw [limb_shr a k s i hs ha, if_neg h3, limbs_get a (by omega), Nat.or_zero]
theorem shr_or (a k s i : Nat) (hs : s < 64) (ha : a < 2 ^ 256) (h3 : i + k < 3) (L : List Nat) (hL : L = bit4 (limb (a / 2 ^ (64 * k + s))) i) (X : Nat) (hX : X = (limbs a).getD (i + k) default / 2 ^ s) : (L.set i X).set i (X ||| (limbs a).getD (i + k + 1) default * 2 ^ (64 - s) % 2 ^ 64) = bit4 (limb (a / 2 ^ (64 * k + s))) (i + 1) := by
 rw [List.set_set, hL, hX]
 refine bit4_set ?_
 rw [limb_shr a k s i hs ha, if_pos h3, limbs_get a (by omega), limbs_get a (by omega)]
theorem shr_end (a k s : Nat) (hs : s < 64) (ha : a < 2 ^ 256) (hk : k < 4) : bit4 (limb (a / 2 ^ (64 * k + s))) (4 - k) = limbs (a / 2 ^ (64 * k + s)) := by
 rw [← bit4_full]
 refine bit4_end (fun j h1 h2 => ?_) (by omega)
 rw [limb_shr a k s j hs ha, if_neg (by omega), limb_over ha (by omega), Nat.zero_div, Nat.or_zero]
theorem shl_start (a k s : Nat) (hs : s < 64) : List.replicate 4 0 = bit4 (limb (a * 2 ^ (64 * k + s))) k :=
 (bit4_start fun j hj => by rw [limb_shl a k s j hs, if_pos hj]).symm
end Lf
open Go.RowKit Rg
set_option maxRecDepth 100000
namespace Lf
def NE (a b : Int) : Prop := ¬ a = b
end Lf
namespace Cn
def digs : List UInt8 := [48, 49, 50, 51, 52, 53, 54, 55, 56, 57, 97, 98, 99, 100, 101, 102, 103, 104, 105, 106, 107, 108, 109, 110, 111, 112, 113, 114, 115, 116, 117, 118, 119, 120, 121, 122]
def digs2 : List UInt8 := [48, 48, 48, 49, 48, 50, 48, 51, 48, 52, 48, 53, 48, 54, 48, 55, 48, 56, 48, 57, 49, 48, 49, 49, 49, 50, 49, 51, 49, 52, 49, 53, 49, 54, 49, 55, 49, 56, 49, 57, 50, 48, 50, 49, 50, 50, 50, 51, 50, 52, 50, 53, 50, 54, 50, 55, 50, 56, 50, 57, 51, 48, 51, 49, 51, 50, 51, 51, 51, 52, 51, 53, 51, 54, 51, 55, 51, 56, 51, 57, 52, 48, 52, 49, 52, 50, 52, 51, 52, 52, 52, 53, 52, 54, 52, 55, 52, 56, 52, 57, 53, 48, 53, 49, 53, 50, 53, 51, 53, 52, 53, 53, 53, 54, 53, 55, 53, 56, 53, 57, 54, 48, 54, 49, 54, 50, 54, 51, 54, 52, 54, 53, 54, 54, 54, 55, 54, 56, 54, 57, 55, 48, 55, 49, 55, 50, 55, 51, 55, 52, 55, 53, 55, 54, 55, 55, 55, 56, 55, 57, 56, 48, 56, 49, 56, 50, 56, 51, 56, 52, 56, 53, 56, 54, 56, 55, 56, 56, 56, 57, 57, 48, 57, 49, 57, 50, 57, 51, 57, 52, 57, 53, 57, 54, 57, 55, 57, 56, 57, 57]
def itoa (n : Nat) : List UInt8 := if n < 10 then (digs.drop n).take (n + 1 - n) else (digs2.drop (n * 2)).take (n * 2 + 2 - n * 2)
theorem itoa_len {n : Nat} (h : n < 100) : (itoa n).length ≤ 2 ∧ 0 < (itoa n).length := by
 have h1 : digs.length = 36 := by decide
 have h2 : digs2.length = 200 := by decide
 unfold itoa
 split <;> simp only [List.length_take, List.length_drop] <;> omega
def rkN (n : Nat) : List UInt8 := if n = 0 then [115, 116, 111, 112] else if n = 1 then [97, 100, 100] else if n = 2 then [109, 117, 108] else if n = 3 then [115, 117, 98] else if n = 4 then [100, 105, 118] else if n = 5 then [115, 100, 105, 118] else if n = 6 then [109, 111, 100] else if n = 7 then [115, 109, 111, 100] else if n = 8 then [97, 100, 100, 109, 111, 100] else if n = 9 then [109, 117, 108, 109, 111, 100] else if n = 10 then [101, 120, 112] else if n = 11 then [101, 120, 116, 101, 110, 100] else if n = 16 then [108, 116] else if n = 17 then [103, 116] else if n = 18 then [115, 108, 116] else if n = 19 then [115, 103, 116] else if n = 20 then [101, 113] else if n = 21 then [122, 101, 114, 111] else if n = 22 then [97, 110, 100] else if n = 23 then [111, 114] else if n = 24 then [120, 111, 114] else if n = 25 then [110, 111, 116] else if n = 26 then [98, 121, 116, 101] else if n = 27 then [115, 104, 108] else if n = 28 then [115, 104, 114] else if n = 29 then [115, 97, 114] else []
def otN (n : Nat) : List UInt8 := if n = 32 then [115, 117, 109] else if n = 48 then [115, 101, 108, 102] else if n = 49 then [109, 111, 110, 101, 121] else if n = 50 then [99, 97, 108, 108, 101, 114] else if n = 51 then [118, 97, 108, 117, 101] else if n = 52 then [105, 110, 119, 111, 114, 100] else if n = 53 then [105, 110, 115, 105, 122, 101] else if n = 54 then [105, 110, 99, 111, 112, 121] else if n = 55 then [99, 111, 100, 101, 115, 105, 122, 101] else if n = 56 then [98, 97, 99, 107, 115, 105, 122, 101] else if n = 57 then [98, 97, 99, 107, 99, 111, 112, 121] else if n = 64 then [116, 105, 109, 101] else if n = 65 then [110, 117, 109, 98, 101, 114] else if n = 66 then [107, 101, 101, 112, 101, 114] else if n = 80 then [112, 111, 112] else if n = 81 then [108, 111, 97, 100] else if n = 82 then [115, 116, 111, 114, 101] else if n = 83 then [115, 116, 111, 114, 101, 56] else if n = 84 then [115, 108, 111, 116] else if n = 85 then [107, 101, 101, 112] else if n = 86 then [106, 117, 109, 112] else if n = 87 then [98, 114, 97, 110, 99, 104] else if n = 88 then [112, 99] else if n = 89 then [115, 105, 122, 101] else if n = 90 then [103, 97, 115] else if n = 91 then [108, 97, 110, 100] else if n = 240 then [109, 97, 107, 101] else if n = 241 then [99, 97, 108, 108] else if n = 242 then [114, 101, 116, 117, 114, 110] else if n = 243 then [108, 111, 111, 107] else if n = 244 then [108, 101, 110, 100] else if n = 253 then [114, 101, 118, 101, 114, 116] else []
def pushed (n : Nat) : Nat := if 96 ≤ n ∧ n < 128 then n - 95 else 0
def name (n : Nat) : List UInt8 := if 96 ≤ n ∧ n < 128 then [112, 117, 115, 104] ++ itoa (n - 96 + 1) else if 128 ≤ n ∧ n < 144 then [100, 117, 112] ++ itoa (n - 128 + 1) else if 144 ≤ n ∧ n < 160 then [115, 119, 97, 112] ++ itoa (n - 144 + 1) else if 160 ≤ n ∧ n ≤ 162 then [108, 111, 103] ++ itoa (n - 160) else if n < 32 then rkN n else otN n
end Cn
open Wm Ar
set_option maxRecDepth 20000
namespace Hx
def ud (c : Nat) : UInt8 := if 48 ≤ c ∧ c ≤ 57 then UInt8.ofNat (c - 48) else if 97 ≤ c ∧ c ≤ 102 then UInt8.ofNat (c - 87) else 16
def hv : List UInt8 → List UInt8
 | [] => []
 | x :: l => UInt8.ofNat (x.toNat / 16) :: UInt8.ofNat (x.toNat % 16) :: hv l
def digs : List UInt8 → Option (List UInt8)
 | [] => some []
 | c :: l => if (ud c.toNat).toNat ≤ 15 then (digs l).map (ud c.toNat :: ·) else none
end Hx
open Wm Ar
set_option maxRecDepth 100000
namespace Co
abbrev psh (b : UInt8) : Nat := Cn.pushed b.toNat
theorem psh_le (b : UInt8) : psh b ≤ 32 := by
 unfold psh Cn.pushed
 split <;> omega
def nxt (c : List UInt8) (p : Nat) : Nat := min (p + 1 + psh (c.getD p default)) c.length
theorem nxt_gt {c : List UInt8} {p : Nat} (h : p < c.length) : p < nxt c p := by
 unfold nxt
 omega
theorem nxt_le (c : List UInt8) (p : Nat) : nxt c p ≤ c.length := Nat.min_le_right _ _
def pcs (c : List UInt8) : Nat → Nat → List Nat
 | 0, _ => []
 | k + 1, p => if p < c.length then p :: pcs c k (nxt c p) else []
theorem pcs_fuel (c : List UInt8) : ∀ k p, c.length - p ≤ k → pcs c k p = pcs c (c.length - p) p
 | 0, p, h => by rw [show c.length - p = 0 by omega]
 | k + 1, p, h => by
  by_cases hp : p < c.length
  ·have hg := nxt_gt hp
   obtain ⟨j, hj⟩ : ∃ j, c.length - p = j + 1 := ⟨c.length - p - 1, by omega⟩
   rw [hj]
   simp only [pcs, if_pos hp]
   rw [pcs_fuel c k (nxt c p) (by omega), pcs_fuel c j (nxt c p) (by omega)]
  ·rw [show c.length - p = 0 by omega]
   simp only [pcs, if_neg hp]
def plc (c : List UInt8) (p : Nat) : List Nat := pcs c (c.length - p) p
theorem plc_at {c : List UInt8} {p : Nat} (h : p < c.length) : plc c p = p :: plc c (nxt c p) := by
 have hg := nxt_gt h
 obtain ⟨j, hj⟩ : ∃ j, c.length - p = j + 1 := ⟨c.length - p - 1, by omega⟩
 unfold plc
 rw [hj]
 simp only [pcs, if_pos h]
 rw [pcs_fuel c j (nxt c p) (by omega)]
theorem plc_end {c : List UInt8} {p : Nat} (h : c.length ≤ p) : plc c p = [] := by
 unfold plc
 rw [show c.length - p = 0 by omega]
 rfl
theorem plc_ind {c : List UInt8} {P : Nat → Prop} (h0 : ∀ p, c.length ≤ p → P p) (h1 : ∀ p, p < c.length → P (nxt c p) → P p) (p : Nat) : P p := by
 have : ∀ k p, c.length - p ≤ k → P p := by
  intro k
  induction k with
  | zero => exact fun p h => h0 p (by omega)
  | succ k ih =>
   intro p h
   by_cases hp : p < c.length
   ·have hg := nxt_gt hp
    exact h1 p hp (ih _ (by omega))
   ·exact h0 p (by omega)
 exact this _ p (Nat.le_refl _)
theorem plc_mem {c : List UInt8} : ∀ p, ∀ x ∈ plc c p, p ≤ x ∧ x < c.length := plc_ind (fun p h x hx => by rw [plc_end h] at hx; cases hx) (fun p h ih x hx => by
 rw [plc_at h] at hx
 rcases List.mem_cons.1 hx with rfl | hx
 ·exact ⟨Nat.le_refl _, h⟩
 ·have hg := nxt_gt h
  have := ih x hx
  omega)
theorem plc_lt {c : List UInt8} : ∀ p, List.Pairwise (· < ·) (plc c p) := plc_ind (fun p h => by rw [plc_end h]; exact .nil) (fun p h ih => by
 rw [plc_at h]
 refine .cons (fun x hx => ?_) ih
 have := plc_mem _ x hx
 have hg := nxt_gt h
 omega)
def lands (c : List UInt8) : List Nat := (plc c 0).filter fun p => c.getD p default == 91
end Co
end Go.Proofs.YtffaobngpbaklaaGreatDoor

/- A part of the proof: texts joined. -/
import Derived.Test.YtkbimhccaacobaaProg
import Derived.Shelf.Bits.Mul64
import Derived.Test.YtkbimhccaacobaaQ50756c6
namespace Go.Proofs.Ytkbimhccaacobaa
namespace Ps
def pos (B : Nat) : List Nat → Nat
 | [] => 0
 | a :: l => a * B ^ l.length + pos B l
def NL (l : List Nat) : Prop := l.head? ≠ some 0
def lexN : List Nat → List Nat → Bool
 | a :: l, b :: m => decide (a < b) || (decide (a = b) && lexN l m)
 | [], _ :: _ => true
 | _, [] => false
theorem pos_append (B : Nat) (l m : List Nat) : pos B (l ++ m) = pos B l * B ^ m.length + pos B m := by
 induction l with
 | nil => simp [pos]
 | cons a l ih =>
  simp only [List.cons_append, pos, ih, List.length_append, Nat.pow_add, Nat.add_mul, Nat.mul_assoc, Nat.add_assoc]
theorem pos_lt {B : Nat} {l : List Nat} (h : ∀ a ∈ l, a < B) : pos B l < B ^ l.length := by
 induction l with
 | nil => simp [pos]
 | cons a l ih =>
  have h1 := ih fun x hx => h x (by simp [hx])
  have h2 : (a + 1) * B ^ l.length ≤ B * B ^ l.length := Nat.mul_le_mul_right _ (h a (by simp))
  simp only [pos, List.length_cons, Nat.pow_succ]
  rw [Nat.mul_comm (B ^ l.length) B]
  rw [Nat.add_mul, Nat.one_mul] at h2
  omega
theorem pos_ge {B : Nat} {a : Nat} {l : List Nat} (h : a ≠ 0) : B ^ l.length ≤ pos B (a :: l) := by
 simp only [pos]
 have : 1 * B ^ l.length ≤ a * B ^ l.length := Nat.mul_le_mul_right _ (by omega)
 omega
theorem pos_lex {B : Nat} : ∀ {l m : List Nat}, l.length = m.length → (∀ a ∈ l, a < B) → (∀ a ∈ m, a < B) → (pos B l < pos B m ↔ lexN l m = true)
 | [], [], _, _, _ => by simp [pos, lexN]
 | a :: l, b :: m, hl, h1, h2 => by
  have hl' : l.length = m.length := by simpa using hl
  have ih := pos_lex hl' (fun x hx => h1 x (by simp [hx])) (fun x hx => h2 x (by simp [hx]))
  have k1 := pos_lt (B := B) (l := l) fun x hx => h1 x (by simp [hx])
  have k2 := pos_lt (B := B) (l := m) fun x hx => h2 x (by simp [hx])
  simp only [pos, lexN, Bool.or_eq_true, Bool.and_eq_true, decide_eq_true_eq, ← ih]
  rw [← hl'] at k2 ⊢
  generalize B ^ l.length = p at *
  rcases Nat.lt_trichotomy a b with h | h | h
  ·have := Nat.mul_le_mul_right p (Nat.succ_le_of_lt h)
   rw [Nat.succ_mul] at this
   exact ⟨fun _ => .inl h, fun _ => by omega⟩
  ·subst h
   exact ⟨fun k => .inr ⟨rfl, by omega⟩, fun k => by rcases k with k | k <;> omega⟩
  ·have := Nat.mul_le_mul_right p (Nat.succ_le_of_lt h)
   rw [Nat.succ_mul] at this
   exact ⟨fun k => by omega, fun k => by rcases k with k | k <;> omega⟩
 | [], _ :: _, hl, _, _ => by simp at hl
 | _ :: _, [], hl, _, _ => by simp at hl
theorem pos_len {B : Nat} {l m : List Nat} (hB : 0 < B) (hl : l.length < m.length) (h1 : ∀ a ∈ l, a < B) (hm : NL m) : pos B l < pos B m := by
 cases m with
 | nil => simp at hl
 | cons b m =>
  have h2 : b ≠ 0 := fun e => hm (by simp [e])
  have := pos_ge (B := B) (l := m) h2
  have k := pos_lt h1
  have : B ^ l.length ≤ B ^ m.length := Nat.pow_le_pow_right hB (by simp at hl; omega)
  omega
theorem pos_order {B : Nat} {l m : List Nat} (hB : 0 < B) (h1 : ∀ a ∈ l, a < B) (h2 : ∀ a ∈ m, a < B) (k1 : NL l) (k2 : NL m) : pos B l < pos B m ↔ l.length < m.length ∨ (l.length = m.length ∧ lexN l m = true) := by
 rcases Nat.lt_trichotomy l.length m.length with h | h | h
 ·exact ⟨fun _ => .inl h, fun _ => pos_len hB h h1 k2⟩
 ·rw [pos_lex h h1 h2]
  exact ⟨fun k => .inr ⟨h, k⟩, fun k => by rcases k with k | k <;> first | omega | exact k.2⟩
 ·have := pos_len hB h h2 k1
  exact ⟨fun k => by omega, fun k => by omega⟩
theorem lexN_eq : ∀ {l m : List Nat}, l.length = m.length → lexN l m = false → lexN m l = false → l = m
 | [], [], _, _, _ => rfl
 | a :: l, b :: m, hl, h1, h2 => by
  simp only [lexN, Bool.or_eq_false_iff, Bool.and_eq_false_iff, decide_eq_false_iff_not] at h1 h2
  obtain rfl : a = b := by omega
  rw [lexN_eq (l := l) (m := m) (by simpa using hl) (by rcases h1.2 with h | h; exact absurd rfl h; exact h) (by rcases h2.2 with h | h; exact absurd rfl h; exact h)]
 | [], _ :: _, hl, _, _ => by simp at hl
 | _ :: _, [], hl, _, _ => by simp at hl
theorem pos_inj {B : Nat} {l m : List Nat} (hB : 0 < B) (h1 : ∀ a ∈ l, a < B) (h2 : ∀ a ∈ m, a < B) (k1 : NL l) (k2 : NL m) (h : pos B l = pos B m) : l = m := by
 have e1 := pos_order hB h1 h2 k1 k2
 have e2 := pos_order hB h2 h1 k2 k1
 have n1 : ¬ (l.length < m.length ∨ (l.length = m.length ∧ lexN l m = true)) := fun h' => by have := e1.2 h'; omega
 have n2 : ¬ (m.length < l.length ∨ (m.length = l.length ∧ lexN m l = true)) := fun h' => by have := e2.2 h'; omega
 have hl : l.length = m.length := by omega
 refine lexN_eq hl ?_ ?_
 ·rw [← Bool.not_eq_true]; exact fun h' => n1 (.inr ⟨hl, h'⟩)
 ·rw [← Bool.not_eq_true]; exact fun h' => n2 (.inr ⟨hl.symm, h'⟩)
def strip (l : List UInt8) : List UInt8 := l.dropWhile (· == 0)
def nat8 (l : List UInt8) : List Nat := l.map UInt8.toNat
theorem nat8_lt (l : List UInt8) : ∀ a ∈ nat8 l, a < 256 := fun a ha => by
 obtain ⟨x, _, rfl⟩ := List.mem_map.1 ha
 exact x.toNat_lt
theorem nat8_inj {l m : List UInt8} (h : nat8 l = nat8 m) : l = m := by
 induction l generalizing m with
 | nil => cases m with
  | nil => rfl
  | cons _ _ => simp [nat8] at h
 | cons a l ih => cases m with
  | nil => simp [nat8] at h
  | cons b m =>
   simp only [nat8, List.map_cons, List.cons.injEq] at h
   rw [UInt8.toNat_inj.1 h.1, ih h.2]
theorem strip_nl (l : List UInt8) : NL (nat8 (strip l)) := by
 unfold strip
 induction l with
 | nil => simp [NL, nat8]
 | cons a l ih =>
  rw [List.dropWhile_cons]
  split
  ·exact ih
  ·rename_i h
   intro e
   simp only [nat8, List.map_cons, List.head?_cons, Option.some.injEq] at e
   apply h
   have : a = 0 := UInt8.toNat_inj.1 (by rw [e]; rfl)
   simp [this]
theorem strip_pos (B : Nat) (l : List UInt8) : pos B (nat8 (strip l)) = pos B (nat8 l) := by
 unfold strip
 induction l with
 | nil => rfl
 | cons a l ih =>
  rw [List.dropWhile_cons]
  split
  ·rename_i h
   have : a = 0 := by simpa using h
   subst this
   rw [ih]
   simp [nat8, pos]
  ·rfl
theorem nl_iff (l : List UInt8) : NL (nat8 l) ↔ l.head? ≠ some 0 := by
 cases l with
 | nil => simp [NL, nat8]
 | cons a l =>
  simp only [NL, nat8, List.map_cons, List.head?_cons, ne_eq, Option.some.injEq]
  constructor
  ·intro h e; apply h; rw [e]; rfl
  ·intro h e; apply h; exact UInt8.toNat_inj.1 (by rw [e]; rfl)
theorem strip_id {l : List UInt8} (h : l.head? ≠ some 0) : strip l = l := by
 cases l with
 | nil => rfl
 | cons a l =>
  unfold strip
  rw [List.dropWhile_cons, if_neg]
  intro e
  apply h
  have : a = 0 := by simpa using e
  rw [this]; rfl
def beN (l : List UInt8) : Nat := pos 256 (nat8 l)
theorem beN_lt (l : List UInt8) : beN l < 256 ^ l.length := by
 have := pos_lt (nat8_lt l)
 rwa [show (nat8 l).length = l.length by simp [nat8]] at this
theorem beN_strip (l : List UInt8) : beN (strip l) = beN l := strip_pos 256 l
theorem beN_inj {l m : List UInt8} (k1 : l.head? ≠ some 0) (k2 : m.head? ≠ some 0) (h : beN l = beN m) : l = m :=
 nat8_inj (pos_inj (by decide) (nat8_lt l) (nat8_lt m) ((nl_iff l).2 k1) ((nl_iff m).2 k2) h)
theorem strip_head (l : List UInt8) : (strip l).head? ≠ some 0 := (nl_iff _).1 (strip_nl l)
end Ps
open Go.RowKit
namespace Rf
open Rg (noCall noCall_spec np wp_monoQ wpOp_monoQ Closed Closed.step waits waitsB waits_listed nth pick freeW chkS chkT chk planSize nth_of)
structure Ext (F : Nat → Prop) (w w' : World) : Prop where
 size : w.heap.size ≤ w'.heap.size
 block : ∀ k, k < w.heap.size → F k → w'.heap[k]? = w.heap[k]?
theorem Ext.refl {F : Nat → Prop} (w : World) : Ext F w w := ⟨Nat.le_refl _, fun _ _ _ => rfl⟩
theorem Ext.trans {F : Nat → Prop} {a b c : World} (h : Ext F a b) (k : Ext F b c) : Ext F a c := ⟨Nat.le_trans h.size k.size, fun i hi hF => (k.block i (Nat.lt_of_lt_of_le hi h.size) hF).trans (h.block i hi hF)⟩
theorem Ext.of {F : Nat → Prop} {w w' : World} (h : Rg.Ext w w') : Ext F w w' := ⟨h.size, fun k hk _ => h.block k hk⟩
theorem Ext.setCell {F : Nat → Prop} (w : World) (p : Addr) (u : Value) (h : ¬ F p.block) : Ext F w (w.setCell p u) :=
 ⟨by simp, fun k _ hF => Below.heap_setCell w p u k (fun e => h (e ▸ hF))⟩
theorem Ext.setRow {F : Nat → Prop} (w : World) (g : Nat) (cs : Array Value) (h : ¬ F g) : Ext F w (w.setRow g cs) :=
 ⟨by simp, fun k _ hF => setRow_other w g k cs (fun e => h (e ▸ hF))⟩
structure Lt (F : Nat → Prop) (w : World) where
 v : World
 ext : Ext F w v
instance (F : Nat → Prop) (w : World) : Nonempty (Lt F w) := ⟨⟨w, Ext.refl w⟩⟩
def Cls (F : Nat → Prop) (w : World) (w' : World) : Prop := ∃ x : Lt F w, w' = x.v
theorem Cls.mk {F : Nat → Prop} {w w' : World} (h : Ext F w w') : Cls F w w' := ⟨⟨w', h⟩, rfl⟩
@[go_sem] theorem cls_iff (F : Nat → Prop) (w w' : World) : Cls F w w' ↔ ∃ x : Lt F w, w' = x.v := Iff.rfl
theorem Ext.cell {F : Nat → Prop} {w w' : World} (h : Ext F w w') {a : Addr} {v : Value} (hc : w.cell? a = some v) (hF : F a.block) : w'.cell? a = some v := by
 rw [World.cell?_of_block (w := w) (h.block a.block (World.block_lt_of_cell? w a hc) hF)]; exact hc
theorem later {F : Nat → Prop} {w : World} {a : Addr} {v : Value} (hc : w.cell? a = some v) (hF : F a.block) : ∀ x : Lt F w, x.v.cell? a = some v := fun x => x.ext.cell hc hF
section
variable {F : Nat → Prop} {P : Program} {ops : Array Oper} {Q : Exit → Act → World → Prop} {md : Region.Mode}
def Yld (F : Nat → Prop) (P : Program) (ops : Array Oper) (w : World) (o : Oper) (v : Value) (a : Act) : Prop :=
 (Region.wanted o (yielded ops a.tmps) = true ∧ ∀ w', Ext F w w' → (execOp a.eval o).run P w' = .ok (.value v) w' ∨ ((execOp a.eval o).run P w' = .ok .skip w' ∧ v = undef)) ∨
 (Region.wanted o (yielded ops a.tmps) = false ∧ v = undef)
theorem Yld.later {w w1 : World} {o : Oper} {v : Value} {a : Act} (h : Yld F P ops w o v a) (he : Ext F w w1) : Yld F P ops w1 o v a := by
 rcases h with ⟨hw, h⟩ | h
 ·exact .inl ⟨hw, fun w' hw' => h w' (he.trans hw')⟩
 ·exact .inr h
theorem Yld.of_same {w : World} {o : Oper} {v : Value} {a a' : Act} (hy : Yld F P ops w o v a) (he : execOp a'.eval o = execOp a.eval o)
  (hw : Region.wanted o (yielded ops a'.tmps) = Region.wanted o (yielded ops a.tmps)) : Yld F P ops w o v a' := by
 unfold Yld at *
 rw [he, hw]
 exact hy
theorem Yld.wpOp {w : World} {i : Nat} {o : Oper} {v : Value} {a : Act} (hi : ops[i]? = some o) (hy : Yld F P ops w o v a) {K : Act → World → Prop} (h : K (a.put o.dst v) w) : wpOp P ops Q i K a w := by
 unfold Go.wpOp
 simp only [hi]
 rcases hy with ⟨hw, hv⟩ | ⟨hw, rfl⟩
 ·rw [if_pos hw]
  refine .inl ?_
  unfold Oper.wp
  rcases hv w (Ext.refl w) with hx | ⟨hx, rfl⟩
  ·rw [hx]; exact h
  ·rw [hx]; exact h
 ·simp only [hw, Bool.false_eq_true, if_false]; exact h
theorem yld_of_quiet {w : World} {o : Oper} {a : Act} {K : Act → Prop} (hn : noCall o.op = true)
  (h : if Region.wanted o (yielded ops a.tmps) then o.quiet P a (Cls F w) K else K (a.put o.dst undef)) : ∃ v, Yld F P ops w o v a ∧ K (a.put o.dst v) := by
 by_cases hw : Region.wanted o (yielded ops a.tmps) = true
 ·simp only [hw, if_true] at h
  obtain ⟨v, h1, h2⟩ := h
  refine ⟨v, .inl ⟨hw, fun w' hw' => ?_⟩, h2⟩
  have h3 := h1 w' (Cls.mk hw')
  unfold Oper.quietAt at h3
  have hne := fun f args w'' => noCall_spec (P := P) hn a.eval w' f args w''
  generalize (execOp a.eval o).run P w' = r at *
  cases r with
  | halt x w'' => simp only [Oper.quietUpon] at h3
  | ok n w'' =>
   cases n <;> simp only [Oper.quietUpon] at h3
   case value u => obtain ⟨rfl, rfl⟩ := h3; exact .inl rfl
   case skip => obtain ⟨rfl, rfl⟩ := h3; exact .inr ⟨rfl, rfl⟩
   case enter f args => exact absurd rfl (hne f args w'')
 ·simp only [hw] at h
  exact ⟨undef, .inr ⟨by simpa using hw, rfl⟩, h⟩
def anyE (F : Nat → Prop) (P : Program) (md : Region.Mode) (ops : Array Oper) (Q : Exit → Act → World → Prop) (tl : List Nat) (wb : World) : Nat → Array Bool → Act → World → Prop
 | 0, listed, a, w => Region.ready md ops listed = [] ∧ Q .normal a w
 | fuel + 1, listed, a, w =>
  (Region.ready md ops listed = [] → Q .normal a w) ∧
  ∀ i ∈ Region.ready md ops listed, wpOp P ops (if tl.contains i then Q else np Q) i (fun a' w' => (tl.contains i = false → Ext F wb w') ∧ anyE F P md ops Q tl wb fuel (listed.setIfInBounds i true) a' w') a w
theorem anyE_any {tl : List Nat} {wb : World} : ∀ (fuel : Nat) (listed : Array Bool) (a : Act) (w : World), anyE F P md ops Q tl wb fuel listed a w → wpAny P md ops Q fuel listed a w
 | 0, _, _, _, h => h
 | fuel + 1, _, _, _, h => ⟨h.1, fun i hi => wpOp_monoQ (fun c a w hq => by split at hq; exact hq; exact hq.2) (fun a w hq => by split at hq; exact hq; exact hq.2) (wpOp_mono (fun a' w' h' => anyE_any fuel _ a' w' h'.2) (h.2 i hi))⟩
theorem anyE_base {tl : List Nat} {wb wb' : World} (he : Ext F wb wb') : ∀ (fuel : Nat) (listed : Array Bool) (a : Act) (w : World), anyE F P md ops Q tl wb' fuel listed a w → anyE F P md ops Q tl wb fuel listed a w
 | 0, _, _, _, h => h
 | fuel + 1, _, _, _, h => ⟨h.1, fun i hi => wpOp_mono (fun a' w' h' => ⟨fun ht => he.trans (h'.1 ht), anyE_base he fuel _ a' w' h'.2⟩) (h.2 i hi)⟩
theorem anyE_first {tl : List Nat} {wb : World} {i : Nat} {oi : Oper} {v : Value} {W : Array Nat} (hW : waitsB md ops W = true) (hi : ops[i]? = some oi)
    (hsel : ∀ (j : Nat) (o : Oper) cs b, ops[j]? = some o → o.op ≠ .select cs b) :
    ∀ (fuel : Nat) (listed : Array Bool) (a : Act) (w : World), Closed md ops listed → Ext F wb w →
      (∀ j oj, ops[j]? = some oj → j ≠ i → listed.getD j true = false → waits W j i = true ∨ (oi.apart ops oj = true ∧ tl.contains j = false)) →
      i ∈ Region.ready md ops listed → Yld F P ops wb oi v a →
      anyE F P md ops Q tl wb fuel (listed.setIfInBounds i true) (a.put oi.dst v) w → anyE F P md ops Q tl wb (fuel + 1) listed a w := by
  intro fuel
  induction fuel with
  | zero =>
    intro listed a w hc hwb hfree hr hy H
    refine ⟨fun h => (by rw [h] at hr; cases hr), fun j hj => ?_⟩
    by_cases hji : j = i
    · subst hji; exact (hy.later hwb).wpOp hi ⟨fun _ => hwb, H⟩
    · have := ready_mono hj hji
      rw [H.1] at this
      cases this
  | succ fuel ih =>
    intro listed a w hc hwb hfree hr hy H
    refine ⟨fun h => (by rw [h] at hr; cases hr), fun j hj => ?_⟩
    by_cases hji : j = i
    · subst hji; exact (hy.later hwb).wpOp hi ⟨fun _ => hwb, H⟩
    · have h1 := H.2 j (ready_mono hj hji)
      obtain ⟨hjun, oj, hoj, hall⟩ := mem_ready.1 hj
      have hilt : i < ops.size := (Array.getElem?_eq_some_iff.1 hi).1
      have hiun : listed.getD i false = false := by
        have h0 := (mem_ready.1 hr).1
        rcases Nat.lt_or_ge i listed.size with h' | h'
        · simpa [h'] using h0
        · simp [Array.getElem?_eq_none h']
      have hap : oi.apart ops oj = true ∧ tl.contains j = false := by
        rcases hfree j oj hoj hji hjun with hw | h
        · have := waits_listed hW hc hilt j j oj (Nat.le_refl _) hoj hall hw
          rw [hiun] at this
          cases this
        · exact h
      obtain ⟨p1, p2, p3⟩ := Oper.apart_spec hap.1
      have hsi := fun cs b => hsel i oi cs b hi
      have hsj := fun cs b => hsel j oj cs b hoj
      have keep : ∀ (a : Act), Yld F P ops wb oi v a → ∀ u, Yld F P ops wb oi v (a.put oj.dst u) := fun a hy u =>
        hy.of_same (execOp_put oi hsi a oj.dst u p3) (wanted_put oi a oj.dst u p3)
      have keepD : ∀ d, Yld F P ops wb oi v { a with defers := d :: a.defers } := fun d => hy.of_same rfl rfl
      have hfree' : ∀ k ok, ops[k]? = some ok → k ≠ i → (listed.setIfInBounds j true).getD k true = false → waits W k i = true ∨ (oi.apart ops ok = true ∧ tl.contains k = false) := fun k ok hk hki hun => by
        refine hfree k ok hk hki ?_
        by_cases hjk : j = k
        · subst hjk; exact hjun
        · rw [getD_set_ne true hjk] at hun; exact hun
      have fin : ∀ (a' : Act) (w' : World), Yld F P ops wb oi v a' → Ext F wb w' → anyE F P md ops Q tl wb fuel ((listed.setIfInBounds i true).setIfInBounds j true) (a'.put oi.dst v) w' →
          (True → Ext F wb w') ∧ anyE F P md ops Q tl wb (fuel + 1) (listed.setIfInBounds j true) a' w' := fun a' w' hy' he' h' =>
        ⟨fun _ => he', ih _ a' w' (hc.step hj) he' hfree' (ready_mono hr (Ne.symm hji)) hy' (by rw [Array.setIfInBounds_comm _ _ hji]; exact h')⟩
      rw [hap.2] at h1 ⊢
      simp only [Bool.false_eq_true, if_false] at h1 ⊢
      unfold wpOp at *
      simp only [hoj] at *
      rw [wanted_put oj a oi.dst v p1] at h1
      split
      · rename_i hw
        simp only [hw, if_true] at h1
        rcases h1 with h1 | ⟨hasks, hlets⟩
        case inr => exact .inr ⟨by unfold Oper.asks at *; rw [execOp_put oj hsj a oi.dst v p1] at hasks; exact hasks, hlets⟩
        refine .inl ?_
        unfold Oper.wp at *
        rw [execOp_put oj hsj a oi.dst v p1] at h1
        generalize (execOp a.eval oj).run P w = r at *
        cases r with
        | ok n w' =>
          cases n <;> simp only [Oper.upon] at h1 ⊢
          case value u => exact fin _ _ (keep a hy u) (h1.1 trivial) (by rw [← Act.put_comm a v u p2]; exact h1.2)
          case skip => exact fin _ _ (keep a hy _) (h1.1 trivial) (by rw [← Act.put_comm a v undef p2]; exact h1.2)
          case defer d =>
            refine fin _ _ (keep _ (keepD d) _) (h1.1 trivial) ?_
            rw [← Act.put_comm _ v undef p2, ← Act.put_defers]
            exact h1.2
          case enter f args =>
            refine Calls.mono h1 fun e w'' he => ?_
            cases e with
            | returned u => exact fin _ _ (keep a hy u) (he.1 trivial) (by rw [← Act.put_comm a v u p2]; exact he.2)
            | panicked c => exact absurd rfl (he.1 c)
            | outgrown => exact he
          case row row args => exact Rows.mono h1 fun u w'' he => fin _ _ (keep a hy u) (he.1 trivial) (by rw [← Act.put_comm a v u p2]; exact he.2)
        | halt x w' =>
          cases x <;> simp only [Oper.upon] at h1 ⊢
          case panic u => exact absurd rfl (h1.1 _)
      · rename_i hw
        simp only [hw] at h1
        exact fin _ _ (keep a hy _) (h1.1 trivial) (by rw [← Act.put_comm a v undef p2]; exact h1.2)
def walk (F : Nat → Prop) (P : Program) (ops : Array Oper) (Q : Exit → Act → World → Prop) (tail : List Oper) : List (List Oper × Oper) → List Oper → World → Act → Prop
 | [], last, w, a => wpQuiet P ops (Cls F w) (fun a' => wpList P ops Q tail a' w) last a
 | (S, oc) :: t, last, w, a => wpQuiet P ops (Cls F w) (fun a' => wpList P ops (Exit.then (fun a'' w'' => Ext F w w'' ∧ walk F P ops Q tail t last w'' a'') (fun _ _ _ => False)) [oc] a' w) S a
theorem tail_sound {tl : List Nat} {wb : World} : ∀ (l : List Nat) (listed : Array Bool) (a : Act) (w : World), chkT md ops tl l listed = true → wpList P ops Q (pick ops.toList l) a w →
  anyE F P md ops Q tl wb l.length listed a w
 | [], listed, a, w, hc, h => ⟨by simpa [chkT] using hc, by simpa [pick, wpList] using h⟩
 | i :: l, listed, a, w, hc, h => by
  simp only [chkT, Bool.and_eq_true, beq_iff_eq] at hc
  obtain ⟨⟨hr, ht⟩, hc⟩ := hc
  refine ⟨fun h0 => (by rw [h0] at hr; cases hr), fun j hj => ?_⟩
  rw [hr] at hj
  obtain rfl : j = i := by simpa using hj
  have hmem : j ∈ Region.ready md ops listed := by rw [hr]; simp
  obtain ⟨_, o, ho, _⟩ := mem_ready.1 hmem
  have hn : nth ops.toList j = o := nth_of (by simpa using ho)
  simp only [pick, hn, wpList] at h
  rw [if_pos ht]
  unfold wpOp
  simp only [ho]
  have fin : ∀ a' w', wpList P ops Q (pick ops.toList l) a' w' → (tl.contains j = false → Ext F wb w') ∧ anyE F P md ops Q tl wb l.length (listed.setIfInBounds j true) a' w' :=
   fun a' w' h' => ⟨fun hf => (by rw [ht] at hf; cases hf), tail_sound l _ a' w' hc h'⟩
  split
  ·rename_i hw
   rw [if_pos hw] at h
   rcases h with h | h
   ·exact .inl (Oper.wp_mono fin h)
   ·exact .inr h
  ·rename_i hw
   rw [if_neg hw] at h
   exact fin _ _ h
theorem seg_sound {tl : List Nat} {W : Array Nat} {wb : World} (hW : waitsB md ops W = true) (hs : Region.noSelect ops = true) {k : Array Bool → Bool} {n : Nat} {K : Act → Prop}
  (hk : ∀ (listed : Array Bool) (a : Act), Closed md ops listed → k listed = true → K a → anyE F P md ops Q tl wb n listed a wb) :
  ∀ (l : List Nat) (listed : Array Bool) (a : Act), Closed md ops listed → chkS md ops W tl l listed k = true → wpQuiet P ops (Cls F wb) K (pick ops.toList l) a →
   anyE F P md ops Q tl wb (l.length + n) listed a wb
 | [], listed, a, hcl, hc, h => by simpa using hk listed a hcl (by simpa [chkS] using hc) (by simpa [pick, wpQuiet] using h)
 | i :: l, listed, a, hcl, hc, h => by
  simp only [chkS, Bool.and_eq_true] at hc
  obtain ⟨⟨hr, hf⟩, hc⟩ := hc
  have hmem : i ∈ Region.ready md ops listed := by simpa using hr
  obtain ⟨_, o, ho, _⟩ := mem_ready.1 hmem
  have hn : nth ops.toList i = o := nth_of (by simpa using ho)
  simp only [freeW, ho, Bool.and_eq_true, List.all_eq_true, List.mem_range] at hf
  obtain ⟨⟨hnc, htl⟩, hall⟩ := hf
  simp only [pick, hn, wpQuiet] at h
  obtain ⟨v, hy, h'⟩ := yld_of_quiet hnc h
  have := seg_sound hW hs hk l _ _ (hcl.step hmem) hc h'
  rw [List.length_cons, Nat.add_right_comm]
  refine anyE_first hW ho (Region.noSelect_spec hs) _ listed a wb hcl (Ext.refl _) (fun j oj hj hne hun => ?_) hmem hy this
  have h2 := hall j (Array.getElem?_eq_some_iff.1 hj).1
  simp only [hj, Bool.or_eq_true, beq_iff_eq, hne, hun, Bool.false_eq_true, false_or, Bool.and_eq_true, Bool.not_eq_true'] at h2
  exact h2
theorem walk_sound {tl : List Nat} {W : Array Nat} (hW : waitsB md ops W = true) (hs : Region.noSelect ops = true) : ∀ (pl : List (List Nat × Nat)) (last : List Nat) (listed : Array Bool) (a : Act) (w : World),
    Closed md ops listed → chk md ops W tl pl last listed = true → walk F P ops Q (pick ops.toList tl) (pl.map fun x => (pick ops.toList x.1, nth ops.toList x.2)) (pick ops.toList last) w a →
    anyE F P md ops Q tl w (planSize pl last tl) listed a w
  | [], last, listed, a, w, hcl, hc, h => by
    have := seg_sound (P := P) (Q := Q) hW hs (k := chkT md ops tl tl) (n := tl.length) (K := fun a' => wpList P ops Q (pick ops.toList tl) a' w) (wb := w)
      (fun l a' _ hk h' => tail_sound tl l a' w hk h') last listed a hcl (by simpa [chk] using hc) (by simpa [walk] using h)
    simpa [planSize] using this
  | (S, i) :: t, last, listed, a, w, hcl, hc, h => by
    have := seg_sound (P := P) (Q := Q) hW hs (wb := w) (n := planSize t last tl + 1) (tl := tl)
      (k := fun l' => Region.ready md ops l' == [i] && !tl.contains i && chk md ops W tl t last (l'.setIfInBounds i true))
      (K := fun a' => wpList P ops (Exit.then (fun a'' w'' => Ext F w w'' ∧ walk F P ops Q (pick ops.toList tl) (t.map fun x => (pick ops.toList x.1, nth ops.toList x.2)) (pick ops.toList last) w'' a'') (fun _ _ _ => False)) [nth ops.toList i] a' w)
      (fun l a' hcl' hk h' => by
        simp only [Bool.and_eq_true, beq_iff_eq, Bool.not_eq_true'] at hk
        obtain ⟨⟨hr, ht⟩, hc'⟩ := hk
        refine ⟨fun h0 => (by rw [h0] at hr; cases hr), fun j hj => ?_⟩
        rw [hr] at hj
        obtain rfl : j = i := by simpa using hj
        have hmem : j ∈ Region.ready md ops l := by rw [hr]; simp
        obtain ⟨_, o, ho, _⟩ := mem_ready.1 hmem
        have hn : nth ops.toList j = o := nth_of (by simpa using ho)
        rw [ht]
        simp only [Bool.false_eq_true, if_false]
        simp only [hn, wpList, Exit.then] at h'
        have fin : ∀ a'' w'', (Ext F w w'' ∧ walk F P ops Q (pick ops.toList tl) (t.map fun x => (pick ops.toList x.1, nth ops.toList x.2)) (pick ops.toList last) w'' a'') →
            (True → Ext F w w'') ∧ anyE F P md ops Q tl w (planSize t last tl) (l.setIfInBounds j true) a'' w'' := fun a'' w'' hh =>
          ⟨fun _ => hh.1, anyE_base hh.1 _ _ _ _ (walk_sound hW hs t last _ a'' w'' (hcl'.step hmem) hc' hh.2)⟩
        unfold wpOp
        simp only [ho]
        split
        · rename_i hw
          rw [if_pos hw] at h'
          rcases h' with h' | ⟨_, a0, w0, hq⟩
          · refine .inl (wp_monoQ (Q' := Exit.then (fun a'' w'' => Ext F w w'' ∧ walk F P ops Q (pick ops.toList tl) (t.map fun x => (pick ops.toList x.1, nth ops.toList x.2)) (pick ops.toList last) w'' a'') (fun _ _ _ => False)) (fun c a1 w1 hq => hq.elim) (fun a1 w1 hq => hq.elim) (Oper.wp_mono fin h'))
          · exact hq.elim
        · rename_i hw
          rw [if_neg hw] at h'
          exact fin _ _ h') S listed a hcl (by simpa [chk] using hc) (by simpa [walk] using h)
    have e : planSize ((S, i) :: t) last tl = S.length + (planSize t last tl + 1) := by simp [planSize]; omega
    rw [e]
    exact this
theorem region (F : Nat → Prop) {id : Nat} {l : List Oper} {a : Act} {w : World} (pl : List (List Nat × Nat)) (last tl : List Nat) (hm : P.follows .mixedOrders = true)
  (hB : (waitsB .any l.toArray (Region.before l.toArray) && Region.noSelect l.toArray && chk .any l.toArray (Region.before l.toArray) tl pl last (Array.replicate l.length false) && planSize pl last tl == l.length) = true)
  (h : ∀ w', Rg.Ext w w' → walk F P l.toArray Q (pick l tl) (pl.map fun x => (pick l x.1, nth l x.2)) (pick l last) w' a) : (Code.region id l.toArray true).wp P Q a w := by
 simp only [Bool.and_eq_true, beq_iff_eq] at hB
 obtain ⟨⟨⟨hW, hs⟩, hc⟩, hsz⟩ := hB
 refine wp_region_any hm (anyE_any (F := F) (tl := tl) (wb := { w with drawn := w.drawn + 1 }) _ _ _ _ ?_)
 have := walk_sound (F := F) (P := P) (Q := Q) (md := .any) (ops := l.toArray) (tl := tl) hW hs pl last (Array.replicate l.length false) a { w with drawn := w.drawn + 1 } (by
  intro j o _ hl
  exfalso
  simp [Array.getElem?_replicate] at hl
  split at hl <;> simp_all) (by simpa using hc) (by simpa using h _ (Below.drew (Below.refl _ w)))
 rw [hsz] at this
 simpa using this
end
end Rf
open Go.RowKit Rp Rg Ops Mm Ar Wm
namespace Wd
theorem aggW : Agg Try.prog 75 4 := ⟨⟨.array 4 73, by kernel_rfl, rfl⟩, by kernel_rfl⟩
theorem word_small (n : Nat) (h0 : n < m64) : wordA n = #[.int .u64 (n : Int), .int .u64 0, .int .u64 0, .int .u64 0] := by
 simp only [wordA, arr, List.range_succ_eq_map, List.range_zero, List.map_cons, List.map_nil, u64V]
 have e0 : limb n 0 = n := by simp [limb, Nat.mod_eq_of_lt h0]
 have e : ∀ k, limb n (k + 1) = 0 := fun k => by
  unfold limb
  rw [Nat.div_eq_of_lt (Nat.lt_of_lt_of_le h0 (by rw [Nat.pow_succ]; exact Nat.le_mul_of_pos_left _ (pow_pos' k)))]
  simp
 simp [e0, e]
theorem IntW (n : Nat) (hn : n < m64) (w : World) : Calls Try.prog 69 #[.int .u64 (n : Int)] w fun e w' => e = .returned (.agg (wordA n)) ∧ Ext w w' := by
 have hz := word_small n hn
 have HZ := Lib.hid hz
 clear hz
 have s1 := (St.start w).alloc (arr 4 fun _ => .int .u64 0) 75
 have s2 := s1.setRow 0 rfl #[.int .u64 (n : Int), .int .u64 0, .int .u64 0, .int .u64 0]
 go_enter Try.func69, Try.ntmps69
 go_wp2_with (refine stAll aggW (vs := #[.int .u64 (n : Int), .int .u64 0, .int .u64 0, .int .u64 0]) rfl _ _ rfl (by rfl) (by rfl) (s1.at 0 rfl) (by rfl) (by rfl) (by simp [Value.oneCell']) ?_)
 go_wp2
 refine bodyPost_ret (v := .agg _) (ret_cell aggW rfl rfl (s2.at 0 rfl) rfl) rfl ⟨by rw [HZ.out], s2.below⟩
end Wd
open Go.RowKit Rp Rg Ops Mm Ar Wm
namespace Wd
theorem cmp_step {x y k : Nat} (h : x / m64 ^ (k + 1) = y / m64 ^ (k + 1)) : (limb x k < limb y k ↔ x / m64 ^ k < y / m64 ^ k) ∧ (x / m64 ^ k = y / m64 ^ k ↔ limb x k = limb y k) := by
 unfold limb
 rw [Nat.pow_succ, ← Nat.div_div_eq_div_mul, ← Nat.div_div_eq_div_mul] at h
 generalize x / m64 ^ k = A at *
 generalize y / m64 ^ k = B at *
 have := Nat.div_add_mod A m64
 have := Nat.div_add_mod B m64
 rw [h] at *
 omega
theorem Cmp (x y : Nat) (w : World) : Calls Try.prog 103 #[.agg (wordA x), .agg (wordA y)] w fun e w' => e = .returned (.int .i64 (cmp x y)) ∧ Ext w w' := by
  obtain ⟨X, hX, hXe, hXl⟩ : ∃ X, wordA x = wordA X ∧ x % M256 = X ∧ X < M256 := ⟨x % M256, (wordA_mod x).symm, rfl, Nat.mod_lt _ M256_pos⟩
  obtain ⟨Y, hY, hYe, hYl⟩ : ∃ Y, wordA y = wordA Y ∧ y % M256 = Y ∧ Y < M256 := ⟨y % M256, (wordA_mod y).symm, rfl, Nat.mod_lt _ M256_pos⟩
  obtain ⟨c, hc⟩ : ∃ c, c = cmp x y := ⟨_, rfl⟩
  rw [hX, hY, ← hc]
  have clt : X < Y → c = -1 := fun h => by rw [hc, cmp, hXe, hYe, if_pos h]
  have cgt : Y < X → c = 1 := fun h => by rw [hc, cmp, hXe, hYe, if_neg (by omega), if_pos h]
  have ceq : X = Y → c = 0 := fun h => by rw [hc, cmp, hXe, hYe, if_neg (by omega), if_neg (by omega)]
  clear hX hY hXe hYe hc
  go_enter Try.func103, Try.ntmps103
  have s1 := ((St.start w).alloc (wordA X) 75).alloc' (wordA Y) 75 (w.heap.size + 1) (by simp)
  go_wp2
  go_loopw [5] (fun i wr => ∃ (k : Nat) (z : Int), k ≤ 4 ∧ z = (k : Int) - 1 ∧ i = .int .i64 z ∧ X / m64 ^ k = Y / m64 ^ k ∧
      St w wr [(w.heap.size + 1, 75, wordA Y), (w.heap.size, 75, wordA X)]) (fun i _ => (intOf i + 1).toNat)
  case atStart =>
    refine ⟨4, 3, by omega, rfl, rfl, ?_, s1⟩
    rw [Nat.div_eq_of_lt (by exact hXl), Nat.div_eq_of_lt (by exact hYl)]
  case round =>
    obtain ⟨k, z, hk, hz, rfl, he, st⟩ := hrel
    cases k with
    | zero =>
      have hxy : X = Y := by simpa using he
      obtain rfl : z = -1 := by omega
      clear hz
      go_wp2
      go_ret
      exact ⟨by rw [ceq hxy]; rfl, st.below⟩
    | succ k =>
      have C := Lib.hid (cmp_step he)
      obtain rfl : z = (k : Int) := by omega
      clear hz
      go_wp2
      refine Rg.region [] [0, 1, 2, 3, 4, 5, 6, 7] [] (by kernel_rfl) (by kernel_rfl) fun w' hw' => ?_
      have st' := st.ext hw'
      have b1 := Rg.later (st'.cell 1 rfl k (wordA_get X k (by omega)))
      have b2 := Rg.later (st'.cell 0 rfl k (wordA_get Y k (by omega)))
      simp only [Rg.walk, Rg.pick, Rg.nth, List.map_nil]
      repeat (go_big_quiet_step (fail))
      refine wpQuiet_nil ?_
      by_cases h1 : limb X k < limb Y k
      · have : X < Y := by
          refine Nat.lt_of_not_le fun h => ?_
          have := Nat.div_le_div_right (c := m64 ^ k) h
          have := C.out.1.1 h1
          omega
        have hd : decide (limb X k < limb Y k) = true := by simpa using h1
        go_wp2
        go_ret
        exact ⟨by rw [clt this]; rfl, st'.below⟩
      · have hd : decide (limb X k < limb Y k) = false := by simpa using h1
        go_wp2
        refine Rg.region [] [0, 1, 2, 3, 4, 5, 6, 7] [] (by kernel_rfl) (by kernel_rfl) fun w2 hw2 => ?_
        have st2 := st'.ext hw2
        have b1 := Rg.later (st2.cell 1 rfl k (wordA_get X k (by omega)))
        have b2 := Rg.later (st2.cell 0 rfl k (wordA_get Y k (by omega)))
        simp only [Rg.walk, Rg.pick, Rg.nth, List.map_nil]
        repeat (go_big_quiet_step (fail))
        refine wpQuiet_nil ?_
        by_cases h2 : limb Y k < limb X k
        · have : Y < X := by
            refine Nat.lt_of_not_le fun h => ?_
            have h3 := Nat.div_le_div_right (c := m64 ^ k) h
            have h4 := C.out
            have h5 : X / m64 ^ k ≠ Y / m64 ^ k := fun h => by have := h4.2.1 h; omega
            have := h4.1.2 (by omega)
            omega
          have hd2 : decide (limb Y k < limb X k) = true := by simpa using h2
          go_wp2
          go_ret
          exact ⟨by rw [cgt this]; rfl, st2.below⟩
        · have hd2 : decide (limb Y k < limb X k) = false := by simpa using h2
          go_wp2
          go_roundw
          case rel => exact ⟨k, (k : Int) - 1, by omega, rfl, rfl, C.out.2.2 (by omega), st2⟩
          case measure => simp [intOf]
end Wd
open Go.RowKit Rg Wm Ar
namespace Lf
def limbs (x : Nat) : List Nat := [limb x 0, limb x 1, limb x 2, limb x 3]
abbrev wV (x : Nat) : V := .a ((limbs x).map uK)
theorem limbs_len (x : Nat) : (limbs x).length = 4 := rfl
theorem limbs_get (x : Nat) {k : Nat} (h : k < 4) : (limbs x).getD k default = limb x k := by
 match k, h with
 | 0, _ => rfl
 | 1, _ => rfl
 | 2, _ => rfl
 | 3, _ => rfl
theorem limb_lt64 (x k : Nat) : limb x k < 18446744073709551616 := limb_lt x k
theorem limbs_lt (x k : Nat) : (limbs x).getD k default < 18446744073709551616 := by
 rcases Nat.lt_or_ge k 4 with h | h
 ·rw [limbs_get x h]; exact limb_lt64 x k
 ·rw [List.getD_eq_getElem?_getD, List.getElem?_eq_none (by rw [limbs_len]; exact h)]; exact Nat.zero_lt_succ _
theorem wordA_list (x : Nat) : wordA x = #[.int .u64 (limb x 0 : Int), .int .u64 (limb x 1 : Int), .int .u64 (limb x 2 : Int), .int .u64 (limb x 3 : Int)] := rfl
theorem exact_word (x : Nat) : Exact (wV x) (.agg (wordA x)) := by
 rw [wordA_list]
 refine ⟨fun w g => .a rfl (fun u hu => ?_) (fun j u y hj hy => ?_), fun w g y h => ?_⟩
 ·obtain ⟨a, _, rfl⟩ := List.mem_map.1 hu; rfl
 ·match j with
  | 0 => simp [limbs] at hj hy; subst hj; subst hy; exact .k _
  | 1 => simp [limbs] at hj hy; subst hj; subst hy; exact .k _
  | 2 => simp [limbs] at hj hy; subst hj; subst hy; exact .k _
  | 3 => simp [limbs] at hj hy; subst hj; subst hy; exact .k _
  | j + 4 => simp [limbs] at hj
 ·cases h with
  | @a _ _ vs hl h1 hc =>
   have hs : vs.size = 4 := by simpa [limbs] using hl.symm
   congr 1
   apply Array.ext
   ·simpa using hs
   ·intro i h1 h2
    have hv : vs[i]? = some vs[i] := Array.getElem?_eq_getElem h1
    match i with
    | 0 => exact rep_k (hc 0 _ _ rfl hv)
    | 1 => exact rep_k (hc 1 _ _ rfl hv)
    | 2 => exact rep_k (hc 2 _ _ rfl hv)
    | 3 => exact rep_k (hc 3 _ _ rfl hv)
    | i + 4 => omega
theorem limbs_inj {x y : Nat} (h : limbs x = limbs y) : x % M256 = y % M256 := by
 refine wordA_inj ?_
 simp only [limbs, List.cons.injEq, and_true] at h
 obtain ⟨h1, h2, h3, h4⟩ := h
 rw [wordA_list, wordA_list, h1, h2, h3, h4]
theorem limbs_small {n : Nat} (h : n < m64) : limbs n = [n, 0, 0, 0] := by
 have h0 : limb n 0 = n := by unfold limb; rw [Nat.pow_zero, Nat.div_one, Nat.mod_eq_of_lt h]
 have hi : ∀ i, 1 ≤ i → limb n i = 0 := fun i hi => by
  have : m64 ≤ m64 ^ i := by
   have := Nat.pow_le_pow_right (show 0 < m64 from m64_pos) hi
   rwa [Nat.pow_one] at this
  unfold limb; rw [Nat.div_eq_of_lt (by omega), Nat.zero_mod]
 unfold limbs
 rw [h0, hi 1 (by decide), hi 2 (by decide), hi 3 (by decide)]
def numOf (l : List Nat) : Nat := val (fun k => l.getD k 0) 4
theorem limbs_num {l : List Nat} (h : l.length = 4) (hl : ∀ a ∈ l, a < m64) : limbs (numOf l) = l := by
 match l, h with
 | [a, b, c, d], _ =>
  have hk : ∀ k, k < 4 → (fun k => [a, b, c, d].getD k 0) k < m64 := fun k hk => by
   match k, hk with
   | 0, _ => exact hl a (by simp)
   | 1, _ => exact hl b (by simp)
   | 2, _ => exact hl c (by simp)
   | 3, _ => exact hl d (by simp)
  unfold limbs numOf
  rw [limb_val hk (by decide : 0 < 4), limb_val hk (by decide : 1 < 4), limb_val hk (by decide : 2 < 4), limb_val hk (by decide : 3 < 4)]
  rfl
theorem numOf_lt {l : List Nat} (h : l.length = 4) (hl : ∀ a ∈ l, a < m64) : numOf l < M256 := by
 match l, h with
 | [a, b, c, d], _ =>
  refine val_lt fun k hk => ?_
  match k, hk with
  | 0, _ => exact hl a (by simp)
  | 1, _ => exact hl b (by simp)
  | 2, _ => exact hl c (by simp)
  | 3, _ => exact hl d (by simp)
def beB (x : Nat) : Nat → List UInt8
 | 0 => []
 | n + 1 => UInt8.ofNat (x / 256 ^ n % 256) :: beB x n
theorem beB_len (x n : Nat) : (beB x n).length = n := by induction n <;> simp [beB, *]
theorem beB_num (x : Nat) : ∀ n, Ps.beN (beB x n) = x % 256 ^ n
 | 0 => by simp [beB, Ps.beN, Ps.nat8, Ps.pos, Nat.mod_one]
 | n + 1 => by
  have ih := beB_num x n
  have e : Ps.beN (beB x (n + 1)) = x / 256 ^ n % 256 * 256 ^ n + Ps.beN (beB x n) := by
   simp only [beB, Ps.beN, Ps.nat8, List.map_cons, Ps.pos, List.length_map, beB_len, UInt8.toNat_ofNat']
   simp
  rw [e, ih, Nat.pow_succ, Nat.mod_mul, Nat.mul_comm]
  omega
theorem m256_bytes : M256 = 256 ^ 32 := by unfold M256 m64; decide
def wordB (x : Nat) : List UInt8 := beB x 32
theorem wordB_len (x : Nat) : (wordB x).length = 32 := beB_len x 32
theorem wordB_num (x : Nat) : Ps.beN (wordB x) = x % M256 := by rw [m256_bytes]; exact beB_num x 32
def bytesR (x i : Nat) : List UInt8 := (List.range 32).map fun j => if j < i then UInt8.ofNat (x / 256 ^ (31 - j) % 256) else 0
theorem bytesR_len (x i : Nat) : (bytesR x i).length = 32 := by simp [bytesR]
theorem bytesR_full (x : Nat) : bytesR x 32 = wordB x := by
 have e : ∀ n, beB x n = (List.range n).map fun j => UInt8.ofNat (x / 256 ^ (n - 1 - j) % 256) := by
  intro n
  induction n with
  | zero => rfl
  | succ n ih =>
   rw [beB, ih, List.range_succ_eq_map, List.map_cons, List.map_map]
   congr 1
   refine List.map_congr_left fun j hj => ?_
   have := List.mem_range.1 hj
   simp only [Function.comp]
   rw [show n + 1 - 1 - (j + 1) = n - 1 - j by omega]
 unfold wordB bytesR
 rw [e]
 refine List.map_congr_left fun j hj => ?_
 rw [if_pos (List.mem_range.1 hj)]
theorem bytesR_set (x i : Nat) (_hi : i < 32) {b : Nat} (hb : b % 256 = x / 256 ^ (31 - i) % 256) : (bytesR x i).set i (UInt8.ofNat b) = bytesR x (i + 1) := by
 apply List.ext_getElem
 ·simp [bytesR]
 ·intro j h1 h2
  rw [List.getElem_set]
  simp only [bytesR, List.getElem_map, List.getElem_range]
  by_cases h : i = j
  ·subst h
   rw [if_pos rfl, if_pos (by omega)]
   apply UInt8.toNat_inj.1
   rw [UInt8.toNat_ofNat', UInt8.toNat_ofNat']
   omega
  ·rw [if_neg h]
   by_cases h3 : j < i
   ·rw [if_pos h3, if_pos (by omega)]
   ·rw [if_neg h3, if_neg (by omega)]
theorem limb_byte (x k r : Nat) (hr : r < 8) : limb x k / 2 ^ (r * 8) % 256 = x / 256 ^ (8 * k + r) % 256 := by
 unfold limb
 have e1 : (256 : Nat) ^ (8 * k + r) = m64 ^ k * 2 ^ (r * 8) := by
  rw [Nat.pow_add, Nat.pow_mul]
  have h1 : (256 : Nat) ^ 8 = m64 := by unfold m64; decide
  have h2 : (256 : Nat) ^ r = 2 ^ (r * 8) := by rw [Nat.mul_comm, Nat.pow_mul]
  rw [h1, h2]
 rw [e1, ← Nat.div_div_eq_div_mul]
 generalize x / m64 ^ k = y
 have h3 : m64 = 2 ^ (r * 8) * 2 ^ ((8 - r) * 8) := by rw [← Nat.pow_add, show r * 8 + (8 - r) * 8 = 64 from by omega]; unfold m64; decide
 have h4 : (256 : Nat) ∣ 2 ^ ((8 - r) * 8) := by
  refine ⟨2 ^ ((8 - r) * 8 - 8), ?_⟩
  have : (8 - r) * 8 = 8 + ((8 - r) * 8 - 8) := by omega
  rw [this, Nat.pow_add]; simp
 rw [h3, Nat.mod_mul_right_div_self]
 exact Nat.mod_mod_of_dvd _ h4
theorem pow256 (i : Nat) : (256 : Nat) ^ i = m64 ^ (i / 8) * 2 ^ (i % 8 * 8) := by
 have h1 : (256 : Nat) ^ 8 = m64 := by unfold m64; decide
 have h2 : (256 : Nat) ^ (i % 8) = 2 ^ (i % 8 * 8) := by rw [Nat.mul_comm, Nat.pow_mul]
 rw [← h1, ← h2, ← Nat.pow_mul, ← Nat.pow_add, Nat.div_add_mod]
theorem limb_set {V b i : Nat} (hV : V < 256 ^ i) (hb : b < 256) (k : Nat) : limb (V + b * 256 ^ i) k = if k = i / 8 then limb V k ||| (b * 2 ^ (i % 8 * 8) % 2 ^ 64) else limb V k := by
 have hp := pow256 i
 have hm : 2 ^ 64 = m64 := by unfold m64; decide
 have hr : i % 8 < 8 := Nat.mod_lt _ (by decide)
 have h64 : m64 = 2 ^ (i % 8 * 8) * 2 ^ (64 - i % 8 * 8) := by rw [← Nat.pow_add, ← hm, show i % 8 * 8 + (64 - i % 8 * 8) = 64 from by omega]
 have hpos : ∀ j, 0 < m64 ^ j := fun j => pow_pos' j
 have hle : b * 2 ^ (i % 8 * 8) + 2 ^ (i % 8 * 8) ≤ m64 := by
  have h1 : (2 : Nat) ^ 8 ≤ 2 ^ (64 - i % 8 * 8) := Nat.pow_le_pow_right (by decide) (by omega)
  have h2 : (b + 1) * 2 ^ (i % 8 * 8) ≤ 2 ^ (64 - i % 8 * 8) * 2 ^ (i % 8 * 8) := Nat.mul_le_mul_right _ (by omega)
  rw [Nat.mul_comm (2 ^ (64 - i % 8 * 8)), ← h64, Nat.add_mul, Nat.one_mul] at h2
  exact h2
 have hs0 : 0 < 2 ^ (i % 8 * 8) := Nat.two_pow_pos _
 rcases Nat.lt_trichotomy k (i / 8) with h | h | h
 ·rw [if_neg (by omega)]
  obtain ⟨j, hj⟩ : ∃ j, i / 8 = k + 1 + j := ⟨i / 8 - k - 1, by omega⟩
  unfold limb
  rw [hp, hj, show b * (m64 ^ (k + 1 + j) * 2 ^ (i % 8 * 8)) = m64 ^ k * (m64 * (m64 ^ j * (b * 2 ^ (i % 8 * 8)))) from by rw [Nat.pow_add, Nat.pow_add, Nat.pow_one]; ac_rfl, Nat.add_mul_div_left _ _ (hpos k), Nat.add_mul_mod_self_left]
 ·rw [if_pos h]
  subst h
  have hlt : V / m64 ^ (i / 8) < 2 ^ (i % 8 * 8) := Nat.div_lt_of_lt_mul (by rw [← hp]; exact hV)
  unfold limb
  rw [hp, show b * (m64 ^ (i / 8) * 2 ^ (i % 8 * 8)) = m64 ^ (i / 8) * (b * 2 ^ (i % 8 * 8)) from by ac_rfl, Nat.add_mul_div_left _ _ (hpos _)]
  rw [Nat.mod_eq_of_lt (show V / m64 ^ (i / 8) < m64 by omega), hm, Nat.mod_eq_of_lt (show b * 2 ^ (i % 8 * 8) < m64 by omega), Nat.mod_eq_of_lt (by omega)]
  rw [Nat.or_comm, Nat.mul_comm b, ← Nat.two_pow_add_eq_or_of_lt hlt, Nat.add_comm]
 ·rw [if_neg (by omega)]
  have h1 : (256 : Nat) ^ (i + 1) ≤ m64 ^ k := by
   have : (256 : Nat) ^ (i + 1) ≤ 256 ^ (8 * k) := Nat.pow_le_pow_right (by decide) (by omega)
   rw [Nat.pow_mul] at this
   have e : (256 : Nat) ^ 8 = m64 := by unfold m64; decide
   rwa [e] at this
  have h2 : V + b * 256 ^ i < 256 ^ (i + 1) := by
   have h2 := Nat.mul_le_mul_right (256 ^ i) (Nat.succ_le_of_lt hb)
   rw [Nat.pow_succ, Nat.mul_comm (256 ^ i)]
   rw [Nat.succ_mul] at h2
   omega
  unfold limb
  rw [Nat.div_eq_of_lt (by omega), Nat.div_eq_of_lt (by omega)]
def tailN (l : List UInt8) (i : Nat) : Nat := Ps.beN (l.drop (l.length - i))
theorem tailN_zero (l : List UInt8) : tailN l 0 = 0 := by unfold tailN; rw [Nat.sub_zero, List.drop_length]; rfl
theorem tailN_all (l : List UInt8) : tailN l l.length = Ps.beN l := by unfold tailN; rw [Nat.sub_self, List.drop_zero]
theorem tailN_lt (l : List UInt8) {i : Nat} (h : i ≤ l.length) : tailN l i < 256 ^ i := by
 have := Ps.beN_lt (l.drop (l.length - i))
 rwa [List.length_drop, show l.length - (l.length - i) = i by omega] at this
theorem tailN_succ (l : List UInt8) {i : Nat} (h : i < l.length) : tailN l (i + 1) = tailN l i + (l.getD (l.length - 1 - i) default).toNat * 256 ^ i := by
 unfold tailN
 rw [show l.length - (i + 1) = l.length - 1 - i by omega, List.drop_eq_getElem_cons (by omega)]
 have e : l.length - 1 - i + 1 = l.length - i := by omega
 rw [e]
 have e2 : ∀ (a : UInt8) (r : List UInt8), Ps.beN (a :: r) = a.toNat * 256 ^ r.length + Ps.beN r := fun a r => by simp [Ps.beN, Ps.nat8, Ps.pos]
 rw [e2, List.length_drop, show l.length - (l.length - i) = i by omega, Nat.add_comm]
 simp [List.getD_eq_getElem?_getD, List.getElem?_eq_getElem (show l.length - 1 - i < l.length by omega)]
attribute [irreducible] bytesR limbs tailN wordB
end Lf
open Go.RowKit Rg Wm Ar
set_option linter.unusedVariables false
set_option maxRecDepth 100000
namespace Lf
namespace Wo
theorem IntW (n : Nat) (h : n < m64) : LF Try.prog 69 [uK n] (fun _ => wV n) none := .of_calls (by kernel_rfl) rfl (ex1 (exact_k _)) (exact_word _) fun w => Wd.IntW n h w
theorem Cmp (x y : Nat) : LF Try.prog 103 [wV x, wV y] (fun _ => .k (.int .i64 (Wd.cmp x y))) none := .of_calls (by kernel_rfl) rfl (ex2 (exact_word x) (exact_word y)) (exact_k _) fun w => Wd.Cmp x y w
end Wo
theorem byte_at (x : Nat) {i : Nat} (h : i < 32) : (limbs x).getD ((31 - i) / 8) default / 2 ^ ((31 - i) % 8 * 8) % 256 = x / 256 ^ (31 - i) % 256 := by
 rw [limbs_get x (by omega), limb_byte _ _ _ (Nat.mod_lt _ (by decide))]
 congr 3
 omega
theorem set_more {i n V b : Nat} (_h : i < n) (hn : i < 32) (hV : V < 256 ^ i) (hb : b < 256) : (limbs V).set (i / 8) ((limbs V).getD (i / 8) default ||| b * 2 ^ (i % 8 * 8) % 2 ^ 64) = limbs (V + b * 256 ^ i) := by
 rw [limbs_get V (by omega)]
 have h : ∀ k, limb (V + b * 256 ^ i) k = _ := limb_set hV hb
 have hq : i / 8 = 0 ∨ i / 8 = 1 ∨ i / 8 = 2 ∨ i / 8 = 3 := by omega
 unfold limbs
 simp only [h]
 rcases hq with e | e | e | e <;> rw [e] <;> rfl
namespace Wo
set_option maxHeartbeats 1000000 in
theorem Bytes (x : Nat) : LF Try.prog 111 [wV x] (fun _ => .a ((wordB x).map bK)) none := by
 have hl := limbs_len x
 refine LFx.mk' tt Try.func111 rfl rfl rfl (by kernel_rfl) rfl rfl fun F => ?_
 refine wk ?_ trueW trueW
 refine LC.loop2 (fun i L => [(1, .p 1 0), (2, .p 2 0), (3, .p 3 0), (6, .k (.int .i64 ((i : Nat) : Int)))]) (fun i L => [(1, .b ((limbs x).map uK)), (2, .b ((List.replicate 32 0).map bK)), (3, .b (L.map bK))]) (fun i L => i ≤ 32 ∧ L = bytesR x i) ((32 - ·)) (0) ((List.replicate 32 0)) ⟨by omega, by unfold bytesR; rfl⟩ ⟨rfl, rfl, rfl, rfl, trivial⟩ ⟨rfl, rfl, rfl, trivial⟩ rfl rfW rfW ?_
 rintro i L ⟨hi, hL⟩
 have hb := bytesR_len x i
 rw [← hL] at hb
 rcases Nat.lt_or_ge i 32 with h | h
 ·have hok : i + 1 ≤ 32 ∧ L.set i (UInt8.ofNat ((limbs x).getD ((31 - i) / 8) default / 2 ^ ((31 - i) % 8 * 8))) = bytesR x (i + 1) := ⟨h, by rw [hL]; exact bytesR_set x i h (byte_at x h)⟩
  clear hL
  exact wk trueW trueW trueW
 ·obtain rfl : i = 32 := by omega
  have hv1 : V.a (L.map bK) = V.a ((wordB x).map bK) := by rw [hL, bytesR_full]
  clear hL
  exact wk trueW trueW trueW
set_option maxHeartbeats 1000000 in
theorem Read (l : List UInt8) (hn : l.length ≤ 32) : LF Try.prog 110 [.s none (l.map bK)] (fun _ => wV (Ps.beN l)) none := by
 have hmin : (if (32 : Int) < ((l.length : Nat) : Int) then (32 : Int) else ((l.length : Nat) : Int)) = ((l.length : Nat) : Int) := if_neg (by omega)
 refine LFx.mk' tt Try.func110 rfl rfl rfl (by kernel_rfl) rfl rfl fun F => ?_
 refine wk ?_ trueW trueW
 refine LC.loop2 (fun i L => [(0, .s none (l.map bK)), (2, .p 2 0), (3, .p 3 0), (7, .k (.int .i64 ((l.length : Nat) : Int))), (8, .k (.int .i64 ((i : Nat) : Int)))]) (fun i L => [(2, .b ((List.replicate 4 0).map uK)), (3, .b (L.map uK))]) (fun i L => i ≤ l.length ∧ L = limbs (tailN l i)) ((l.length - ·)) (0) ((List.replicate 4 0)) ⟨by omega, by rw [tailN_zero]; unfold limbs; decide⟩ ⟨rfl, rfl, rfl, rfl, rfl, trivial⟩ ⟨rfl, rfl, trivial⟩ rfl rfW rfW ?_
 rintro i L ⟨hi, hL⟩
 have hb : L.length = 4 := by rw [hL, limbs_len]
 rcases Nat.lt_or_ge i l.length with h | h
 ·have h1 := limbs_lt (tailN l i) (i / 8)
  rw [← hL] at h1
  have hok : i + 1 ≤ l.length ∧ L.set (i / 8) (L.getD (i / 8) default ||| (l.getD (l.length - 1 - i) default).toNat * 2 ^ (i % 8 * 8) % 2 ^ 64) = limbs (tailN l (i + 1)) := ⟨h, by rw [hL, tailN_succ l h]; exact set_more h (by omega) (tailN_lt l hi) (UInt8.toNat_lt _)⟩
  have h2 := (l.getD (l.length - 1 - i) default).toNat_lt
  clear hL
  exact wk trueW trueW trueW
 ·obtain rfl : i = l.length := by omega
  rw [tailN_all] at hL
  subst hL
  exact wk trueW trueW trueW
end Wo
end Lf
open Go.RowKit Rg
set_option linter.unusedVariables false
set_option maxRecDepth 100000
namespace Lf
section
variable {P : Program} {F : Fr0} {N : Nat} {Q : LQ} {env : Env} {mem : Mem} {ops : Array Oper} {o : Oper} {rs : List Oper} {d : Nat}
theorem LS.eqNil {T Y e : Nat} {x : Operand} {t : Option Nat} {es : List V} (X : TOk P) {ti : TI} (hg : gd ops env o = some true) (hds : o.dst = some d) (ho : o.op = .binOp .eql T x (.const (.slice none 0 0)) Y) (hx : evo env x = some (.s t es)) (hT : aget X.tab T = some ti) (hdt : ti.d = .sl e) (hd : Nat.blt d N = true)
  (h1 : es = [] → LS P F N ops rs Q ((d, .k (.bool true)) :: env) mem) (h2 : LS P F N ops rs Q ((d, .k (.bool false)) :: env) mem) : LS P F N ops (o :: rs) Q env mem := ⟨fun F0 hxe g a w hr => by
 have hu := (X.get hT).sl hdt
 have hgt : P.eqGuardType P.depth T = false := by
  obtain ⟨m, hm⟩ : ∃ m, P.depth = m + 1 := ⟨2 * (P.types.size + Made.depth) + 1, rfl⟩
  rw [hm]
  simp [Program.eqGuardType, hu]
 have hrun : ∀ (ad : Option Addr) (n c : Nat), a.eval x = .slice ad n c → (execOp a.eval o).run P w = .ok (.value (.bool ad.isNone)) w := fun ad n c h => by
  have q1 : (eqGuard .eql T x (.const (.slice none 0 0)) (.slice ad n c) (.slice none 0 0)).run P w = .ok () w := by
   unfold eqGuard
   simp
  have q2 : (binOp .eql T (.slice ad n c) (.slice none 0 0)).run P w = .ok (.bool ad.isNone) w := by
   have e : Op.equal T (.slice ad n c) (.slice none 0 0) = Op.equalIn (9999 + 1) T (.slice ad n c) (.slice none 0 0) := rfl
   have q3 : (Op.equalIn (9999 + 1) T (.slice ad n c) (.slice none 0 0)).run P w = .ok ad.isNone w := by
    rw [Op.equalIn, Sem.run_bind, run_underlying hu w]
    cases ad <;> rfl
   simp only [binOp, e, Sem.run_bind, q3, Result.andThen_ok]
   rfl
  have hx2 : a.eval (.const (.slice none 0 0)) = .slice none 0 0 := rfl
  simp only [execOp, ho, h, hx2, Sem.run_bind, q1, Result.andThen_ok, q2]
  rfl
 have hdd : dok o.dst N = true := by rw [hds]; exact hd
 have hrep := hr.evo hx
 refine wpListIn_step fun K hK => ?_
 rw [gd_wanted hr hg, if_pos rfl]
 have go : ∀ b : Bool, (execOp a.eval o).run P w = .ok (.value (.bool b)) w → LS P F N ops rs Q ((d, .k (.bool b)) :: env) mem → o.wpIn F0.fz 0 P a w K (liftQ F0 N Q) := fun b hb hl => by
  refine op_in ?_ (fun c e => by rw [ho] at e; cases e)
  unfold Oper.wp
  rw [hb]
  refine hK _ _ (hl.go F0 hxe g _ w ?_)
  have := hr.put (Ev.refl g w) hr.mem hr.kept (Rep.k (w := w) (g := g) (.bool b)) hdd
  rw [hds] at this
  rw [hds]
  exact this
 generalize hv : a.eval x = v at hrep
 cases hrep with
 | s0 => exact go true (hrun _ _ _ hv) (h1 rfl)
 | se => exact go false (hrun _ _ _ hv) h2
 | s => exact go false (hrun _ _ _ hv) h2⟩
end
theorem LM.row1 {P : Program} {f : Nat} {args es : List V} {E sz n k0 : Nat} (hA : ∀ (ρ : Nat → Nat), args.map (V.ren ρ) = args) (h : LM P f args [] fun o m => o = .ret (.s (some k0) es) ∧ m = [(k0, .r E sz n)]) (k : Nat) : LM P f args [] fun o m => o = .ret (.s (some k) es) ∧ m = [(k, .r E sz n)] :=
 LM.gen [k0] [k] (by simp) (by simp) rfl h fun ρ hρ => by
  simp at hρ
  refine ⟨hA _, rfl, ?_, ?_⟩
  ·simp [Out.ren, V.ren, hρ]
  ·simp [Mem.ren, M.ren, hρ]
namespace Sl2
end Sl2
end Lf
namespace Lf
section
end
end Lf
open Go.RowKit Rg
set_option linter.unusedVariables false
set_option maxRecDepth 100000
namespace Lf
theorem Does.cutNil {P : Program} {o : Oper} {env : Env} {T e : Nat} {x : Operand} {hi : Option Operand} (X : TOk P) {ti ei : TI} (ho : o.op = .slice T x none hi none) (hx : evo env x = some .nil) (hT : aget X.tab T = some ti) (hd : ti.d = .sl e) (hE : aget X.tab e = some ei) (hhi : Bd env 0 hi 0) : Does P o env .nil [] :=
 .pure fun F g a w mem hr _ => by
  have hr0 := hr x (by simp [ho, Op.operands]) _ hx
  have hxe : a.eval x = .slice none 0 0 := by generalize a.eval x = v at hr0; cases hr0; rfl
  have b2 := hhi.val (a := a) (fun y hy u hu => hr y (by subst hy; simp [ho, Op.operands]) u hu)
  have := run_cutG (P := P) (a := none) (n := 0) (cap := 0) ((X.get hT).sl hd) (X.get hE).run_size (.inl ⟨rfl, rfl⟩) b2 (Nat.zero_le _) (Nat.zero_le _) w
  rw [hxe] at hr0
  refine ⟨.slice none 0 0, ?_, hr0⟩
  simp [execOp, ho, hxe, this]
theorem LM.nilrow {P : Program} {f : Nat} {args : List V} (E sz k : Nat) (hp : Nat.blt 0 sz = true) (h : LM P f args [] fun o m => o = .ret .nil ∧ m = []) : LM P f args [] fun o m => o = .ret (.s (some k) []) ∧ m = [(k, .r E sz 0)] :=
 ⟨h.ok, fun g w vals h1 h2 h3 => Calls.mono (h.go g w vals h1 h2 h3) fun e w' ⟨o, mo, g', ⟨ho, hm⟩, hev, hrel, hk, hat⟩ => by
  subst ho; subst hm
  have hown0 : w'.oRow 0 E sz (.slice (Option.map (fun b => (⟨b, 0, none⟩ : Addr)) none) 0 0) 0 [] := oRow_nil w' 0 E sz
  have hgi : (g'.addRow k (none, 0, 0)).rw k = some (none, 0, 0) := by simp [Gh.addRow]
  obtain ⟨he, r2, r3⟩ := hrel.nilRow hk (i := k) (m := .r E sz 0) rfl (.r hgi ⟨Nat.le_of_ble_eq_true hp, ⟨_, hown0⟩, fun _ h => by cases h⟩) fun b o ⟨l, c, hp⟩ => by rw [hgi] at hp; cases hp
  obtain ⟨x, hx, hrep⟩ := hat
  cases hrep
  exact ⟨_, _, _, ⟨rfl, rfl⟩, hev.trans he, r2, r3, ⟨_, hx, .s0 fun r hr' => by cases hr'; exact ⟨none, 0, 0, hgi, Nat.le_refl _, fun _ => .inl rfl⟩⟩⟩⟩
end Lf
open Go.RowKit Rg
set_option linter.unusedVariables false
set_option maxRecDepth 100000
namespace Lf
abbrev bV (l : List UInt8) : V := .s none (l.map bK)
end Lf
set_option maxRecDepth 100000
namespace Tr
abbrev Pa := List (Fin 16)
inductive Nd where
 | no
 | leaf (p : Pa) (v : List UInt8)
 | road (p : Pa) (k : Nd)
 | fork (ks : Fin 16 → Nd) (v : List UInt8)
def rest : Pa → Pa → Option Pa
 | [], q => some q
 | _ :: _, [] => none
 | x :: p, y :: q => if x = y then rest p q else none
theorem rest_app : ∀ (p q : Pa), rest p (p ++ q) = some q
 | [], _ => rfl
 | x :: p, q => by simp only [List.cons_append, rest, if_true, rest_app p q]
theorem rest_some : ∀ {p q r : Pa}, rest p q = some r → q = p ++ r
 | [], q, r, h => by
  cases h
  rfl
 | x :: p, [], r, h => by cases h
 | x :: p, y :: q, r, h => by
  simp only [rest] at h
  split at h
  ·rename_i e
   subst e
   rw [rest_some h, List.cons_append]
  ·cases h
theorem rest_none {p q : Pa} (h : rest p q = none) (r : Pa) : q ≠ p ++ r := fun e => by
 subst e
 rw [rest_app] at h
 cases h
def get : Nd → Pa → List UInt8
 | .no, _ => []
 | .leaf p v, q => if p = q then v else []
 | .road p k, q => match rest p q with
  | some r => get k r
  | none => []
 | .fork _ v, [] => v
 | .fork ks _, x :: q => get (ks x) q
def isFork : Nd → Bool
 | .fork _ _ => true
 | _ => false
def Two (ks : Fin 16 → Nd) (v : List UInt8) : Prop := (v ≠ [] ∧ ∃ i, ks i ≠ .no) ∨ ∃ i j, i ≠ j ∧ ks i ≠ .no ∧ ks j ≠ .no
def ends (d : Nat) : Prop := d % 2 = 0 ∧ d ≤ 64
def Right : Nd → Nat → Prop
 | .no, _ => True
 | .leaf p v, d => ends (d + p.length) ∧ v ≠ [] ∧ v.length ≤ 1024
 | .road p k, d => p ≠ [] ∧ isFork k = true ∧ Right k (d + p.length)
 | .fork ks v, d => v.length ≤ 1024 ∧ (v ≠ [] → ends d) ∧ (∀ i, Right (ks i) (d + 1)) ∧ Two ks v
theorem get_road (p : Pa) (k : Nd) (q : Pa) : get (.road p k) (p ++ q) = get k q := by
 simp only [get, rest_app]
theorem get_road_in {p : Pa} {k : Nd} {q : Pa} (h : get (.road p k) q ≠ []) : ∃ r, q = p ++ r ∧ get k r ≠ [] := by
 unfold get at h
 cases hr : rest p q with
 | none =>
  rw [hr] at h
  exact absurd rfl h
 | some r =>
  rw [hr] at h
  exact ⟨r, rest_some hr, h⟩
theorem has : ∀ {n : Nd} {d : Nat}, Right n d → n ≠ .no → ∃ q, get n q ≠ []
 | .no, _, _, h => absurd rfl h
 | .leaf p v, _, hr, _ => ⟨p, by unfold get; rw [if_pos rfl]; exact hr.2.1⟩
 | .road p k, _, hr, _ => by
  obtain ⟨q, hq⟩ := has hr.2.2 (fun e => by have := hr.2.1; rw [e] at this; cases this)
  exact ⟨p ++ q, by rw [get_road]; exact hq⟩
 | .fork ks v, _, hr, _ => by
  rcases hr.2.2.2 with ⟨h1, _⟩ | ⟨i, _, _, h1, _⟩
  ·exact ⟨[], h1⟩
  ·obtain ⟨q, hq⟩ := has (hr.2.2.1 i) h1
   exact ⟨i :: q, hq⟩
theorem fork_off {ks : Fin 16 → Nd} {v : List UInt8} {d : Nat} (hr : Right (.fork ks v) d) (x : Fin 16) : ∃ q, get (.fork ks v) q ≠ [] ∧ ∀ r, q ≠ x :: r := by
 have kid : ∀ i, ks i ≠ .no → i ≠ x → ∃ q, get (.fork ks v) q ≠ [] ∧ ∀ r, q ≠ x :: r := fun i h1 h2 => by
  obtain ⟨q, hq⟩ := has (hr.2.2.1 i) h1
  exact ⟨i :: q, hq, fun r e => h2 (List.cons.inj e).1⟩
 rcases hr.2.2.2 with ⟨h1, _⟩ | ⟨i, j, hij, h1, h2⟩
 ·exact ⟨[], h1, fun r e => by cases e⟩
 ·by_cases hx : i = x
  ·exact kid j h2 fun e => hij (hx.trans e.symm)
  ·exact kid i h1 hx
theorem fork_two {ks : Fin 16 → Nd} {v : List UInt8} {d : Nat} (hr : Right (.fork ks v) d) : ∃ q r, get (.fork ks v) q ≠ [] ∧ get (.fork ks v) r ≠ [] ∧ q ≠ r := by
 obtain ⟨q, hq⟩ := has hr (fun e => by cases e)
 cases q with
 | nil =>
  rcases hr.2.2.2 with ⟨_, i, h1⟩ | ⟨i, _, _, h1, _⟩
  ·obtain ⟨r, h2⟩ := has (hr.2.2.1 i) h1
   exact ⟨[], i :: r, hq, h2, fun e => by cases e⟩
  ·obtain ⟨r, h2⟩ := has (hr.2.2.1 i) h1
   exact ⟨[], i :: r, hq, h2, fun e => by cases e⟩
 | cons x q =>
  obtain ⟨r, h1, h2⟩ := fork_off hr x
  exact ⟨x :: q, r, hq, h1, fun e => h2 q e.symm⟩
theorem fork_is {k : Nd} (h : isFork k = true) : ∃ ks v, k = .fork ks v := by
 cases k with
 | fork ks v => exact ⟨ks, v, rfl⟩
 | _ => cases h
theorem road_two {p : Pa} {k : Nd} {d : Nat} (hr : Right (.road p k) d) : ∃ q r, get (.road p k) q ≠ [] ∧ get (.road p k) r ≠ [] ∧ q ≠ r := by
 obtain ⟨ks, v, rfl⟩ := fork_is hr.2.1
 obtain ⟨q, r, h1, h2, h3⟩ := fork_two hr.2.2
 exact ⟨p ++ q, p ++ r, by rw [get_road]; exact h1, by rw [get_road]; exact h2, fun e => h3 (List.append_cancel_left e)⟩
theorem leaf_one {p : Pa} {v : List UInt8} {q : Pa} (h : get (.leaf p v) q ≠ []) : q = p := by
 unfold get at h
 split at h
 ·rename_i e
  exact e.symm
 ·exact absurd rfl h
theorem road_path : ∀ {p p' : Pa} {k k' : Nd} {d d' : Nat}, Right (.road p k) d → Right (.road p' k') d' → (∀ q, get (.road p k) q = get (.road p' k') q) → ∃ r, p = p' ++ r := by
  intro p p' k k' d d' h h' hg
  have key : ∀ (p p' r : Pa) (x : Fin 16), p' = p ++ x :: r → ∀ (k k' : Nd) (d d' : Nat), Right (.road p k) d → Right (.road p' k') d' → (∀ q, get (.road p k) q = get (.road p' k') q) → False := by
    intro p p' r x e k k' d d' h h' hg
    obtain ⟨ks, v, rfl⟩ := fork_is h.2.1
    obtain ⟨q, h1, h2⟩ := fork_off h.2.2 x
    have h3 : get (.road p (.fork ks v)) (p ++ q) ≠ [] := by rw [get_road]; exact h1
    rw [hg] at h3
    obtain ⟨s, e2, _⟩ := get_road_in h3
    rw [e, List.append_assoc] at e2
    exact h2 _ (List.append_cancel_left e2)
  obtain ⟨q, hq⟩ := has h (fun e => by cases e)
  obtain ⟨r, e1, _⟩ := get_road_in hq
  rw [hg] at hq
  obtain ⟨r', e2, _⟩ := get_road_in hq
  rcases Nat.le_total p'.length p.length with hl | hl
  · exact ⟨p.drop p'.length, by
      have := congrArg (List.take p'.length) (e1.symm.trans e2)
      rw [List.take_append_of_le_length hl, List.take_left' rfl] at this
      conv => lhs; rw [← List.take_append_drop p'.length p, this]⟩
  · have e3 : p' = p ++ p'.drop p.length := by
      have := congrArg (List.take p.length) (e2.symm.trans e1)
      rw [List.take_append_of_le_length hl, List.take_left' rfl] at this
      conv => lhs; rw [← List.take_append_drop p.length p', this]
    cases hd : p'.drop p.length with
    | nil => exact ⟨[], by rw [hd] at e3; rw [e3]; simp⟩
    | cons x r => exact (key p p' r x (by rw [e3, hd]) k k' d d' h h' hg).elim
theorem ext : ∀ {a b : Nd} {d : Nat}, Right a d → Right b d → (∀ q, get a q = get b q) → a = b
 | .no, b, d, _, hb, hg => by
  apply Classical.byContradiction
  intro hne
  obtain ⟨q, hq⟩ := has hb fun e => hne e.symm
  exact hq (hg q).symm
 | .leaf p v, b, d, ha, hb, hg => by
  have two : ∀ q r, get b q ≠ [] → get b r ≠ [] → q = r := fun q r h1 h2 => by
   rw [← hg] at h1 h2
   rw [leaf_one h1, leaf_one h2]
  have hp : get (.leaf p v) p = v := by unfold get; rw [if_pos rfl]
  cases b with
  | no =>
   have h := hg p
   rw [hp] at h
   exact absurd h ha.2.1
  | leaf p' v' =>
   have h := hg p
   rw [hp] at h
   have h1 : get (.leaf p' v') p ≠ [] := by rw [← h]; exact ha.2.1
   obtain rfl := leaf_one h1
   unfold get at h
   rw [if_pos rfl] at h
   rw [h]
  | road p' k' =>
   obtain ⟨q, r, h1, h2, h3⟩ := road_two hb
   exact absurd (two q r h1 h2) h3
  | fork ks' v' =>
   obtain ⟨q, r, h1, h2, h3⟩ := fork_two hb
   exact absurd (two q r h1 h2) h3
 | .road p k, b, d, ha, hb, hg => by
  cases b with
  | no =>
   obtain ⟨q, hq⟩ := has ha (fun e => by cases e)
   exact absurd (hg q) hq
  | leaf p' v' =>
   obtain ⟨q, r, h1, h2, h3⟩ := road_two ha
   rw [hg] at h1 h2
   exact absurd ((leaf_one h1).trans (leaf_one h2).symm) h3
  | road p' k' =>
   obtain ⟨r, e1⟩ := road_path ha hb hg
   obtain ⟨r', e2⟩ := road_path hb ha fun q => (hg q).symm
   have hr : r = [] := by
    have h1 := congrArg List.length e1
    have h2 := congrArg List.length e2
    rw [List.length_append] at h1 h2
    exact List.eq_nil_of_length_eq_zero (by omega)
   rw [hr, List.append_nil] at e1
   subst e1
   have hk := ext ha.2.2 hb.2.2 fun q => by
    have := hg (p ++ q)
    rwa [get_road, get_road] at this
   rw [hk]
  | fork ks' v' =>
   exfalso
   cases p with
   | nil => exact ha.1 rfl
   | cons x p =>
    obtain ⟨q, h1, h2⟩ := fork_off hb x
    rw [← hg] at h1
    obtain ⟨r, e, _⟩ := get_road_in h1
    exact h2 _ e
 | .fork ks v, b, d, ha, hb, hg => by
  cases b with
  | no =>
   obtain ⟨q, hq⟩ := has ha (fun e => by cases e)
   exact absurd (hg q) hq
  | leaf p' v' =>
   obtain ⟨q, r, h1, h2, h3⟩ := fork_two ha
   rw [hg] at h1 h2
   exact absurd ((leaf_one h1).trans (leaf_one h2).symm) h3
  | road p' k' =>
   exfalso
   cases p' with
   | nil => exact hb.1 rfl
   | cons x p =>
    obtain ⟨q, h1, h2⟩ := fork_off ha x
    rw [hg] at h1
    obtain ⟨r, e, _⟩ := get_road_in h1
    exact h2 _ e
  | fork ks' v' =>
   have hv : v = v' := hg []
   have hk : ks = ks' := funext fun i => ext (ha.2.2.1 i) (hb.2.2.1 i) fun q => hg (i :: q)
   rw [hv, hk]
end Tr
set_option maxRecDepth 100000
namespace Tr
def isNo : Nd → Bool
 | .no => true
 | _ => false
theorem isNo_eq {n : Nd} : isNo n = true ↔ n = .no := by
 cases n <;> simp [isNo]
theorem isNo_ne {n : Nd} : isNo n = false ↔ n ≠ .no := by
 cases n <;> simp [isNo]
def behind : Pa → Nd → Nd
 | [], n => n
 | _ :: _, .no => .no
 | x :: p, .leaf q v => .leaf (x :: p ++ q) v
 | x :: p, .road q k => .road (x :: p ++ q) k
 | x :: p, .fork ks v => .road (x :: p) (.fork ks v)
theorem rest_two : ∀ (p p' q : Pa), rest (p ++ p') q = (rest p q).bind (rest p')
 | [], _, _ => rfl
 | x :: p, p', [] => rfl
 | x :: p, p', y :: q => by
  simp only [List.cons_append, rest]
  split
  ·exact rest_two p p' q
  ·rfl
theorem get_behind (p : Pa) (n : Nd) (q : Pa) : get (behind p n) q = match rest p q with
  | some r => get n r
  | none => [] := by
 cases p with
 | nil => rfl
 | cons x p =>
  cases n with
  | no =>
   simp only [behind, get] <;> cases rest (x :: p) q <;> rfl
  | leaf q' v =>
   simp only [behind, get]
   cases h : rest (x :: p) q with
   | none => rw [if_neg fun e => rest_none h q' e.symm]
   | some r =>
    have e := rest_some h
    subst e
    by_cases e : q' = r
    ·subst e
     simp
    ·rw [if_neg fun k => e (List.append_cancel_left k)]
     simp [e]
  | road q' k =>
   simp only [behind, get, rest_two]
   cases rest (x :: p) q with
   | none => rfl
   | some r => simp only [Option.bind_some]
  | fork ks v =>
   simp only [behind, get] <;> cases rest (x :: p) q <;> rfl
theorem right_behind {p : Pa} {n : Nd} {d : Nat} (h : Right n (d + p.length)) : Right (behind p n) d := by
 cases p with
 | nil => exact h
 | cons x p =>
  cases n with
  | no => trivial
  | leaf q v => exact ⟨by rw [List.length_append, ← Nat.add_assoc]; exact h.1, h.2⟩
  | road q k => exact ⟨by simp, h.2.1, by rw [List.length_append, ← Nat.add_assoc]; exact h.2.2⟩
  | fork ks v => exact ⟨by simp, rfl, h⟩
theorem behind_no {p : Pa} {n : Nd} (h : behind p n = .no) : n = .no := by
 cases p with
 | nil => exact h
 | cons x p => cases n <;> simp [behind] at h ⊢
def kidsOf (ks : Fin 16 → Nd) : List (Fin 16) := (List.finRange 16).filter fun i => !isNo (ks i)
theorem kids_mem {ks : Fin 16 → Nd} {i : Fin 16} : i ∈ kidsOf ks ↔ ks i ≠ .no := by
 unfold kidsOf
 rw [List.mem_filter, Bool.not_eq_true', isNo_ne]
 exact ⟨fun h => h.2, fun h => ⟨List.mem_finRange i, h⟩⟩
theorem kids_nodup (ks : Fin 16 → Nd) : (kidsOf ks).Nodup := List.Nodup.sublist List.filter_sublist (List.nodup_finRange 16)
def tidy (ks : Fin 16 → Nd) (v : List UInt8) : Nd :=
 match kidsOf ks with
 | [] => if v = [] then .no else .leaf [] v
 | [i] => if v = [] then behind [i] (ks i) else .fork ks v
 | _ :: _ :: _ => .fork ks v
theorem get_tidy (ks : Fin 16 → Nd) (v : List UInt8) (q : Pa) : get (tidy ks v) q = get (.fork ks v) q := by
  have hm := fun i => kids_mem (ks := ks) (i := i)
  unfold tidy
  cases h : kidsOf ks with
  | nil =>
    have h0 : ∀ i, ks i = .no := fun i => Classical.byContradiction fun k => by
      have := (hm i).2 k
      rw [h] at this
      cases this
    simp only
    cases q with
    | nil =>
      by_cases hv : v = []
      · rw [if_pos hv]; simp [get, hv]
      · rw [if_neg hv]; simp [get]
    | cons x q =>
      by_cases hv : v = []
      · rw [if_pos hv]; simp [get, h0 x]
      · rw [if_neg hv]; simp [get, h0 x]
  | cons i t =>
    cases t with
    | cons j t => rfl
    | nil =>
      simp only
      by_cases hv : v = []
      · rw [if_pos hv, get_behind]
        cases q with
        | nil => simp [rest, get, hv]
        | cons x q =>
          by_cases hx : i = x
          · subst hx
            simp [rest, get]
          · have h0 : ks x = .no := Classical.byContradiction fun k => by
              have := (hm x).2 k
              rw [h] at this
              exact hx (List.mem_singleton.1 this).symm
            simp [rest, get, hx, h0]
      · rw [if_neg hv]
theorem right_tidy {ks : Fin 16 → Nd} {v : List UInt8} {d : Nat} (hv : v.length ≤ 1024) (he : v ≠ [] → ends d) (hk : ∀ i, Right (ks i) (d + 1)) : Right (tidy ks v) d := by
 have hm := fun i => kids_mem (ks := ks) (i := i)
 have hn := kids_nodup ks
 unfold tidy
 cases h : kidsOf ks with
 | nil =>
  simp only
  by_cases h0 : v = []
  ·rw [if_pos h0]; trivial
  ·rw [if_neg h0]; exact ⟨he h0, h0, hv⟩
 | cons i t =>
  rw [h] at hn
  have hi := (hm i).1 (by rw [h]; simp)
  cases t with
  | nil =>
   simp only
   by_cases h0 : v = []
   ·rw [if_pos h0]
    exact right_behind (p := [i]) (hk i)
   ·rw [if_neg h0]
    exact ⟨hv, he, hk, .inl ⟨h0, i, hi⟩⟩
  | cons j t =>
   have hj := (hm j).1 (by rw [h]; simp)
   simp only
   refine ⟨hv, he, hk, .inr ⟨i, j, fun e => ?_, hi, hj⟩⟩
   subst e
   simp at hn
end Tr
set_option maxRecDepth 100000
namespace Tr
def setK (ks : Fin 16 → Nd) (x : Fin 16) (n : Nd) : Fin 16 → Nd := fun i => if i = x then n else ks i
def none16 : Fin 16 → Nd := fun _ => .no
def valOf : Nd → List UInt8
 | .leaf _ v => v
 | _ => []
def kids1 (pa : Pa) (a : Nd) : Fin 16 → Nd :=
 match pa with
 | [] => none16
 | x :: r => setK none16 x (behind r a)
def val1 (pa : Pa) (a : Nd) : List UInt8 :=
 match pa with
 | [] => valOf a
 | _ :: _ => []
def part (pre pa : Pa) (a : Nd) (q : Pa) (v : List UInt8) : Nd :=
 behind pre (match q with
  | [] => .fork (kids1 pa a) v
  | y :: s => .fork (setK (kids1 pa a) y (.leaf s v)) (val1 pa a))
theorem setK_at (ks : Fin 16 → Nd) (x : Fin 16) (n : Nd) : setK ks x n x = n := if_pos rfl
theorem setK_off (ks : Fin 16 → Nd) {x y : Fin 16} (n : Nd) (h : y ≠ x) : setK ks x n y = ks y := if_neg h
theorem get_behind_cons (x : Fin 16) (p : Pa) (n : Nd) (y : Fin 16) (q : Pa) : get (behind (x :: p) n) (y :: q) = if x = y then get (behind p n) q else [] := by
 rw [get_behind, get_behind]
 simp only [rest]
 by_cases h : x = y
 ·rw [if_pos h, if_pos h]
 ·rw [if_neg h, if_neg h]
theorem get_behind_nil (x : Fin 16) (p : Pa) (n : Nd) : get (behind (x :: p) n) [] = [] := by
 rw [get_behind]
 rfl
theorem get_kids1 (x : Fin 16) (r : Pa) (a : Nd) (z : Fin 16) (q : Pa) : get (kids1 (x :: r) a z) q = get (behind (x :: r) a) (z :: q) := by
 rw [get_behind_cons]
 show get (setK none16 x (behind r a) z) q = _
 by_cases h : x = z
 ·subst h
  rw [setK_at, if_pos rfl]
 ·rw [setK_off _ _ fun e => h e.symm, if_neg h]
  rfl
def Off (pa q : Pa) : Prop := (pa ≠ [] ∨ q ≠ []) ∧ ∀ x r s, ¬ (pa = x :: r ∧ q = x :: s)
theorem get_part {pre pa : Pa} {a : Nd} {q : Pa} {v : List UInt8} (ho : Off pa q) (ha : pa = [] → ∃ w, a = .leaf [] w) (t : Pa) : get (part pre pa a q v) t = match rest pre t with
  | some r => if r = q then v else get (behind pa a) r
  | none => [] := by
 unfold part
 rw [get_behind]
 cases rest pre t with
 | none => rfl
 | some r =>
  simp only
  cases q with
  | nil =>
   cases pa with
   | nil => exact absurd ho.1 (by simp)
   | cons x pr =>
    cases r with
    | nil => rw [if_pos rfl]; rfl
    | cons z r =>
     rw [if_neg (by simp)]
     exact get_kids1 x pr a z r
  | cons y s =>
   simp only
   cases r with
   | nil =>
    rw [if_neg (by simp)]
    cases pa with
    | nil =>
     obtain ⟨w, rfl⟩ := ha rfl
     simp [get, val1, valOf, behind]
    | cons x pr =>
     rw [get_behind_nil]
     rfl
   | cons z r =>
    show get (setK (kids1 pa a) y (.leaf s v) z) r = _
    by_cases hz : z = y
    ·subst hz
     rw [setK_at]
     by_cases hs : r = s
     ·subst hs
      rw [if_pos rfl]
      simp [get]
     ·rw [if_neg fun e => hs (List.cons.inj e).2]
      have h1 : get (.leaf s v) r = [] := by
       unfold get
       rw [if_neg fun e => hs e.symm]
      rw [h1]
      cases pa with
      | nil =>
       obtain ⟨w, rfl⟩ := ha rfl
       simp [get, behind]
      | cons x pr =>
       rw [get_behind_cons, if_neg fun e => ho.2 x pr s ⟨rfl, by rw [e]⟩]
    ·rw [setK_off _ _ hz, if_neg fun e => hz (List.cons.inj e).1]
     cases pa with
     | nil =>
      obtain ⟨w, rfl⟩ := ha rfl
      simp [get, behind, kids1, none16]
     | cons x pr => exact get_kids1 x pr a z r
def common : Pa → Pa → Nat
 | x :: p, y :: q => if x = y then common p q + 1 else 0
 | _, _ => 0
theorem common_spec : ∀ (a b : Pa), a = a.take (common a b) ++ a.drop (common a b) ∧ b = a.take (common a b) ++ b.drop (common a b) ∧ ∀ x r s, ¬ (a.drop (common a b) = x :: r ∧ b.drop (common a b) = x :: s)
 | [], b => ⟨rfl, by simp [common], fun x r s h => by simp at h⟩
 | x :: p, [] => ⟨by simp [common], by simp [common], fun y r s h => by simp at h⟩
 | x :: p, y :: q => by
  by_cases h : x = y
  ·subst h
   obtain ⟨h1, h2, h3⟩ := common_spec p q
   have e : common (x :: p) (x :: q) = common p q + 1 := if_pos rfl
   rw [e]
   simp only [List.take_succ_cons, List.drop_succ_cons, List.cons_append]
   exact ⟨congrArg _ h1, congrArg _ h2, h3⟩
  ·have e : common (x :: p) (y :: q) = 0 := if_neg h
   rw [e]
   refine ⟨by simp, by simp, fun z r s k => ?_⟩
   simp only [List.drop_zero, List.cons.injEq] at k
   exact h (k.1.1.trans k.2.1.symm)
theorem get_leaf (p : Pa) (v : List UInt8) (t : Pa) : get (.leaf p v) t = get (behind p (.leaf [] v)) t := by
 cases p with
 | nil => rfl
 | cons x p => simp [behind]
theorem behind_two (pre pa : Pa) (a : Nd) (t : Pa) : get (behind (pre ++ pa) a) t = match rest pre t with
  | some r => get (behind pa a) r
  | none => [] := by
 rw [get_behind, rest_two]
 cases rest pre t with
 | none => rfl
 | some r => simp only [Option.bind_some]; rw [get_behind]
def put : Nd → Pa → List UInt8 → Nd
 | .no, p, v => if v = [] then .no else .leaf p v
 | .leaf p0 v0, p, v => if p0 = p then (if v = [] then .no else .leaf p v) else if v = [] then .leaf p0 v0 else part (p0.take (common p0 p)) (p0.drop (common p0 p)) (.leaf [] v0) (p.drop (common p0 p)) v
 | .road p0 k, p, v => match rest p0 p with
  | some r => behind p0 (put k r v)
  | none => if v = [] then .road p0 k else part (p0.take (common p0 p)) (p0.drop (common p0 p)) k (p.drop (common p0 p)) v
 | .fork ks _, [], v => tidy ks v
 | .fork ks v0, x :: p, v => tidy (setK ks x (put (ks x) p v)) v0
theorem get_parted {p0 p : Pa} {a : Nd} {v : List UInt8} (hne : p0 ≠ p) (ha : p0.drop (common p0 p) = [] → ∃ w, a = .leaf [] w) (t : Pa) : get (part (p0.take (common p0 p)) (p0.drop (common p0 p)) a (p.drop (common p0 p)) v) t = if t = p then v else get (behind p0 a) t := by
 obtain ⟨h1, h2, h3⟩ := common_spec p0 p
 have ho : Off (p0.drop (common p0 p)) (p.drop (common p0 p)) := ⟨by
  by_cases e : p0.drop (common p0 p) = []
  ·right
   intro e2
   rw [e] at h1
   rw [e2] at h2
   exact hne (h1.trans h2.symm)
  ·exact .inl e, h3⟩
 rw [get_part ho ha]
 conv => rhs; rw [h1, behind_two]
 cases hr : rest (p0.take (common p0 p)) t with
 | none => rw [if_neg fun e => rest_none hr _ (e.trans h2)]
 | some r =>
  have e := rest_some hr
  simp only
  by_cases hq : r = p.drop (common p0 p)
  ·rw [if_pos hq, if_pos (by rw [e, hq]; exact h2.symm)]
  ·rw [if_neg hq, if_neg fun k => hq (List.append_cancel_left (e.symm.trans (k.trans h2)))]
theorem get_put : ∀ (n : Nd) (p : Pa) (v : List UInt8) (q : Pa), get (put n p v) q = if q = p then v else get n q
  | .no, p, v, q => by
    unfold put
    by_cases hv : v = []
    · rw [if_pos hv]; simp [get, hv]
    · rw [if_neg hv]
      by_cases h : q = p
      · subst h; simp [get]
      · have h' : ¬ p = q := fun e => h e.symm
        simp [get, h, h']
  | .leaf p0 v0, p, v, q => by
    unfold put
    by_cases h0 : p0 = p
    · subst h0
      rw [if_pos rfl]
      by_cases hv : v = []
      · rw [if_pos hv]
        by_cases h : q = p0
        · subst h; simp [get, hv]
        · have h' : ¬ p0 = q := fun e => h e.symm
          simp [get, h, h']
      · rw [if_neg hv]
        by_cases h : q = p0
        · subst h; simp [get]
        · have h' : ¬ p0 = q := fun e => h e.symm
          simp [get, h, h']
    · rw [if_neg h0]
      by_cases hv : v = []
      · rw [if_pos hv]
        by_cases h : q = p
        · subst h; simp [get, h0, hv]
        · rw [if_neg h]
      · rw [if_neg hv, get_parted h0 (fun _ => ⟨_, rfl⟩), get_leaf]
  | .road p0 k, p, v, q => by
    unfold put
    cases hr : rest p0 p with
    | some r =>
      have e := rest_some hr
      simp only
      rw [get_behind]
      cases hq : rest p0 q with
      | none =>
        rw [if_neg fun k => rest_none hq r (k.trans e)]
        simp [get, hq]
      | some r' =>
        have e' := rest_some hq
        simp only
        rw [get_put k r v r']
        by_cases h : r' = r
        · subst h; rw [if_pos rfl, if_pos (e'.trans e.symm)]
        · rw [if_neg h, if_neg fun k => h (by rw [e', e] at k; exact List.append_cancel_left k)]
          simp [get, hq]
    | none =>
      simp only
      have h0 : p0 ≠ p := fun k => rest_none hr [] (by rw [List.append_nil]; exact k.symm)
      by_cases hv : v = []
      · rw [if_pos hv]
        by_cases h : q = p
        · subst h; simp [get, hr, hv]
        · rw [if_neg h]
      · rw [if_neg hv, get_parted h0 (fun k0 => by
          exfalso
          obtain ⟨h1, h2, _⟩ := common_spec p0 p
          rw [k0, List.append_nil] at h1
          rw [← h1] at h2
          exact rest_none hr _ h2), get_behind]
        simp only [get] <;> cases rest p0 q <;> rfl
  | .fork ks v0, [], v, q => by
    unfold put
    rw [get_tidy]
    cases q with
    | nil => simp [get]
    | cons x q => simp [get]
  | .fork ks v0, x :: p, v, q => by
    unfold put
    rw [get_tidy]
    cases q with
    | nil => simp [get]
    | cons y q =>
      show get (setK ks x (put (ks x) p v) y) q = _
      by_cases h : y = x
      · subst h
        rw [setK_at, get_put (ks y) p v q]
        simp [get]
      · rw [setK_off _ _ h, if_neg fun e => h (List.cons.inj e).1]
        rfl
end Tr
set_option maxRecDepth 100000
namespace Tr
theorem off_common {p0 p : Pa} (hne : p0 ≠ p) : Off (p0.drop (common p0 p)) (p.drop (common p0 p)) := by
 obtain ⟨h1, h2, h3⟩ := common_spec p0 p
 refine ⟨?_, h3⟩
 by_cases e : p0.drop (common p0 p) = []
 ·right
  intro e2
  rw [e] at h1
  rw [e2] at h2
  exact hne (h1.trans h2.symm)
 ·exact .inl e
theorem right_part {pre pa : Pa} {a : Nd} {q : Pa} {v : List UInt8} {d : Nat} (ho : Off pa q) (ha : pa = [] → ∃ w, a = .leaf [] w) (hn : a ≠ .no) (hr : Right a (d + pre.length + pa.length)) (he : ends (d + pre.length + q.length)) (hv : v ≠ []) (hl : v.length ≤ 1024) : Right (part pre pa a q v) d := by
 unfold part
 refine right_behind ?_
 have hk : ∀ i, Right (kids1 pa a i) (d + pre.length + 1) := fun i => by
  cases pa with
  | nil => trivial
  | cons x pr =>
   show Right (setK none16 x (behind pr a) i) _
   by_cases hi : i = x
   ·subst hi
    rw [setK_at]
    refine right_behind ?_
    rw [List.length_cons] at hr
    rw [show d + pre.length + 1 + pr.length = d + pre.length + (pr.length + 1) by omega]
    exact hr
   ·rw [setK_off _ _ hi]
    trivial
 have hx : ∀ x pr, pa = x :: pr → kids1 pa a x ≠ .no := fun x pr e k => by
  subst e
  have k2 : setK none16 x (behind pr a) x = .no := k
  rw [setK_at] at k2
  exact hn (behind_no k2)
 cases q with
 | nil =>
  cases pa with
  | nil => exact absurd ho.1 (by simp)
  | cons x pr => exact ⟨hl, fun _ => he, hk, .inl ⟨hv, x, hx x pr rfl⟩⟩
 | cons y s =>
  have hy : Right (.leaf s v) (d + pre.length + 1) := ⟨by
   rw [List.length_cons] at he
   rw [show d + pre.length + 1 + s.length = d + pre.length + (s.length + 1) by omega]
   exact he, hv, hl⟩
  have hks : ∀ i, Right (setK (kids1 pa a) y (.leaf s v) i) (d + pre.length + 1) := fun i => by
   by_cases hi : i = y
   ·subst hi
    rw [setK_at]
    exact hy
   ·rw [setK_off _ _ hi]
    exact hk i
  have hyn : setK (kids1 pa a) y (.leaf s v) y ≠ .no := by
   rw [setK_at]
   intro e
   cases e
  cases pa with
  | nil =>
   obtain ⟨w, rfl⟩ := ha rfl
   exact ⟨hr.2.2, fun _ => hr.1, hks, .inl ⟨hr.2.1, y, hyn⟩⟩
  | cons x pr =>
   have hxy : x ≠ y := fun e => ho.2 x pr s ⟨rfl, by rw [e]⟩
   exact ⟨Nat.zero_le _, fun k => absurd rfl k, hks, .inr ⟨x, y, hxy, by rw [setK_off _ _ hxy]; exact hx x pr rfl, hyn⟩⟩
theorem right_put : ∀ (n : Nd) (p : Pa) (v : List UInt8) (d : Nat), Right n d → ends (d + p.length) → v.length ≤ 1024 → Right (put n p v) d
 | .no, p, v, d, _, he, hl => by
  unfold put
  by_cases hv : v = []
  ·rw [if_pos hv]; trivial
  ·rw [if_neg hv]; exact ⟨he, hv, hl⟩
 | .leaf p0 v0, p, v, d, hr, he, hl => by
  unfold put
  by_cases h0 : p0 = p
  ·rw [if_pos h0]
   by_cases hv : v = []
   ·rw [if_pos hv]; trivial
   ·rw [if_neg hv]; exact ⟨he, hv, hl⟩
  ·rw [if_neg h0]
   by_cases hv : v = []
   ·rw [if_pos hv]; exact hr
   ·rw [if_neg hv]
    obtain ⟨h1, h2, _⟩ := common_spec p0 p
    have l1 := congrArg List.length h1
    have l2 := congrArg List.length h2
    rw [List.length_append] at l1 l2
    refine right_part (off_common h0) (fun _ => ⟨_, rfl⟩) (fun e => by cases e) ⟨?_, hr.2⟩ ?_ hv hl
    ·rw [List.length_nil, Nat.add_zero, Nat.add_assoc, ← l1]
     exact hr.1
    ·rw [Nat.add_assoc, ← l2]
     exact he
 | .road p0 k, p, v, d, hr, he, hl => by
  unfold put
  cases hq : rest p0 p with
  | some r =>
   have e := rest_some hq
   simp only
   refine right_behind (right_put k r v _ hr.2.2 ?_ hl)
   rw [e, List.length_append, ← Nat.add_assoc] at he
   exact he
  | none =>
   simp only
   have h0 : p0 ≠ p := fun k => rest_none hq [] (by rw [List.append_nil]; exact k.symm)
   by_cases hv : v = []
   ·rw [if_pos hv]; exact hr
   ·rw [if_neg hv]
    obtain ⟨h1, h2, _⟩ := common_spec p0 p
    have l1 := congrArg List.length h1
    have l2 := congrArg List.length h2
    rw [List.length_append] at l1 l2
    refine right_part (off_common h0) (fun k0 => ?_) (fun e => ?_) ?_ ?_ hv hl
    ·exfalso
     rw [k0, List.append_nil] at h1
     rw [← h1] at h2
     exact rest_none hq _ h2
    ·have := hr.2.1
     rw [e] at this
     cases this
    ·rw [Nat.add_assoc, ← l1]
     exact hr.2.2
    ·rw [Nat.add_assoc, ← l2]
     exact he
 | .fork ks v0, [], v, d, hr, he, hl => by
  unfold put
  exact right_tidy hl (fun _ => he) hr.2.2.1
 | .fork ks v0, x :: p, v, d, hr, he, hl => by
  unfold put
  refine right_tidy hr.1 hr.2.1 fun i => ?_
  by_cases hi : i = x
  ·subst hi
   rw [setK_at]
   refine right_put (ks i) p v (d + 1) (hr.2.2.1 i) ?_ hl
   rw [List.length_cons] at he
   rw [show d + 1 + p.length = d + (p.length + 1) by omega]
   exact he
  ·rw [setK_off _ _ hi]
   exact hr.2.2.1 i
theorem put_comm {n : Nd} {p q : Pa} {v w : List UInt8} (hr : Right n 0) (hp : ends p.length) (hq : ends q.length) (hv : v.length ≤ 1024) (hw : w.length ≤ 1024) (hne : p ≠ q) : put (put n p v) q w = put (put n q w) p v := by
 refine ext (d := 0) (right_put _ _ _ _ (right_put _ _ _ _ hr (by rwa [Nat.zero_add]) hv) (by rwa [Nat.zero_add]) hw) (right_put _ _ _ _ (right_put _ _ _ _ hr (by rwa [Nat.zero_add]) hw) (by rwa [Nat.zero_add]) hv) fun t => ?_
 rw [get_put, get_put, get_put, get_put]
 by_cases h1 : t = q
 ·subst h1
  rw [if_pos rfl, if_neg fun e => hne e.symm, if_pos rfl]
 ·rw [if_neg h1, if_neg h1]
end Tr
set_option maxRecDepth 100000
namespace Tr
def pairs : Nd → Pa → List (Pa × List UInt8)
 | .no, _ => []
 | .leaf p v, pre => [(pre ++ p, v)]
 | .road p k, pre => pairs k (pre ++ p)
 | .fork ks v, pre => (if v = [] then [] else [(pre, v)]) ++ (List.finRange 16).flatMap fun i => pairs (ks i) (pre ++ [i])
def ofL (n : Nd) (l : List (Pa × List UInt8)) : Nd := l.foldl (fun n e => put n e.1 e.2) n
theorem right_ofL : ∀ (l : List (Pa × List UInt8)) (n : Nd), Right n 0 → (∀ e ∈ l, ends e.1.length ∧ e.2.length ≤ 1024) → Right (ofL n l) 0
 | [], _, h, _ => h
 | (p, v) :: l, n, h, hl => by
  have h1 := hl (p, v) (by simp)
  exact right_ofL l (put n p v) (right_put n p v 0 h (by rw [Nat.zero_add]; exact h1.1) h1.2) fun e he => hl e (List.mem_cons_of_mem _ he)
end Tr
set_option maxRecDepth 100000
namespace Tr
def hi4 (x : UInt8) : Fin 16 := ⟨x.toNat / 16, by have := x.toNat_lt; omega⟩
def lo4 (x : UInt8) : Fin 16 := ⟨x.toNat % 16, by omega⟩
def keyP : List UInt8 → Pa
 | [] => []
 | x :: l => hi4 x :: lo4 x :: keyP l
def keyB : Pa → List UInt8
 | a :: b :: p => UInt8.ofNat (a.val * 16 + b.val) :: keyB p
 | _ => []
theorem keyP_len : ∀ l, (keyP l).length = 2 * l.length
 | [] => rfl
 | x :: l => by simp only [keyP, List.length_cons, keyP_len l]; omega
theorem keyB_P : ∀ l, keyB (keyP l) = l
 | [] => rfl
 | x :: l => by
  have hx := x.toNat_lt
  simp only [keyP, keyB, keyB_P l]
  congr 1
  apply UInt8.toNat_inj.1
  simp only [UInt8.toNat_ofNat', hi4, lo4]
  omega
theorem keyP_B : ∀ {p : Pa}, p.length % 2 = 0 → keyP (keyB p) = p
 | [], _ => rfl
 | [_], h => by simp at h
 | a :: b :: p, h => by
  have ha := a.isLt
  have hb := b.isLt
  have ih := keyP_B (p := p) (by simp only [List.length_cons] at h; omega)
  simp only [keyB, keyP, ih]
  congr 1
  ·apply Fin.ext
   simp only [hi4, UInt8.toNat_ofNat']
   omega
  ·congr 1
   apply Fin.ext
   simp only [lo4, UInt8.toNat_ofNat']
   omega
theorem keyP_ends {l : List UInt8} (h : l.length ≤ 32) : ends (keyP l).length := by
 rw [keyP_len]
 exact ⟨by omega, by omega⟩
end Tr
set_option maxRecDepth 100000
namespace Tr
inductive Rn where
 | mk (k : Int) (p v : List UInt8) (ks : List Rn)
 deriving Inhabited
mutual
def Rn.size : Rn → Nat
 | .mk _ p v ks => 1 + p.length + v.length + Rn.sizeL ks
def Rn.sizeL : List Rn → Nat
 | [] => 0
 | k :: r => k.size + 1 + Rn.sizeL r
end
def Rn.kind : Rn → Int
 | .mk k _ _ _ => k
def Rn.no : Rn := .mk 0 [] [] []
def halvesB (p : List UInt8) : Bool := p.all fun x => decide (x.toNat ≤ 15)
def endsB (d : Nat) : Bool := decide (d % 2 = 0) && decide (d ≤ 64)
def many (ks : List Rn) : Nat := (ks.filter fun k => decide (k.kind ≠ 0)).length
mutual
def rt : Rn → Nat → Bool
 | .mk k p v ks, d =>
  if k = 0 then true
  else if k = 1 then halvesB p && endsB (d + p.length) && decide (0 < v.length) && decide (v.length ≤ 1024)
  else if k = 2 then decide (0 < p.length) && halvesB p && decide (ks.length = 1) && decide ((ks.getD 0 default).kind = 3) && rtL ks (d + p.length)
  else if k = 3 then decide (ks.length = 16) && decide (v.length ≤ 1024) && (decide (v.length = 0) || endsB d) && rtL ks (d + 1) && decide (2 ≤ min v.length 1 + many ks)
  else false
def rtL : List Rn → Nat → Bool
 | [], _ => true
 | k :: r, d => rt k d && rtL r d
end
def pOf (p : List UInt8) : Pa := p.map fun x => ⟨x.toNat % 16, by omega⟩
def pB (p : Pa) : List UInt8 := p.map fun x => UInt8.ofNat x.val
theorem pB_len (p : Pa) : (pB p).length = p.length := List.length_map _
theorem pOf_len (p : List UInt8) : (pOf p).length = p.length := List.length_map _
theorem half_byte (i : Fin 16) : (UInt8.ofNat i.val).toNat = i.val := by
 have h := i.isLt
 simp only [UInt8.toNat_ofNat']
 omega
theorem half_inj {i j : Fin 16} (h : UInt8.ofNat i.val = UInt8.ofNat j.val) : i = j := by
 have := congrArg UInt8.toNat h
 rw [half_byte, half_byte] at this
 exact Fin.ext this
theorem pB_inj {p q : Pa} (h : pB p = pB q) : p = q := by
 unfold pB at h
 induction p generalizing q with
 | nil => cases q with
  | nil => rfl
  | cons y q => cases h
 | cons x p ih => cases q with
  | nil => cases h
  | cons y q =>
   simp only [List.map_cons, List.cons.injEq] at h
   rw [half_inj h.1, ih h.2]
theorem pOf_B (p : Pa) : pOf (pB p) = p := by
 unfold pOf pB
 rw [List.map_map]
 conv => rhs; rw [← List.map_id p]
 refine List.map_congr_left fun x _ => Fin.ext ?_
 have h := half_byte x
 have h2 := x.isLt
 show (UInt8.ofNat x.val).toNat % 16 = x.val
 omega
theorem pB_of {p : List UInt8} (h : halvesB p = true) : pB (pOf p) = p := by
 unfold pOf pB
 rw [List.map_map]
 conv => rhs; rw [← List.map_id p]
 refine List.map_congr_left fun x hx => UInt8.toNat_inj.1 ?_
 have h1 : x.toNat ≤ 15 := of_decide_eq_true (List.all_eq_true.1 h x hx)
 show (UInt8.ofNat (x.toNat % 16)).toNat = x.toNat
 simp only [UInt8.toNat_ofNat']
 omega
theorem halves_pB (p : Pa) : halvesB (pB p) = true := by
 unfold halvesB pB
 rw [List.all_eq_true]
 intro x hx
 obtain ⟨i, _, rfl⟩ := List.mem_map.1 hx
 have h := half_byte i
 have := i.isLt
 exact decide_eq_true (by omega)
theorem pB_app (p q : Pa) : pB (p ++ q) = pB p ++ pB q := List.map_append
mutual
def toN : Rn → Nd
 | .mk k p v ks => if k = 1 then .leaf (pOf p) v else if k = 2 then .road (pOf p) (toNL ks 0) else if k = 3 then .fork (fun i => toNL ks i.val) v else .no
def toNL : List Rn → Nat → Nd
 | [], _ => .no
 | x :: _, 0 => toN x
 | _ :: r, i + 1 => toNL r i
end
theorem toN_default : toN default = .no := by
 show toN (.mk default default default default) = _
 unfold toN
 rfl
theorem toNL_get : ∀ (ks : List Rn) (i : Nat), toNL ks i = toN (ks.getD i default)
 | [], i => by unfold toNL; rw [List.getD_nil, toN_default]
 | x :: r, 0 => by unfold toNL; rfl
 | x :: r, i + 1 => by
  unfold toNL
  rw [toNL_get r i, List.getD_cons_succ]
def ofN : Nd → Rn
 | .no => .mk 0 [] [] []
 | .leaf p v => .mk 1 (pB p) v []
 | .road p k => .mk 2 (pB p) [] [ofN k]
 | .fork ks v => .mk 3 [] v ((List.finRange 16).map fun i => ofN (ks i))
theorem rtL_get : ∀ {ks : List Rn} {d : Nat}, rtL ks d = true ↔ ∀ i, i < ks.length → rt (ks.getD i default) d = true
 | [], d => by unfold rtL; simp
 | x :: r, d => by
  unfold rtL
  rw [Bool.and_eq_true, rtL_get (ks := r) (d := d)]
  constructor
  ·rintro ⟨h1, h2⟩ i hi
   cases i with
   | zero => exact h1
   | succ i => rw [List.getD_cons_succ]; exact h2 i (by simpa using hi)
  ·intro h
   exact ⟨h 0 (by simp), fun i hi => by have := h (i + 1) (by simpa using hi); rwa [List.getD_cons_succ] at this⟩
theorem rt_eq (k : Int) (p v : List UInt8) (ks : List Rn) (d : Nat) : rt (.mk k p v ks) d = (if k = 0 then true
  else if k = 1 then halvesB p && endsB (d + p.length) && decide (0 < v.length) && decide (v.length ≤ 1024)
  else if k = 2 then decide (0 < p.length) && halvesB p && decide (ks.length = 1) && decide ((ks.getD 0 default).kind = 3) && rtL ks (d + p.length)
  else if k = 3 then decide (ks.length = 16) && decide (v.length ≤ 1024) && (decide (v.length = 0) || endsB d) && rtL ks (d + 1) && decide (2 ≤ min v.length 1 + many ks)
  else false) := by rw [rt]
theorem toN_eq (k : Int) (p v : List UInt8) (ks : List Rn) : toN (.mk k p v ks) = (if k = 1 then .leaf (pOf p) v else if k = 2 then .road (pOf p) (toN (ks.getD 0 default)) else if k = 3 then .fork (fun i => toN (ks.getD i.val default)) v else .no) := by
 rw [toN]
 simp only [toNL_get]
theorem endsB_eq {d : Nat} : endsB d = true ↔ ends d := by
 unfold endsB ends
 simp
theorem toN_no {x : Rn} {d : Nat} (h : rt x d = true) : toN x = .no ↔ x.kind = 0 := by
 obtain ⟨k, p, v, ks⟩ := x
 rw [rt_eq] at h
 rw [toN_eq]
 show _ ↔ k = 0
 by_cases h0 : k = 0
 ·subst h0; simp
 ·rw [if_neg h0] at h
  by_cases h1 : k = 1
  ·subst h1; simp
  ·rw [if_neg h1] at h
   by_cases h2 : k = 2
   ·subst h2; simp
   ·rw [if_neg h2] at h
    by_cases h3 : k = 3
    ·subst h3; simp
    ·rw [if_neg h3] at h; cases h
theorem many_two {ks : List Rn} (h : 2 ≤ many ks) : ∃ i j, i < ks.length ∧ j < ks.length ∧ i ≠ j ∧ (ks.getD i default).kind ≠ 0 ∧ (ks.getD j default).kind ≠ 0 := by
 induction ks with
 | nil => simp [many] at h
 | cons x r ih =>
  unfold many at h ih
  rw [List.filter_cons] at h
  by_cases hx : x.kind = 0
  ·rw [if_neg (by simpa using hx)] at h
   obtain ⟨i, j, h1, h2, h3, h4, h5⟩ := ih h
   exact ⟨i + 1, j + 1, by simp; omega, by simp; omega, by omega, by rwa [List.getD_cons_succ], by rwa [List.getD_cons_succ]⟩
  ·rw [if_pos (by simpa using hx), List.length_cons] at h
   have : 0 < (r.filter fun k => decide (k.kind ≠ 0)).length := by omega
   obtain ⟨y, hy⟩ := List.exists_mem_of_length_pos this
   rw [List.mem_filter] at hy
   obtain ⟨j, hj, e⟩ := List.mem_iff_getElem.1 hy.1
   refine ⟨0, j + 1, by simp, by simp; omega, by omega, hx, ?_⟩
   rw [List.getD_cons_succ, List.getD_eq_getElem?_getD, List.getElem?_eq_getElem hj]
   simpa [e] using hy.2
theorem many_one {ks : List Rn} (h : 1 ≤ many ks) : ∃ i, i < ks.length ∧ (ks.getD i default).kind ≠ 0 := by
 unfold many at h
 obtain ⟨y, hy⟩ := List.exists_mem_of_length_pos (show 0 < (ks.filter fun k => decide (k.kind ≠ 0)).length by omega)
 rw [List.mem_filter] at hy
 obtain ⟨j, hj, e⟩ := List.mem_iff_getElem.1 hy.1
 refine ⟨j, hj, ?_⟩
 rw [List.getD_eq_getElem?_getD, List.getElem?_eq_getElem hj]
 simpa [e] using hy.2
theorem sizeL_get {ks : List Rn} {i : Nat} (h : i < ks.length) : (ks.getD i default).size < Rn.sizeL ks := by
 induction ks generalizing i with
 | nil => simp at h
 | cons x r ih =>
  unfold Rn.sizeL
  cases i with
  | zero => rw [List.getD_cons_zero]; omega
  | succ i => rw [List.getD_cons_succ]; have := ih (i := i) (by simpa using h); omega
theorem size_eq (k : Int) (p v : List UInt8) (ks : List Rn) : (Rn.mk k p v ks).size = 1 + p.length + v.length + Rn.sizeL ks := by rw [Rn.size]
theorem sizeL_len (ks : List Rn) : ks.length ≤ Rn.sizeL ks := by
 induction ks with
 | nil => simp
 | cons a r ih => rw [Rn.sizeL, List.length_cons]; omega
theorem rt_right : ∀ (n : Nat) (x : Rn) (d : Nat), x.size ≤ n → rt x d = true → Right (toN x) d := by
 intro n
 induction n with
 | zero => intro x d h; obtain ⟨k, p, v, ks⟩ := x; rw [size_eq] at h; omega
 | succ n ih =>
  intro x d hn h
  obtain ⟨k, p, v, ks⟩ := x
  rw [size_eq] at hn
  rw [rt_eq] at h
  rw [toN_eq]
  have kid : ∀ i, i < ks.length → ∀ d', rt (ks.getD i default) d' = true → Right (toN (ks.getD i default)) d' := fun i hi d' h' => ih _ _ (by have := sizeL_get hi; omega) h'
  by_cases h0 : k = 0
  ·subst h0; exact trivial
  rw [if_neg h0] at h
  by_cases h1 : k = 1
  ·subst h1
   simp only [if_true, Bool.and_eq_true, decide_eq_true_eq, endsB_eq] at h ⊢
   obtain ⟨⟨⟨_, a2⟩, a3⟩, a4⟩ := h
   exact ⟨by rw [pOf_len]; exact a2, fun e => by rw [e] at a3; simp at a3, a4⟩
  rw [if_neg h1] at h ⊢
  by_cases h2 : k = 2
  ·subst h2
   simp only [if_true, Bool.and_eq_true, decide_eq_true_eq] at h ⊢
   obtain ⟨⟨⟨⟨a1, a2⟩, a3⟩, a4⟩, a5⟩ := h
   have hr := rtL_get.1 a5 0 (by omega)
   refine ⟨fun e => ?_, ?_, ?_⟩
   ·have := congrArg List.length e; rw [pOf_len] at this; simp at this; rw [this] at a1; simp at a1
   ·generalize ks.getD 0 default = y at a4
    obtain ⟨k', p', v', ks'⟩ := y
    have : k' = 3 := a4
    subst this
    rw [toN_eq]; rfl
   ·rw [pOf_len]; exact kid 0 (by omega) _ hr
  rw [if_neg h2] at h ⊢
  by_cases h3 : k = 3
  ·subst h3
   simp only [if_true, Bool.and_eq_true, decide_eq_true_eq, Bool.or_eq_true, endsB_eq] at h ⊢
   obtain ⟨⟨⟨⟨a1, a2⟩, a3⟩, a4⟩, a5⟩ := h
   have hr := rtL_get.1 a4
   refine ⟨a2, fun hv => ?_, fun i => kid _ (by omega) _ (hr _ (by omega)), ?_⟩
   ·rcases a3 with a3 | a3
    ·exact absurd (List.eq_nil_of_length_eq_zero a3) hv
    ·exact a3
   ·have nn : ∀ i (hi : i < ks.length), (ks.getD i default).kind ≠ 0 → toN (ks.getD i default) ≠ .no := fun i hi hk e => hk ((toN_no (hr i hi)).1 e)
    by_cases hv : v = []
    ·subst hv
     obtain ⟨i, j, b1, b2, b3, b4, b5⟩ := many_two (ks := ks) (by simpa using a5)
     exact .inr ⟨⟨i, by omega⟩, ⟨j, by omega⟩, fun e => b3 (congrArg Fin.val e), nn i b1 b4, nn j b2 b5⟩
    ·obtain ⟨i, b1, b2⟩ := many_one (ks := ks) (by have : min v.length 1 ≤ 1 := Nat.min_le_right ..; omega)
     exact .inl ⟨hv, ⟨i, by omega⟩, nn i b1 b2⟩
  ·rw [if_neg h3] at h; cases h
end Tr
set_option maxRecDepth 100000
namespace Tr
theorem toN_of : ∀ n : Nd, toN (ofN n) = n
 | .no => by unfold ofN; rw [toN_eq]; rfl
 | .leaf p v => by unfold ofN; rw [toN_eq]; simp only [if_true]; rw [pOf_B]
 | .road p k => by
  unfold ofN; rw [toN_eq]
  simp only [Int.reduceEq, if_true, if_false, List.getD_cons_zero]
  rw [pOf_B, toN_of k]
 | .fork ks v => by
  unfold ofN; rw [toN_eq]
  simp only [Int.reduceEq, if_true, if_false]
  congr 1
  funext i
  rw [List.getD_eq_getElem?_getD, List.getElem?_map, List.getElem?_eq_getElem (by simp)]
  simp only [List.getElem_finRange, Option.map_some, Option.getD_some, Fin.cast_mk, Fin.eta]
  exact toN_of (ks i)
theorem kind_of (n : Nd) : (ofN n).kind = 0 ↔ n = .no := by
 cases n <;> simp [ofN, Rn.kind]
theorem many_of {ks : Fin 16 → Nd} {v : List UInt8} (h : Two ks v) : 2 ≤ min v.length 1 + many ((List.finRange 16).map fun i => ofN (ks i)) := by
 unfold many
 rw [List.filter_map, List.length_map]
 have e : ((fun k : Rn => decide (k.kind ≠ 0)) ∘ fun i => ofN (ks i)) = fun i => !isNo (ks i) := by
  funext i
  show decide ((ofN (ks i)).kind ≠ 0) = _
  cases ks i <;> rfl
 rw [e]
 show 2 ≤ min v.length 1 + (kidsOf ks).length
 rcases h with ⟨hv, i, hi⟩ | ⟨i, j, hij, hi, hj⟩
 ·have h1 : 0 < v.length := List.length_pos_iff.2 hv
  have h2 : 0 < (kidsOf ks).length := List.length_pos_of_mem (kids_mem.2 hi)
  have : min v.length 1 = 1 := Nat.min_eq_right h1
  omega
 ·have h1 := kids_mem.2 hi
  have h2 := kids_mem.2 hj
  have : 2 ≤ (kidsOf ks).length := by
   cases hl : kidsOf ks with
   | nil => rw [hl] at h1; cases h1
   | cons a r => cases r with
    | nil =>
     rw [hl] at h1 h2
     simp only [List.mem_cons, List.not_mem_nil, or_false] at h1 h2
     exact absurd (h1.trans h2.symm) hij
    | cons b s => simp
  omega
theorem rt_of : ∀ (n : Nd) (d : Nat), Right n d → rt (ofN n) d = true
 | .no, d, _ => by unfold ofN; rw [rt_eq]; rfl
 | .leaf p v, d, h => by
  unfold ofN; rw [rt_eq]
  simp only [Int.reduceEq, if_true, if_false, Bool.and_eq_true, decide_eq_true_eq, endsB_eq]
  exact ⟨⟨⟨halves_pB p, by rw [pB_len]; exact h.1⟩, List.length_pos_iff.2 h.2.1⟩, h.2.2⟩
 | .road p k, d, h => by
  unfold ofN; rw [rt_eq]
  simp only [Int.reduceEq, if_true, if_false, Bool.and_eq_true, decide_eq_true_eq]
  have hk := rt_of k _ h.2.2
  refine ⟨⟨⟨⟨by rw [pB_len]; exact List.length_pos_iff.2 h.1, halves_pB p⟩, rfl⟩, ?_⟩, ?_⟩
  ·obtain ⟨ks, v, rfl⟩ := fork_is h.2.1
   simp [ofN, Rn.kind]
  ·rw [pB_len, rtL, hk]; unfold rtL; rfl
 | .fork ks v, d, h => by
  unfold ofN; rw [rt_eq]
  simp only [Int.reduceEq, if_true, if_false, Bool.and_eq_true, decide_eq_true_eq, Bool.or_eq_true, endsB_eq]
  refine ⟨⟨⟨⟨by rw [List.length_map, List.length_finRange], h.1⟩, ?_⟩, ?_⟩, many_of h.2.2.2⟩
  ·by_cases hv : v = []
   ·exact .inl (by rw [hv]; rfl)
   ·exact .inr (h.2.1 hv)
  ·rw [rtL_get]
   intro i hi
   rw [List.length_map, List.length_finRange] at hi
   rw [List.getD_eq_getElem?_getD, List.getElem?_map, List.getElem?_eq_getElem (by simp; omega)]
   simp only [List.getElem_finRange, Option.map_some, Option.getD_some]
   exact rt_of _ _ (h.2.2.1 _)
end Tr
end Go.Proofs.Ytkbimhccaacobaa

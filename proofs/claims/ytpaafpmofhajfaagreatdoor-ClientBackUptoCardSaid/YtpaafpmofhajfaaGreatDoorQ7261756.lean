/- A part of the proof: texts joined. -/
import Derived.Test.YtpaafpmofhajfaaGreatDoorProg
import Derived.Test.YtpaafpmofhajfaaGreatDoorQ1023d0c
set_option linter.unusedVariables false
set_option linter.unusedSimpArgs false
namespace Go.Proofs.YtpaafpmofhajfaaGreatDoor
namespace Ps
def pos (B : Nat) : List Nat → Nat
 | [] => 0
 | a :: l => a * B ^ l.length + pos B l
def NL (l : List Nat) : Prop := l.head? ≠ some 0
def lexN : List Nat → List Nat → Bool
 | a :: l, b :: m => decide (a < b) || (decide (a = b) && lexN l m)
 | [], _ :: _ => true
 | _, [] => false
theorem pos_append (B : Nat) (l m : List Nat) : pos B (l ++ m) = pos B l * B ^ m.length + pos B m := by
 induction l with
 | nil => simp [pos]
 | cons a l ih =>
  simp only [List.cons_append, pos, ih, List.length_append, Nat.pow_add, Nat.add_mul, Nat.mul_assoc, Nat.add_assoc]
theorem pos_lt {B : Nat} {l : List Nat} (h : ∀ a ∈ l, a < B) : pos B l < B ^ l.length := by
 induction l with
 | nil => simp [pos]
 | cons a l ih =>
  have h1 := ih fun x hx => h x (by simp [hx])
  have h2 : (a + 1) * B ^ l.length ≤ B * B ^ l.length := Nat.mul_le_mul_right _ (h a (by simp))
  simp only [pos, List.length_cons, Nat.pow_succ]
  rw [Nat.mul_comm (B ^ l.length) B]
  rw [Nat.add_mul, Nat.one_mul] at h2
  omega
theorem pos_ge {B : Nat} {a : Nat} {l : List Nat} (h : a ≠ 0) : B ^ l.length ≤ pos B (a :: l) := by
 simp only [pos]
 have : 1 * B ^ l.length ≤ a * B ^ l.length := Nat.mul_le_mul_right _ (by omega)
 omega
theorem pos_lex {B : Nat} : ∀ {l m : List Nat}, l.length = m.length → (∀ a ∈ l, a < B) → (∀ a ∈ m, a < B) → (pos B l < pos B m ↔ lexN l m = true)
 | [], [], _, _, _ => by simp [pos, lexN]
 | a :: l, b :: m, hl, h1, h2 => by
  have hl' : l.length = m.length := by simpa using hl
  have ih := pos_lex hl' (fun x hx => h1 x (by simp [hx])) (fun x hx => h2 x (by simp [hx]))
  have k1 := pos_lt (B := B) (l := l) fun x hx => h1 x (by simp [hx])
  have k2 := pos_lt (B := B) (l := m) fun x hx => h2 x (by simp [hx])
  simp only [pos, lexN, Bool.or_eq_true, Bool.and_eq_true, decide_eq_true_eq, ← ih]
  rw [← hl'] at k2 ⊢
  generalize B ^ l.length = p at *
  rcases Nat.lt_trichotomy a b with h | h | h
  ·have := Nat.mul_le_mul_right p (Nat.succ_le_of_lt h)
   rw [Nat.succ_mul] at this
   exact ⟨fun _ => .inl h, fun _ => by omega⟩
  ·subst h
   exact ⟨fun k => .inr ⟨rfl, by omega⟩, fun k => by rcases k with k | k <;> omega⟩
  ·have := Nat.mul_le_mul_right p (Nat.succ_le_of_lt h)
   rw [Nat.succ_mul] at this
   exact ⟨fun k => by omega, fun k => by rcases k with k | k <;> omega⟩
 | [], _ :: _, hl, _, _ => by simp at hl
 | _ :: _, [], hl, _, _ => by simp at hl
theorem pos_len {B : Nat} {l m : List Nat} (hB : 0 < B) (hl : l.length < m.length) (h1 : ∀ a ∈ l, a < B) (hm : NL m) : pos B l < pos B m := by
 cases m with
 | nil => simp at hl
 | cons b m =>
  have h2 : b ≠ 0 := fun e => hm (by simp [e])
  have := pos_ge (B := B) (l := m) h2
  have k := pos_lt h1
  have : B ^ l.length ≤ B ^ m.length := Nat.pow_le_pow_right hB (by simp at hl; omega)
  omega
theorem pos_order {B : Nat} {l m : List Nat} (hB : 0 < B) (h1 : ∀ a ∈ l, a < B) (h2 : ∀ a ∈ m, a < B) (k1 : NL l) (k2 : NL m) : pos B l < pos B m ↔ l.length < m.length ∨ (l.length = m.length ∧ lexN l m = true) := by
 rcases Nat.lt_trichotomy l.length m.length with h | h | h
 ·exact ⟨fun _ => .inl h, fun _ => pos_len hB h h1 k2⟩
 ·rw [pos_lex h h1 h2]
  exact ⟨fun k => .inr ⟨h, k⟩, fun k => by rcases k with k | k <;> first | omega | exact k.2⟩
 ·have := pos_len hB h h2 k1
  exact ⟨fun k => by omega, fun k => by omega⟩
theorem lexN_eq : ∀ {l m : List Nat}, l.length = m.length → lexN l m = false → lexN m l = false → l = m
 | [], [], _, _, _ => rfl
 | a :: l, b :: m, hl, h1, h2 => by
  simp only [lexN, Bool.or_eq_false_iff, Bool.and_eq_false_iff, decide_eq_false_iff_not] at h1 h2
  obtain rfl : a = b := by omega
  rw [lexN_eq (l := l) (m := m) (by simpa using hl) (by rcases h1.2 with h | h; exact absurd rfl h; exact h) (by rcases h2.2 with h | h; exact absurd rfl h; exact h)]
 | [], _ :: _, hl, _, _ => by simp at hl
 | _ :: _, [], hl, _, _ => by simp at hl
theorem pos_inj {B : Nat} {l m : List Nat} (hB : 0 < B) (h1 : ∀ a ∈ l, a < B) (h2 : ∀ a ∈ m, a < B) (k1 : NL l) (k2 : NL m) (h : pos B l = pos B m) : l = m := by
 have e1 := pos_order hB h1 h2 k1 k2
 have e2 := pos_order hB h2 h1 k2 k1
 have n1 : ¬ (l.length < m.length ∨ (l.length = m.length ∧ lexN l m = true)) := fun h' => by have := e1.2 h'; omega
 have n2 : ¬ (m.length < l.length ∨ (m.length = l.length ∧ lexN m l = true)) := fun h' => by have := e2.2 h'; omega
 have hl : l.length = m.length := by omega
 refine lexN_eq hl ?_ ?_
 ·rw [← Bool.not_eq_true]; exact fun h' => n1 (.inr ⟨hl, h'⟩)
 ·rw [← Bool.not_eq_true]; exact fun h' => n2 (.inr ⟨hl.symm, h'⟩)
def strip (l : List UInt8) : List UInt8 := l.dropWhile (· == 0)
def nat8 (l : List UInt8) : List Nat := l.map UInt8.toNat
theorem nat8_lt (l : List UInt8) : ∀ a ∈ nat8 l, a < 256 := fun a ha => by
 obtain ⟨x, _, rfl⟩ := List.mem_map.1 ha
 exact x.toNat_lt
theorem nat8_inj {l m : List UInt8} (h : nat8 l = nat8 m) : l = m := by
 induction l generalizing m with
 | nil => cases m with
  | nil => rfl
  | cons _ _ => simp [nat8] at h
 | cons a l ih => cases m with
  | nil => simp [nat8] at h
  | cons b m =>
   simp only [nat8, List.map_cons, List.cons.injEq] at h
   rw [UInt8.toNat_inj.1 h.1, ih h.2]
theorem strip_nl (l : List UInt8) : NL (nat8 (strip l)) := by
 unfold strip
 induction l with
 | nil => simp [NL, nat8]
 | cons a l ih =>
  rw [List.dropWhile_cons]
  split
  ·exact ih
  ·rename_i h
   intro e
   simp only [nat8, List.map_cons, List.head?_cons, Option.some.injEq] at e
   apply h
   have : a = 0 := UInt8.toNat_inj.1 (by rw [e]; rfl)
   simp [this]
theorem strip_pos (B : Nat) (l : List UInt8) : pos B (nat8 (strip l)) = pos B (nat8 l) := by
 unfold strip
 induction l with
 | nil => rfl
 | cons a l ih =>
  rw [List.dropWhile_cons]
  split
  ·rename_i h
   have : a = 0 := by simpa using h
   subst this
   rw [ih]
   simp [nat8, pos]
  ·rfl
theorem nl_iff (l : List UInt8) : NL (nat8 l) ↔ l.head? ≠ some 0 := by
 cases l with
 | nil => simp [NL, nat8]
 | cons a l =>
  simp only [NL, nat8, List.map_cons, List.head?_cons, ne_eq, Option.some.injEq]
  constructor
  ·intro h e; apply h; rw [e]; rfl
  ·intro h e; apply h; exact UInt8.toNat_inj.1 (by rw [e]; rfl)
theorem strip_id {l : List UInt8} (h : l.head? ≠ some 0) : strip l = l := by
 cases l with
 | nil => rfl
 | cons a l =>
  unfold strip
  rw [List.dropWhile_cons, if_neg]
  intro e
  apply h
  have : a = 0 := by simpa using e
  rw [this]; rfl
def beN (l : List UInt8) : Nat := pos 256 (nat8 l)
theorem beN_lt (l : List UInt8) : beN l < 256 ^ l.length := by
 have := pos_lt (nat8_lt l)
 rwa [show (nat8 l).length = l.length by simp [nat8]] at this
theorem beN_strip (l : List UInt8) : beN (strip l) = beN l := strip_pos 256 l
theorem beN_inj {l m : List UInt8} (k1 : l.head? ≠ some 0) (k2 : m.head? ≠ some 0) (h : beN l = beN m) : l = m :=
 nat8_inj (pos_inj (by decide) (nat8_lt l) (nat8_lt m) ((nl_iff l).2 k1) ((nl_iff m).2 k2) h)
theorem strip_head (l : List UInt8) : (strip l).head? ≠ some 0 := (nl_iff _).1 (strip_nl l)
end Ps
open Go.RowKit
namespace Rf
open Rg (noCall noCall_spec np wp_monoQ wpOp_monoQ Closed Closed.step waits waitsB waits_listed nth pick freeW chkS chkT chk planSize nth_of)
structure Ext (F : Nat → Prop) (w w' : World) : Prop where
 size : w.heap.size ≤ w'.heap.size
 block : ∀ k, k < w.heap.size → F k → w'.heap[k]? = w.heap[k]?
theorem Ext.refl {F : Nat → Prop} (w : World) : Ext F w w := ⟨Nat.le_refl _, fun _ _ _ => rfl⟩
theorem Ext.trans {F : Nat → Prop} {a b c : World} (h : Ext F a b) (k : Ext F b c) : Ext F a c := ⟨Nat.le_trans h.size k.size, fun i hi hF => (k.block i (Nat.lt_of_lt_of_le hi h.size) hF).trans (h.block i hi hF)⟩
theorem Ext.of {F : Nat → Prop} {w w' : World} (h : Rg.Ext w w') : Ext F w w' := ⟨h.size, fun k hk _ => h.block k hk⟩
theorem Ext.setCell {F : Nat → Prop} (w : World) (p : Addr) (u : Value) (h : ¬ F p.block) : Ext F w (w.setCell p u) :=
 ⟨by simp, fun k _ hF => Below.heap_setCell w p u k (fun e => h (e ▸ hF))⟩
theorem Ext.setRow {F : Nat → Prop} (w : World) (g : Nat) (cs : Array Value) (h : ¬ F g) : Ext F w (w.setRow g cs) :=
 ⟨by simp, fun k _ hF => setRow_other w g k cs (fun e => h (e ▸ hF))⟩
structure Lt (F : Nat → Prop) (w : World) where
 v : World
 ext : Ext F w v
instance (F : Nat → Prop) (w : World) : Nonempty (Lt F w) := ⟨⟨w, Ext.refl w⟩⟩
def Cls (F : Nat → Prop) (w : World) (w' : World) : Prop := ∃ x : Lt F w, w' = x.v
theorem Cls.mk {F : Nat → Prop} {w w' : World} (h : Ext F w w') : Cls F w w' := ⟨⟨w', h⟩, rfl⟩
@[go_sem] theorem cls_iff (F : Nat → Prop) (w w' : World) : Cls F w w' ↔ ∃ x : Lt F w, w' = x.v := Iff.rfl
theorem Ext.cell {F : Nat → Prop} {w w' : World} (h : Ext F w w') {a : Addr} {v : Value} (hc : w.cell? a = some v) (hF : F a.block) : w'.cell? a = some v := by
 rw [World.cell?_of_block (w := w) (h.block a.block (World.block_lt_of_cell? w a hc) hF)]; exact hc
theorem later {F : Nat → Prop} {w : World} {a : Addr} {v : Value} (hc : w.cell? a = some v) (hF : F a.block) : ∀ x : Lt F w, x.v.cell? a = some v := fun x => x.ext.cell hc hF
section
variable {F : Nat → Prop} {P : Program} {ops : Array Oper} {Q : Exit → Act → World → Prop} {md : Region.Mode}
def Yld (F : Nat → Prop) (P : Program) (ops : Array Oper) (w : World) (o : Oper) (v : Value) (a : Act) : Prop :=
 (Region.wanted o (yielded ops a.tmps) = true ∧ ∀ w', Ext F w w' → (execOp a.eval o).run P w' = .ok (.value v) w' ∨ ((execOp a.eval o).run P w' = .ok .skip w' ∧ v = undef)) ∨
 (Region.wanted o (yielded ops a.tmps) = false ∧ v = undef)
theorem Yld.later {w w1 : World} {o : Oper} {v : Value} {a : Act} (h : Yld F P ops w o v a) (he : Ext F w w1) : Yld F P ops w1 o v a := by
 rcases h with ⟨hw, h⟩ | h
 ·exact .inl ⟨hw, fun w' hw' => h w' (he.trans hw')⟩
 ·exact .inr h
theorem Yld.of_same {w : World} {o : Oper} {v : Value} {a a' : Act} (hy : Yld F P ops w o v a) (he : execOp a'.eval o = execOp a.eval o)
  (hw : Region.wanted o (yielded ops a'.tmps) = Region.wanted o (yielded ops a.tmps)) : Yld F P ops w o v a' := by
 unfold Yld at *
 rw [he, hw]
 exact hy
theorem Yld.wpOp {w : World} {i : Nat} {o : Oper} {v : Value} {a : Act} (hi : ops[i]? = some o) (hy : Yld F P ops w o v a) {K : Act → World → Prop} (h : K (a.put o.dst v) w) : wpOp P ops Q i K a w := by
 unfold Go.wpOp
 simp only [hi]
 rcases hy with ⟨hw, hv⟩ | ⟨hw, rfl⟩
 ·rw [if_pos hw]
  refine .inl ?_
  unfold Oper.wp
  rcases hv w (Ext.refl w) with hx | ⟨hx, rfl⟩
  ·rw [hx]; exact h
  ·rw [hx]; exact h
 ·simp only [hw, Bool.false_eq_true, if_false]; exact h
theorem yld_of_quiet {w : World} {o : Oper} {a : Act} {K : Act → Prop} (hn : noCall o.op = true)
  (h : if Region.wanted o (yielded ops a.tmps) then o.quiet P a (Cls F w) K else K (a.put o.dst undef)) : ∃ v, Yld F P ops w o v a ∧ K (a.put o.dst v) := by
 by_cases hw : Region.wanted o (yielded ops a.tmps) = true
 ·simp only [hw, if_true] at h
  obtain ⟨v, h1, h2⟩ := h
  refine ⟨v, .inl ⟨hw, fun w' hw' => ?_⟩, h2⟩
  have h3 := h1 w' (Cls.mk hw')
  unfold Oper.quietAt at h3
  have hne := fun f args w'' => noCall_spec (P := P) hn a.eval w' f args w''
  generalize (execOp a.eval o).run P w' = r at *
  cases r with
  | halt x w'' => simp only [Oper.quietUpon] at h3
  | ok n w'' =>
   cases n <;> simp only [Oper.quietUpon] at h3
   case value u => obtain ⟨rfl, rfl⟩ := h3; exact .inl rfl
   case skip => obtain ⟨rfl, rfl⟩ := h3; exact .inr ⟨rfl, rfl⟩
   case enter f args => exact absurd rfl (hne f args w'')
 ·simp only [hw] at h
  exact ⟨undef, .inr ⟨by simpa using hw, rfl⟩, h⟩
def anyE (F : Nat → Prop) (P : Program) (md : Region.Mode) (ops : Array Oper) (Q : Exit → Act → World → Prop) (tl : List Nat) (wb : World) : Nat → Array Bool → Act → World → Prop
 | 0, listed, a, w => Region.ready md ops listed = [] ∧ Q .normal a w
 | fuel + 1, listed, a, w =>
  (Region.ready md ops listed = [] → Q .normal a w) ∧
  ∀ i ∈ Region.ready md ops listed, wpOp P ops (if tl.contains i then Q else np Q) i (fun a' w' => (tl.contains i = false → Ext F wb w') ∧ anyE F P md ops Q tl wb fuel (listed.setIfInBounds i true) a' w') a w
theorem anyE_any {tl : List Nat} {wb : World} : ∀ (fuel : Nat) (listed : Array Bool) (a : Act) (w : World), anyE F P md ops Q tl wb fuel listed a w → wpAny P md ops Q fuel listed a w
 | 0, _, _, _, h => h
 | fuel + 1, _, _, _, h => ⟨h.1, fun i hi => wpOp_monoQ (fun c a w hq => by split at hq; exact hq; exact hq.2) (fun a w hq => by split at hq; exact hq; exact hq.2) (wpOp_mono (fun a' w' h' => anyE_any fuel _ a' w' h'.2) (h.2 i hi))⟩
theorem anyE_base {tl : List Nat} {wb wb' : World} (he : Ext F wb wb') : ∀ (fuel : Nat) (listed : Array Bool) (a : Act) (w : World), anyE F P md ops Q tl wb' fuel listed a w → anyE F P md ops Q tl wb fuel listed a w
 | 0, _, _, _, h => h
 | fuel + 1, _, _, _, h => ⟨h.1, fun i hi => wpOp_mono (fun a' w' h' => ⟨fun ht => he.trans (h'.1 ht), anyE_base he fuel _ a' w' h'.2⟩) (h.2 i hi)⟩
theorem anyE_first {tl : List Nat} {wb : World} {i : Nat} {oi : Oper} {v : Value} {W : Array Nat} (hW : waitsB md ops W = true) (hi : ops[i]? = some oi)
    (hsel : ∀ (j : Nat) (o : Oper) cs b, ops[j]? = some o → o.op ≠ .select cs b) :
    ∀ (fuel : Nat) (listed : Array Bool) (a : Act) (w : World), Closed md ops listed → Ext F wb w →
      (∀ j oj, ops[j]? = some oj → j ≠ i → listed.getD j true = false → waits W j i = true ∨ (oi.apart ops oj = true ∧ tl.contains j = false)) →
      i ∈ Region.ready md ops listed → Yld F P ops wb oi v a →
      anyE F P md ops Q tl wb fuel (listed.setIfInBounds i true) (a.put oi.dst v) w → anyE F P md ops Q tl wb (fuel + 1) listed a w := by
  intro fuel
  induction fuel with
  | zero =>
    intro listed a w hc hwb hfree hr hy H
    refine ⟨fun h => (by rw [h] at hr; cases hr), fun j hj => ?_⟩
    by_cases hji : j = i
    · subst hji; exact (hy.later hwb).wpOp hi ⟨fun _ => hwb, H⟩
    · have := ready_mono hj hji
      rw [H.1] at this
      cases this
  | succ fuel ih =>
    intro listed a w hc hwb hfree hr hy H
    refine ⟨fun h => (by rw [h] at hr; cases hr), fun j hj => ?_⟩
    by_cases hji : j = i
    · subst hji; exact (hy.later hwb).wpOp hi ⟨fun _ => hwb, H⟩
    · have h1 := H.2 j (ready_mono hj hji)
      obtain ⟨hjun, oj, hoj, hall⟩ := mem_ready.1 hj
      have hilt : i < ops.size := (Array.getElem?_eq_some_iff.1 hi).1
      have hiun : listed.getD i false = false := by
        have h0 := (mem_ready.1 hr).1
        rcases Nat.lt_or_ge i listed.size with h' | h'
        · simpa [h'] using h0
        · simp [Array.getElem?_eq_none h']
      have hap : oi.apart ops oj = true ∧ tl.contains j = false := by
        rcases hfree j oj hoj hji hjun with hw | h
        · have := waits_listed hW hc hilt j j oj (Nat.le_refl _) hoj hall hw
          rw [hiun] at this
          cases this
        · exact h
      obtain ⟨p1, p2, p3⟩ := Oper.apart_spec hap.1
      have hsi := fun cs b => hsel i oi cs b hi
      have hsj := fun cs b => hsel j oj cs b hoj
      have keep : ∀ (a : Act), Yld F P ops wb oi v a → ∀ u, Yld F P ops wb oi v (a.put oj.dst u) := fun a hy u =>
        hy.of_same (execOp_put oi hsi a oj.dst u p3) (wanted_put oi a oj.dst u p3)
      have keepD : ∀ d, Yld F P ops wb oi v { a with defers := d :: a.defers } := fun d => hy.of_same rfl rfl
      have hfree' : ∀ k ok, ops[k]? = some ok → k ≠ i → (listed.setIfInBounds j true).getD k true = false → waits W k i = true ∨ (oi.apart ops ok = true ∧ tl.contains k = false) := fun k ok hk hki hun => by
        refine hfree k ok hk hki ?_
        by_cases hjk : j = k
        · subst hjk; exact hjun
        · rw [getD_set_ne true hjk] at hun; exact hun
      have fin : ∀ (a' : Act) (w' : World), Yld F P ops wb oi v a' → Ext F wb w' → anyE F P md ops Q tl wb fuel ((listed.setIfInBounds i true).setIfInBounds j true) (a'.put oi.dst v) w' →
          (True → Ext F wb w') ∧ anyE F P md ops Q tl wb (fuel + 1) (listed.setIfInBounds j true) a' w' := fun a' w' hy' he' h' =>
        ⟨fun _ => he', ih _ a' w' (hc.step hj) he' hfree' (ready_mono hr (Ne.symm hji)) hy' (by rw [Array.setIfInBounds_comm _ _ hji]; exact h')⟩
      rw [hap.2] at h1 ⊢
      simp only [Bool.false_eq_true, if_false] at h1 ⊢
      unfold wpOp at *
      simp only [hoj] at *
      rw [wanted_put oj a oi.dst v p1] at h1
      split
      · rename_i hw
        simp only [hw, if_true] at h1
        rcases h1 with h1 | ⟨hasks, hlets⟩
        case inr => exact .inr ⟨by unfold Oper.asks at *; rw [execOp_put oj hsj a oi.dst v p1] at hasks; exact hasks, hlets⟩
        refine .inl ?_
        unfold Oper.wp at *
        rw [execOp_put oj hsj a oi.dst v p1] at h1
        generalize (execOp a.eval oj).run P w = r at *
        cases r with
        | ok n w' =>
          cases n <;> simp only [Oper.upon] at h1 ⊢
          case value u => exact fin _ _ (keep a hy u) (h1.1 trivial) (by rw [← Act.put_comm a v u p2]; exact h1.2)
          case skip => exact fin _ _ (keep a hy _) (h1.1 trivial) (by rw [← Act.put_comm a v undef p2]; exact h1.2)
          case defer d =>
            refine fin _ _ (keep _ (keepD d) _) (h1.1 trivial) ?_
            rw [← Act.put_comm _ v undef p2, ← Act.put_defers]
            exact h1.2
          case enter f args =>
            refine Calls.mono h1 fun e w'' he => ?_
            cases e with
            | returned u => exact fin _ _ (keep a hy u) (he.1 trivial) (by rw [← Act.put_comm a v u p2]; exact he.2)
            | panicked c => exact absurd rfl (he.1 c)
            | outgrown => exact he
          case row row args => exact Rows.mono h1 fun u w'' he => fin _ _ (keep a hy u) (he.1 trivial) (by rw [← Act.put_comm a v u p2]; exact he.2)
        | halt x w' =>
          cases x <;> simp only [Oper.upon] at h1 ⊢
          case panic u => exact absurd rfl (h1.1 _)
      · rename_i hw
        simp only [hw] at h1
        exact fin _ _ (keep a hy _) (h1.1 trivial) (by rw [← Act.put_comm a v undef p2]; exact h1.2)
def walk (F : Nat → Prop) (P : Program) (ops : Array Oper) (Q : Exit → Act → World → Prop) (tail : List Oper) : List (List Oper × Oper) → List Oper → World → Act → Prop
 | [], last, w, a => wpQuiet P ops (Cls F w) (fun a' => wpList P ops Q tail a' w) last a
 | (S, oc) :: t, last, w, a => wpQuiet P ops (Cls F w) (fun a' => wpList P ops (Exit.then (fun a'' w'' => Ext F w w'' ∧ walk F P ops Q tail t last w'' a'') (fun _ _ _ => False)) [oc] a' w) S a
theorem tail_sound {tl : List Nat} {wb : World} : ∀ (l : List Nat) (listed : Array Bool) (a : Act) (w : World), chkT md ops tl l listed = true → wpList P ops Q (pick ops.toList l) a w →
  anyE F P md ops Q tl wb l.length listed a w
 | [], listed, a, w, hc, h => ⟨by simpa [chkT] using hc, by simpa [pick, wpList] using h⟩
 | i :: l, listed, a, w, hc, h => by
  simp only [chkT, Bool.and_eq_true, beq_iff_eq] at hc
  obtain ⟨⟨hr, ht⟩, hc⟩ := hc
  refine ⟨fun h0 => (by rw [h0] at hr; cases hr), fun j hj => ?_⟩
  rw [hr] at hj
  obtain rfl : j = i := by simpa using hj
  have hmem : j ∈ Region.ready md ops listed := by rw [hr]; simp
  obtain ⟨_, o, ho, _⟩ := mem_ready.1 hmem
  have hn : nth ops.toList j = o := nth_of (by simpa using ho)
  simp only [pick, hn, wpList] at h
  rw [if_pos ht]
  unfold wpOp
  simp only [ho]
  have fin : ∀ a' w', wpList P ops Q (pick ops.toList l) a' w' → (tl.contains j = false → Ext F wb w') ∧ anyE F P md ops Q tl wb l.length (listed.setIfInBounds j true) a' w' :=
   fun a' w' h' => ⟨fun hf => (by rw [ht] at hf; cases hf), tail_sound l _ a' w' hc h'⟩
  split
  ·rename_i hw
   rw [if_pos hw] at h
   rcases h with h | h
   ·exact .inl (Oper.wp_mono fin h)
   ·exact .inr h
  ·rename_i hw
   rw [if_neg hw] at h
   exact fin _ _ h
theorem seg_sound {tl : List Nat} {W : Array Nat} {wb : World} (hW : waitsB md ops W = true) (hs : Region.noSelect ops = true) {k : Array Bool → Bool} {n : Nat} {K : Act → Prop}
  (hk : ∀ (listed : Array Bool) (a : Act), Closed md ops listed → k listed = true → K a → anyE F P md ops Q tl wb n listed a wb) :
  ∀ (l : List Nat) (listed : Array Bool) (a : Act), Closed md ops listed → chkS md ops W tl l listed k = true → wpQuiet P ops (Cls F wb) K (pick ops.toList l) a →
   anyE F P md ops Q tl wb (l.length + n) listed a wb
 | [], listed, a, hcl, hc, h => by simpa using hk listed a hcl (by simpa [chkS] using hc) (by simpa [pick, wpQuiet] using h)
 | i :: l, listed, a, hcl, hc, h => by
  simp only [chkS, Bool.and_eq_true] at hc
  obtain ⟨⟨hr, hf⟩, hc⟩ := hc
  have hmem : i ∈ Region.ready md ops listed := by simpa using hr
  obtain ⟨_, o, ho, _⟩ := mem_ready.1 hmem
  have hn : nth ops.toList i = o := nth_of (by simpa using ho)
  simp only [freeW, ho, Bool.and_eq_true, List.all_eq_true, List.mem_range] at hf
  obtain ⟨⟨hnc, htl⟩, hall⟩ := hf
  simp only [pick, hn, wpQuiet] at h
  obtain ⟨v, hy, h'⟩ := yld_of_quiet hnc h
  have := seg_sound hW hs hk l _ _ (hcl.step hmem) hc h'
  rw [List.length_cons, Nat.add_right_comm]
  refine anyE_first hW ho (Region.noSelect_spec hs) _ listed a wb hcl (Ext.refl _) (fun j oj hj hne hun => ?_) hmem hy this
  have h2 := hall j (Array.getElem?_eq_some_iff.1 hj).1
  simp only [hj, Bool.or_eq_true, beq_iff_eq, hne, hun, Bool.false_eq_true, false_or, Bool.and_eq_true, Bool.not_eq_true'] at h2
  exact h2
theorem walk_sound {tl : List Nat} {W : Array Nat} (hW : waitsB md ops W = true) (hs : Region.noSelect ops = true) : ∀ (pl : List (List Nat × Nat)) (last : List Nat) (listed : Array Bool) (a : Act) (w : World),
    Closed md ops listed → chk md ops W tl pl last listed = true → walk F P ops Q (pick ops.toList tl) (pl.map fun x => (pick ops.toList x.1, nth ops.toList x.2)) (pick ops.toList last) w a →
    anyE F P md ops Q tl w (planSize pl last tl) listed a w
  | [], last, listed, a, w, hcl, hc, h => by
    have := seg_sound (P := P) (Q := Q) hW hs (k := chkT md ops tl tl) (n := tl.length) (K := fun a' => wpList P ops Q (pick ops.toList tl) a' w) (wb := w)
      (fun l a' _ hk h' => tail_sound tl l a' w hk h') last listed a hcl (by simpa [chk] using hc) (by simpa [walk] using h)
    simpa [planSize] using this
  | (S, i) :: t, last, listed, a, w, hcl, hc, h => by
    have := seg_sound (P := P) (Q := Q) hW hs (wb := w) (n := planSize t last tl + 1) (tl := tl)
      (k := fun l' => Region.ready md ops l' == [i] && !tl.contains i && chk md ops W tl t last (l'.setIfInBounds i true))
      (K := fun a' => wpList P ops (Exit.then (fun a'' w'' => Ext F w w'' ∧ walk F P ops Q (pick ops.toList tl) (t.map fun x => (pick ops.toList x.1, nth ops.toList x.2)) (pick ops.toList last) w'' a'') (fun _ _ _ => False)) [nth ops.toList i] a' w)
      (fun l a' hcl' hk h' => by
        simp only [Bool.and_eq_true, beq_iff_eq, Bool.not_eq_true'] at hk
        obtain ⟨⟨hr, ht⟩, hc'⟩ := hk
        refine ⟨fun h0 => (by rw [h0] at hr; cases hr), fun j hj => ?_⟩
        rw [hr] at hj
        obtain rfl : j = i := by simpa using hj
        have hmem : j ∈ Region.ready md ops l := by rw [hr]; simp
        obtain ⟨_, o, ho, _⟩ := mem_ready.1 hmem
        have hn : nth ops.toList j = o := nth_of (by simpa using ho)
        rw [ht]
        simp only [Bool.false_eq_true, if_false]
        simp only [hn, wpList, Exit.then] at h'
        have fin : ∀ a'' w'', (Ext F w w'' ∧ walk F P ops Q (pick ops.toList tl) (t.map fun x => (pick ops.toList x.1, nth ops.toList x.2)) (pick ops.toList last) w'' a'') →
            (True → Ext F w w'') ∧ anyE F P md ops Q tl w (planSize t last tl) (l.setIfInBounds j true) a'' w'' := fun a'' w'' hh =>
          ⟨fun _ => hh.1, anyE_base hh.1 _ _ _ _ (walk_sound hW hs t last _ a'' w'' (hcl'.step hmem) hc' hh.2)⟩
        unfold wpOp
        simp only [ho]
        split
        · rename_i hw
          rw [if_pos hw] at h'
          rcases h' with h' | ⟨_, a0, w0, hq⟩
          · refine .inl (wp_monoQ (Q' := Exit.then (fun a'' w'' => Ext F w w'' ∧ walk F P ops Q (pick ops.toList tl) (t.map fun x => (pick ops.toList x.1, nth ops.toList x.2)) (pick ops.toList last) w'' a'') (fun _ _ _ => False)) (fun c a1 w1 hq => hq.elim) (fun a1 w1 hq => hq.elim) (Oper.wp_mono fin h'))
          · exact hq.elim
        · rename_i hw
          rw [if_neg hw] at h'
          exact fin _ _ h') S listed a hcl (by simpa [chk] using hc) (by simpa [walk] using h)
    have e : planSize ((S, i) :: t) last tl = S.length + (planSize t last tl + 1) := by simp [planSize]; omega
    rw [e]
    exact this
theorem region (F : Nat → Prop) {id : Nat} {l : List Oper} {a : Act} {w : World} (pl : List (List Nat × Nat)) (last tl : List Nat) (hm : P.follows .mixedOrders = true)
  (hB : (waitsB .any l.toArray (Region.before l.toArray) && Region.noSelect l.toArray && chk .any l.toArray (Region.before l.toArray) tl pl last (Array.replicate l.length false) && planSize pl last tl == l.length) = true)
  (h : ∀ w', Rg.Ext w w' → walk F P l.toArray Q (pick l tl) (pl.map fun x => (pick l x.1, nth l x.2)) (pick l last) w' a) : (Code.region id l.toArray true).wp P Q a w := by
 simp only [Bool.and_eq_true, beq_iff_eq] at hB
 obtain ⟨⟨⟨hW, hs⟩, hc⟩, hsz⟩ := hB
 refine wp_region_any hm (anyE_any (F := F) (tl := tl) (wb := { w with drawn := w.drawn + 1 }) _ _ _ _ ?_)
 have := walk_sound (F := F) (P := P) (Q := Q) (md := .any) (ops := l.toArray) (tl := tl) hW hs pl last (Array.replicate l.length false) a { w with drawn := w.drawn + 1 } (by
  intro j o _ hl
  exfalso
  simp [Array.getElem?_replicate] at hl
  split at hl <;> simp_all) (by simpa using hc) (by simpa using h _ (Below.drew (Below.refl _ w)))
 rw [hsz] at this
 simpa using this
end
end Rf
end Go.Proofs.YtpaafpmofhajfaaGreatDoor

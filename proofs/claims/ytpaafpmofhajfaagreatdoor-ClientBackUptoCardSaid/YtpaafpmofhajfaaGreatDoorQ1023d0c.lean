/- A part of the proof: texts joined. -/
import Derived.Test.YtpaafpmofhajfaaGreatDoorRows
import Derived.WalkKit
import Derived.ProofKit
import Derived.OpenShut
import Derived.JoinedCond
import Derived.Deep.QuietTactic
import Derived.BigQuiet
import Derived.Lib.Hide
import Derived.ArgAppend
import Derived.Laws.AppendOwnNone
import Derived.Laws.BytesArg
import Derived.Deep.MidRow
import Derived.ChangeKeysEq
import Derived.Deep.AppendSrc
set_option linter.unusedVariables false
set_option linter.unusedSimpArgs false
namespace Go.Proofs.YtpaafpmofhajfaaGreatDoor
open Go.ChangeShapes Go.WideShapes Go.ChangeAt Go.RowKit
namespace Fr
section
variable {H : Type} {enc : TypeId × Value → H} {P : Program}
theorem trodAll_below (hl : laidOutB P = true) {W W' : World} (hb : Below W.heap.size W W') :
  ∀ (ts : List TypeId) (vs : List Value) (ds : List (DataW H)) (ps : List MemPlace), (∀ t ∈ ts, P.readableRec t = true ∧ t < P.types.size) →
   (∀ x ∈ ps, x.block < W.heap.size) → DataW.TrodAll enc P W 0 (fun _ => true) true ts vs ds ps →
   DataW.TrodAll enc P W' 0 (fun b => decide (b < W.heap.size)) true ts vs ds ps
 | [], vs, ds, ps, _, _, h => by
  obtain ⟨rfl, rfl, rfl⟩ := trodAll_nil h
  exact h
 | t :: ts, vs, ds, ps, hr, hlt, h => by
  obtain ⟨v, vs', d, ds', p, q, rfl, rfl, rfl, h1, h2⟩ := trodAll_cons h
  refine ⟨p, q, Below.trod hl (hr t (by simp)).1 (hr t (by simp)).2 h1 hb (fun x hx => hlt x (by simp [hx])), ?_, rfl⟩
  exact trodAll_below hl hb ts vs' ds' q (fun t ht => hr t (by simp [ht])) (fun x hx => hlt x (by simp [hx])) h2
theorem post_of_below {f : Func} {s : ChangeSpec} {W W' : World} {args : Array Value} {tb : TypeId} (hl : laidOutB P = true)
  {ds gs : List (DataW H)} {before : List MemPlace} (hW : DataW.Whole enc P f.params.toList s.vars false W args.toList ds gs before)
  (hv : s.vars = []) (hs : s.fn H (ds ++ gs) = { results := [.lit (.bool true)], args := ds })
  (hr : ∀ t ∈ f.params.toList, P.readableRec t = true ∧ t < P.types.size) (hres : f.resultTypes = #[tb]) (htb : P.underlying tb = some .bool)
  (hb : Below W.heap.size W W') : s.post enc P f false true false false W args (.bool true) W' := by
 have hlt := hW.lt
 have hW0 := hW
 obtain ⟨p, q, hA, hV, rfl, hfz, hnd⟩ := hW
 rw [hv] at hV
 obtain ⟨rfl, rfl⟩ := trodVars_none hV
 simp only [List.append_nil] at *
 refine ⟨ds, [], p, [], p, [], by simpa using hW0, ?_, ?_, ?_, ?_, fun h => by cases h⟩
 ·simp only [List.append_nil, hs, hres]
  exact trodAll_cons_mk (shut_bool htb true) trodAll_mk0
 ·simp only [List.append_nil, hs]
  exact trodAll_below hl hb _ _ _ _ hr hlt hA
 ·simp only [List.append_nil, hs, hv]
  rfl
 ·exact hb.frame _
end
end Fr
open Go.RowKit
namespace Rp
def byteV (x : UInt8) : Value := .int .u8 (x.toNat : Int)
def Sl (w : World) (B size : Nat) (a : Option Addr) (n cap : Nat) (cs : List Value) : Prop :=
 cs.length = n * size ∧ n ≤ cap ∧ cap ≤ maxLen ∧ (a = none → cap = 0) ∧
 (0 < n → ∃ b o, a = some ⟨b, o, none⟩ ∧ b < B ∧ ∀ j u, cs[j]? = some u → w.cell? ⟨b, o + j, none⟩ = some u)
theorem Sl.mono {w w' : World} {B B' size : Nat} {a : Option Addr} {n cap : Nat} {cs : List Value} (h : Sl w B size a n cap cs) (hb : Below B w w') (hB : B ≤ B') : Sl w' B' size a n cap cs := by
 obtain ⟨h1, h2, h3, h0, h4⟩ := h
 refine ⟨h1, h2, h3, h0, fun hn => ?_⟩
 obtain ⟨b, o, ha, hlt, hc⟩ := h4 hn
 exact ⟨b, o, ha, by omega, fun j u hj => by rw [hb.cell (p := ⟨b, o + j, none⟩) hlt]; exact hc j u hj⟩
theorem Sl.later {w w' : World} {B size n cap : Nat} {a : Option Addr} {cs : List Value} (h : Sl w B size a n cap cs) (hb : Below B w w') : Sl w' B size a n cap cs := h.mono hb (Nat.le_refl _)
theorem Sl.len {α : Type} {f : α → Value} {w : World} {B n cap : Nat} {a : Option Addr} {l : List α} (h : Sl w B 1 a n cap (l.map f)) : l.length = n := by simpa using h.1
theorem Sl.take {w : World} {B size : Nat} {a : Option Addr} {n cap k : Nat} {cs : List Value} (h : Sl w B size a n cap cs) (hk : k ≤ n) : Sl w B size a k cap (cs.take (k * size)) := by
 obtain ⟨h1, h2, h3, h0, h4⟩ := h
 refine ⟨by simp [h1, Nat.min_eq_left (Nat.mul_le_mul_right size hk)], by omega, h3, h0, fun hn => ?_⟩
 obtain ⟨b, o, ha, hlt, hc⟩ := h4 (by omega)
 refine ⟨b, o, ha, hlt, fun j u hj => ?_⟩
 rw [List.getElem?_take] at hj
 split at hj
 ·exact hc j u hj
 ·cases hj
theorem Sl.at {w : World} {B size : Nat} {a : Option Addr} {n cap : Nat} {cs : List Value} (h : Sl w B size a n cap cs) {i : Nat} (hi : i < n) :
  ∃ b o, a = some ⟨b, o, none⟩ ∧ b < B ∧ ∀ j u, cs[j]? = some u → w.cell? ⟨b, o + j, none⟩ = some u := h.2.2.2.2 (by omega)
theorem Sl.cell {w : World} {B n cap : Nat} {a : Option Addr} {l : List UInt8} (h : Sl w B 1 a n cap (l.map byteV)) {i : Nat} (hi : i < l.length) :
  ∃ b o, a = some ⟨b, o, none⟩ ∧ b < B ∧ w.cell? ⟨b, o + i, none⟩ = some (.int .u8 (l[i].toNat : Int)) := by
 obtain ⟨b, o, ha, hlt, hc⟩ := h.at (i := i) (by have := h.len; omega)
 exact ⟨b, o, ha, hlt, hc i _ (by simp [hi, byteV])⟩
theorem Sl.lit' (w : World) (cs : Array Value) (e n size k B : Nat) (hk : k = w.heap.size) (hB : k < B) (hn : cs.size = n * size) (hm : n ≤ maxLen) :
  Sl (w.alloc (.cells cs e)) B size (some ⟨k, 0, none⟩) n n cs.toList := by
 subst hk
 exact ⟨by simpa using hn, Nat.le_refl _, hm, (fun h => by cases h), fun _ => ⟨w.heap.size, 0, rfl, hB, fun j u hj => by
  rw [cell_of_row (w.alloc (.cells cs e)) w.heap.size (0 + j) cs e (0, 0) (heap_alloc_new w _), Nat.zero_add]
  simpa using hj⟩⟩
theorem Sl.lit (w : World) (cs : Array Value) (e n size : Nat) (hn : cs.size = n * size) (hm : n ≤ maxLen) :
  Sl (w.alloc (.cells cs e)) (w.heap.size + 1) size (some ⟨w.heap.size, 0, none⟩) n n cs.toList := Sl.lit' w cs e n size _ _ rfl (Nat.lt_succ_self _) hn hm
theorem _root_.Go.World.grownBy.row {w w' : World} {r k : Option Nat} (h : w.grownBy w' r) (e : r = k) : w.grownBy w' k := e ▸ h
theorem _root_.Go.World.ownsRow.base {w : World} {base base' e size : Nat} {v : Value} {n : Nat} {xs : List Value} (h : w.ownsRow base e size v n xs) (hb : base' ≤ base) : w.ownsRow base' e size v n xs := by
 refine ⟨h.1, ?_⟩
 rcases h.2 with hn | ⟨g, cap, cur, rfl, hg, r⟩
 ·exact .inl hn
 ·exact .inr ⟨g, cap, cur, rfl, by omega, r⟩
theorem Sl.lt {w w' : World} {size n cap : Nat} {a : Option Addr} {cs : List Value} (h : Sl w w.heap.size size a n cap cs) (hx : Below w.heap.size w w') : Sl w' w'.heap.size size a n cap cs := h.mono hx hx.size
section
open Go.ChangeShapes Go.WideShapes
variable {H : Type} {enc : TypeId × Value → H} {P : Program}
end
end Rp
open Go.RowKit
namespace Rg
def Ext (w w' : World) : Prop := Below w.heap.size w w'
theorem Ext.refl (w : World) : Ext w w := Below.refl _ _
theorem Ext.trans {a b c : World} (h : Ext a b) (k : Ext b c) : Ext a c := Below.trans h (Below.mono k h.size)
structure Lt (w : World) where
 v : World
 ext : Ext w v
instance (w : World) : Nonempty (Lt w) := ⟨⟨w, Ext.refl w⟩⟩
def Cls (w : World) (w' : World) : Prop := ∃ x : Lt w, w' = x.v
theorem Cls.mk {w w' : World} (h : Ext w w') : Cls w w' := ⟨⟨w', h⟩, rfl⟩
theorem Cls.ext {w w' : World} (h : Cls w w') : Ext w w' := by obtain ⟨x, rfl⟩ := h; exact x.ext
@[go_sem] theorem cls_iff (w w' : World) : Cls w w' ↔ ∃ x : Lt w, w' = x.v := Iff.rfl
theorem Ext.cell {w w' : World} (h : Ext w w') {a : Addr} {v : Value} (hc : w.cell? a = some v) : w'.cell? a = some v := by
 rw [Below.cell h (p := a) (World.block_lt_of_cell? w a hc)]; exact hc
theorem later {w : World} {a : Addr} {v : Value} (hc : w.cell? a = some v) : ∀ x : Lt w, x.v.cell? a = some v := fun x => x.ext.cell hc
theorem _root_.Go.World.ownsRow.ext {w w' : World} {base e size : Nat} {v : Value} {n : Nat} {xs : List Value} (h : w.ownsRow base e size v n xs) (hx : Ext w w') : w'.ownsRow base e size v n xs := by
 refine ⟨h.1, ?_⟩
 rcases h.2 with hn | ⟨g, cap, cur, rfl, hb, hg, r⟩
 ·exact .inl hn
 ·exact .inr ⟨g, cap, cur, rfl, hb, by rw [hx.block g (Array.getElem?_eq_some_iff.1 hg).1]; exact hg, r⟩
def noCall : Op → Bool
 | .call { callee := .builtin b, .. } => match b with | .len | .cap | .min | .max => true | _ => false
 | .call _ | .go _ | .defer _ | .send .. | .recv .. | .select .. => false
 | _ => true
section
variable {P : Program} {ops : Array Oper} {Q : Exit → Act → World → Prop} {md : Region.Mode}
theorem bindValue_enter (s : Sem Value) (w : World) (f : FuncId) (args : Array Value) (w' : World) : (do pure (Next.value (← s)) : Sem Next).run P w ≠ .ok (.enter f args) w' := by
 simp only [Sem.run_bind]
 cases s.run P w <;> simp [Result.andThen]
theorem bindUnit_enter (s : Sem Unit) (w : World) (f : FuncId) (args : Array Value) (w' : World) : (do s; pure Next.skip : Sem Next).run P w ≠ .ok (.enter f args) w' := by
 simp only [Sem.run_bind]
 cases s.run P w <;> simp [Result.andThen]
theorem noCall_spec {o : Oper} (h : noCall o.op = true) (ρ : Operand → Value) (w : World) (f : FuncId) (args : Array Value) (w' : World) : (execOp ρ o).run P w ≠ .ok (.enter f args) w' := by
 obtain ⟨dst, op, type, pos, after, guard⟩ := o
 cases op
 case call c =>
  obtain ⟨callee, cargs, at'⟩ := c
  cases callee with
  | builtin b =>
   cases b <;> simp only [noCall, Bool.false_eq_true] at h
   all_goals exact bindValue_enter _ _ _ _ _
  | value f => simp [noCall] at h
  | invoke r m => simp [noCall] at h
 case move x => simp [execOp]
 case assign x => simp [execOp]
 case nilCheck x =>
  simp only [execOp]
  split
  ·simp [runtimePanic, goPanic]
  ·simp [runtimePanic, goPanic]
  ·simp [runtimePanic, goPanic]
  ·split
   ·simp [runtimePanic, goPanic]
   ·simp only [Sem.run_bind]
    simp only [Result.andThen]
    repeat' split
    all_goals first | (intro hh; cases hh; done) | simp_all [unsupported]
   ·simp
  ·simp
 case pick c a b =>
  simp only [execOp, Sem.run_bind]
  cases (asBool (ρ c)).run P w <;> simp [Result.andThen]
 case go c => simp [noCall] at h
 case defer c => simp [noCall] at h
 case send => simp [noCall] at h
 case recv => simp [noCall] at h
 case select => simp [noCall] at h
 all_goals first
  | exact bindValue_enter _ _ _ _ _
  | exact bindUnit_enter _ _ _ _ _
def Yld (P : Program) (ops : Array Oper) (w : World) (o : Oper) (v : Value) (a : Act) : Prop :=
 (Region.wanted o (yielded ops a.tmps) = true ∧ ∀ w', Ext w w' → (execOp a.eval o).run P w' = .ok (.value v) w' ∨ ((execOp a.eval o).run P w' = .ok .skip w' ∧ v = undef)) ∨
 (Region.wanted o (yielded ops a.tmps) = false ∧ v = undef)
theorem Yld.later {w w1 : World} {o : Oper} {v : Value} {a : Act} (h : Yld P ops w o v a) (he : Ext w w1) : Yld P ops w1 o v a := by
 rcases h with ⟨hw, h⟩ | h
 ·exact .inl ⟨hw, fun w' hw' => h w' (he.trans hw')⟩
 ·exact .inr h
theorem Yld.of_same {w : World} {o : Oper} {v : Value} {a a' : Act} (hy : Yld P ops w o v a) (he : execOp a'.eval o = execOp a.eval o)
  (hw : Region.wanted o (yielded ops a'.tmps) = Region.wanted o (yielded ops a.tmps)) : Yld P ops w o v a' := by
 unfold Yld at *
 rw [he, hw]
 exact hy
theorem Yld.wpOp {w : World} {i : Nat} {o : Oper} {v : Value} {a : Act} (hi : ops[i]? = some o) (hy : Yld P ops w o v a) {K : Act → World → Prop} (h : K (a.put o.dst v) w) : wpOp P ops Q i K a w := by
 unfold Go.wpOp
 simp only [hi]
 rcases hy with ⟨hw, hv⟩ | ⟨hw, rfl⟩
 ·rw [if_pos hw]
  refine .inl ?_
  unfold Oper.wp
  rcases hv w (Ext.refl w) with hx | ⟨hx, rfl⟩
  ·rw [hx]; exact h
  ·rw [hx]; exact h
 ·simp only [hw, Bool.false_eq_true, if_false]; exact h
theorem yld_of_quiet {w : World} {o : Oper} {a : Act} {K : Act → Prop} (hn : noCall o.op = true)
  (h : if Region.wanted o (yielded ops a.tmps) then o.quiet P a (Cls w) K else K (a.put o.dst undef)) : ∃ v, Yld P ops w o v a ∧ K (a.put o.dst v) := by
 by_cases hw : Region.wanted o (yielded ops a.tmps) = true
 ·simp only [hw, if_true] at h
  obtain ⟨v, h1, h2⟩ := h
  refine ⟨v, .inl ⟨hw, fun w' hw' => ?_⟩, h2⟩
  have h3 := h1 w' (Cls.mk hw')
  unfold Oper.quietAt at h3
  have hne := fun f args w'' => noCall_spec (P := P) hn a.eval w' f args w''
  generalize (execOp a.eval o).run P w' = r at *
  cases r with
  | halt x w'' => simp only [Oper.quietUpon] at h3
  | ok n w'' =>
   cases n <;> simp only [Oper.quietUpon] at h3
   case value u => obtain ⟨rfl, rfl⟩ := h3; exact .inl rfl
   case skip => obtain ⟨rfl, rfl⟩ := h3; exact .inr ⟨rfl, rfl⟩
   case enter f args => exact absurd rfl (hne f args w'')
 ·simp only [hw] at h
  exact ⟨undef, .inr ⟨by simpa using hw, rfl⟩, h⟩
def np (Q : Exit → Act → World → Prop) : Exit → Act → World → Prop := fun e a w => (∀ c, e ≠ .panic c) ∧ Q e a w
theorem wp_monoQ {o : Oper} {a : Act} {w : World} {K : Act → World → Prop} {Q' : Exit → Act → World → Prop} (hp : ∀ c a w, Q' (.panic c) a w → Q (.panic c) a w) (ho : ∀ a w, Q' .outgrown a w → Q .outgrown a w) (hh : o.wp P a w K Q') : o.wp P a w K Q := by
 unfold Oper.wp at *
 generalize (execOp a.eval o).run P w = r at *
 cases r with
 | ok n w' =>
  cases n <;> simp only [Oper.upon] at hh ⊢
  case enter f args =>
   refine Calls.mono hh fun e w'' he => ?_
   cases e with
   | returned v => exact he
   | panicked c => exact hp _ _ _ he
   | outgrown => obtain ⟨a0, w0, hq⟩ := he; exact ⟨a0, w0, ho _ _ hq⟩
  all_goals exact hh
 | halt x w' =>
  cases x <;> simp only [Oper.upon] at hh ⊢
  case panic v => exact hp _ _ _ hh
theorem wpOp_monoQ {i : Nat} {a : Act} {w : World} {K : Act → World → Prop} {Q' : Exit → Act → World → Prop} (hp : ∀ c a w, Q' (.panic c) a w → Q (.panic c) a w) (ho : ∀ a w, Q' .outgrown a w → Q .outgrown a w) (hh : wpOp P ops Q' i K a w) : wpOp P ops Q i K a w := by
 unfold wpOp at *
 split
 ·rename_i ho; simp only [ho] at hh; exact hh
 ·rename_i o hoo
  simp only [hoo] at hh
  split
  ·rename_i hw
   simp only [hw, if_true] at hh
   rcases hh with hh | ⟨ha, a0, w0, hq⟩
   ·exact .inl (wp_monoQ hp ho hh)
   ·exact .inr ⟨ha, a0, w0, ho _ _ hq⟩
  ·rename_i hw; simp only [hw] at hh; exact hh
def anyE (P : Program) (md : Region.Mode) (ops : Array Oper) (Q : Exit → Act → World → Prop) (tl : List Nat) (wb : World) : Nat → Array Bool → Act → World → Prop
 | 0, listed, a, w => Region.ready md ops listed = [] ∧ Q .normal a w
 | fuel + 1, listed, a, w =>
  (Region.ready md ops listed = [] → Q .normal a w) ∧
  ∀ i ∈ Region.ready md ops listed, wpOp P ops (if tl.contains i then Q else np Q) i (fun a' w' => (tl.contains i = false → Ext wb w') ∧ anyE P md ops Q tl wb fuel (listed.setIfInBounds i true) a' w') a w
theorem anyE_any {tl : List Nat} {wb : World} : ∀ (fuel : Nat) (listed : Array Bool) (a : Act) (w : World), anyE P md ops Q tl wb fuel listed a w → wpAny P md ops Q fuel listed a w
 | 0, _, _, _, h => h
 | fuel + 1, _, _, _, h => ⟨h.1, fun i hi => wpOp_monoQ (fun c a w hq => by split at hq; exact hq; exact hq.2) (fun a w hq => by split at hq; exact hq; exact hq.2) (wpOp_mono (fun a' w' h' => anyE_any fuel _ a' w' h'.2) (h.2 i hi))⟩
theorem anyE_base {tl : List Nat} {wb wb' : World} (he : Ext wb wb') : ∀ (fuel : Nat) (listed : Array Bool) (a : Act) (w : World), anyE P md ops Q tl wb' fuel listed a w → anyE P md ops Q tl wb fuel listed a w
 | 0, _, _, _, h => h
 | fuel + 1, _, _, _, h => ⟨h.1, fun i hi => wpOp_mono (fun a' w' h' => ⟨fun ht => he.trans (h'.1 ht), anyE_base he fuel _ a' w' h'.2⟩) (h.2 i hi)⟩
def Closed (md : Region.Mode) (ops : Array Oper) (listed : Array Bool) : Prop :=
 ∀ j o, ops[j]? = some o → listed.getD j false = true → ∀ e ∈ o.after, Region.binds md e = true → listed.getD e.on false = true
theorem Closed.step {listed : Array Bool} (h : Closed md ops listed) {i : Nat} (hi : i ∈ Region.ready md ops listed) : Closed md ops (listed.setIfInBounds i true) := by
 intro j o hj hl e he hb
 by_cases hij : i = j
 ·subst hij
  obtain ⟨_, o', ho', hall⟩ := mem_ready.1 hi
  have : o' = o := by rw [hj] at ho'; exact (Option.some.inj ho').symm
  subst this
  exact getD_set_true (hall e he hb)
 ·rw [getD_set_ne false hij] at hl
  exact getD_set_true (h j o hj hl e he hb)
def waits (W : Array Nat) (j i : Nat) : Bool := (W.getD j 0).testBit i
def waitsB (md : Region.Mode) (ops : Array Oper) (W : Array Nat) : Bool :=
 (List.range ops.size).all fun j => (List.range ops.size).all fun i => !waits W j i ||
  (match ops[j]? with | some o => o.after.toList.any fun e => Region.binds md e && (e.on == i || (decide (e.on < j) && waits W e.on i)) | none => false)
theorem waits_spec {W : Array Nat} (h : waitsB md ops W = true) {j i : Nat} {o : Oper} (hj : ops[j]? = some o) (hi : i < ops.size) (hw : waits W j i = true) :
  ∃ e ∈ o.after, Region.binds md e = true ∧ (e.on = i ∨ (e.on < j ∧ waits W e.on i = true)) := by
 unfold waitsB at h
 simp only [List.all_eq_true, List.mem_range] at h
 have hlt : j < ops.size := (Array.getElem?_eq_some_iff.1 hj).1
 have h1 := h j hlt i hi
 rw [hj, hw] at h1
 simp only [Bool.not_true, Bool.false_or, List.any_eq_true, Bool.and_eq_true, Bool.or_eq_true, beq_iff_eq, decide_eq_true_eq] at h1
 obtain ⟨e, he, hb, h2⟩ := h1
 exact ⟨e, by simpa using he, hb, h2⟩
theorem waits_listed {W : Array Nat} (h : waitsB md ops W = true) {listed : Array Bool} (hc : Closed md ops listed) {i : Nat} (hi : i < ops.size) :
  ∀ (n j : Nat) (o : Oper), j ≤ n → ops[j]? = some o → (∀ e ∈ o.after, Region.binds md e = true → listed.getD e.on false = true) → waits W j i = true → listed.getD i false = true := by
 intro n
 induction n with
 | zero =>
  intro j o hjn hj hall hw
  obtain ⟨e, he, hb, h2⟩ := waits_spec h hj hi hw
  rcases h2 with rfl | ⟨hlt, _⟩
  ·exact hall e he hb
  ·omega
 | succ n ih =>
  intro j o hjn hj hall hw
  obtain ⟨e, he, hb, h2⟩ := waits_spec h hj hi hw
  rcases h2 with rfl | ⟨hlt, hw'⟩
  ·exact hall e he hb
  ·have hlt2 : e.on < ops.size := by have := (Array.getElem?_eq_some_iff.1 hj).1; omega
   exact ih e.on ops[e.on] (by omega) (Array.getElem?_eq_getElem hlt2) (hc e.on _ (Array.getElem?_eq_getElem hlt2) (hall e he hb)) hw'
theorem anyE_first {tl : List Nat} {wb : World} {i : Nat} {oi : Oper} {v : Value} {W : Array Nat} (hW : waitsB md ops W = true) (hi : ops[i]? = some oi)
    (hsel : ∀ (j : Nat) (o : Oper) cs b, ops[j]? = some o → o.op ≠ .select cs b) :
    ∀ (fuel : Nat) (listed : Array Bool) (a : Act) (w : World), Closed md ops listed → Ext wb w →
      (∀ j oj, ops[j]? = some oj → j ≠ i → listed.getD j true = false → waits W j i = true ∨ (oi.apart ops oj = true ∧ tl.contains j = false)) →
      i ∈ Region.ready md ops listed → Yld P ops wb oi v a →
      anyE P md ops Q tl wb fuel (listed.setIfInBounds i true) (a.put oi.dst v) w → anyE P md ops Q tl wb (fuel + 1) listed a w := by
  intro fuel
  induction fuel with
  | zero =>
    intro listed a w hc hwb hfree hr hy H
    refine ⟨fun h => (by rw [h] at hr; cases hr), fun j hj => ?_⟩
    by_cases hji : j = i
    · subst hji; exact (hy.later hwb).wpOp hi ⟨fun _ => hwb, H⟩
    · have := ready_mono hj hji
      rw [H.1] at this
      cases this
  | succ fuel ih =>
    intro listed a w hc hwb hfree hr hy H
    refine ⟨fun h => (by rw [h] at hr; cases hr), fun j hj => ?_⟩
    by_cases hji : j = i
    · subst hji; exact (hy.later hwb).wpOp hi ⟨fun _ => hwb, H⟩
    · have h1 := H.2 j (ready_mono hj hji)
      obtain ⟨hjun, oj, hoj, hall⟩ := mem_ready.1 hj
      have hilt : i < ops.size := (Array.getElem?_eq_some_iff.1 hi).1
      have hiun : listed.getD i false = false := by
        have h0 := (mem_ready.1 hr).1
        rcases Nat.lt_or_ge i listed.size with h' | h'
        · simpa [h'] using h0
        · simp [Array.getElem?_eq_none h']
      have hap : oi.apart ops oj = true ∧ tl.contains j = false := by
        rcases hfree j oj hoj hji hjun with hw | h
        · have := waits_listed hW hc hilt j j oj (Nat.le_refl _) hoj hall hw
          rw [hiun] at this
          cases this
        · exact h
      obtain ⟨p1, p2, p3⟩ := Oper.apart_spec hap.1
      have hsi := fun cs b => hsel i oi cs b hi
      have hsj := fun cs b => hsel j oj cs b hoj
      have keep : ∀ (a : Act), Yld P ops wb oi v a → ∀ u, Yld P ops wb oi v (a.put oj.dst u) := fun a hy u =>
        hy.of_same (execOp_put oi hsi a oj.dst u p3) (wanted_put oi a oj.dst u p3)
      have keepD : ∀ d, Yld P ops wb oi v { a with defers := d :: a.defers } := fun d => hy.of_same rfl rfl
      have hfree' : ∀ k ok, ops[k]? = some ok → k ≠ i → (listed.setIfInBounds j true).getD k true = false → waits W k i = true ∨ (oi.apart ops ok = true ∧ tl.contains k = false) := fun k ok hk hki hun => by
        refine hfree k ok hk hki ?_
        by_cases hjk : j = k
        · subst hjk; exact hjun
        · rw [getD_set_ne true hjk] at hun; exact hun
      have fin : ∀ (a' : Act) (w' : World), Yld P ops wb oi v a' → Ext wb w' → anyE P md ops Q tl wb fuel ((listed.setIfInBounds i true).setIfInBounds j true) (a'.put oi.dst v) w' →
          (True → Ext wb w') ∧ anyE P md ops Q tl wb (fuel + 1) (listed.setIfInBounds j true) a' w' := fun a' w' hy' he' h' =>
        ⟨fun _ => he', ih _ a' w' (hc.step hj) he' hfree' (ready_mono hr (Ne.symm hji)) hy' (by rw [Array.setIfInBounds_comm _ _ hji]; exact h')⟩
      rw [hap.2] at h1 ⊢
      simp only [Bool.false_eq_true, if_false] at h1 ⊢
      unfold wpOp at *
      simp only [hoj] at *
      rw [wanted_put oj a oi.dst v p1] at h1
      split
      · rename_i hw
        simp only [hw, if_true] at h1
        rcases h1 with h1 | ⟨hasks, hlets⟩
        case inr => exact .inr ⟨by unfold Oper.asks at *; rw [execOp_put oj hsj a oi.dst v p1] at hasks; exact hasks, hlets⟩
        refine .inl ?_
        unfold Oper.wp at *
        rw [execOp_put oj hsj a oi.dst v p1] at h1
        generalize (execOp a.eval oj).run P w = r at *
        cases r with
        | ok n w' =>
          cases n <;> simp only [Oper.upon] at h1 ⊢
          case value u => exact fin _ _ (keep a hy u) (h1.1 trivial) (by rw [← Act.put_comm a v u p2]; exact h1.2)
          case skip => exact fin _ _ (keep a hy _) (h1.1 trivial) (by rw [← Act.put_comm a v undef p2]; exact h1.2)
          case defer d =>
            refine fin _ _ (keep _ (keepD d) _) (h1.1 trivial) ?_
            rw [← Act.put_comm _ v undef p2, ← Act.put_defers]
            exact h1.2
          case enter f args =>
            refine Calls.mono h1 fun e w'' he => ?_
            cases e with
            | returned u => exact fin _ _ (keep a hy u) (he.1 trivial) (by rw [← Act.put_comm a v u p2]; exact he.2)
            | panicked c => exact absurd rfl (he.1 c)
            | outgrown => exact he
          case row row args => exact Rows.mono h1 fun u w'' he => fin _ _ (keep a hy u) (he.1 trivial) (by rw [← Act.put_comm a v u p2]; exact he.2)
        | halt x w' =>
          cases x <;> simp only [Oper.upon] at h1 ⊢
          case panic u => exact absurd rfl (h1.1 _)
      · rename_i hw
        simp only [hw] at h1
        exact fin _ _ (keep a hy _) (h1.1 trivial) (by rw [← Act.put_comm a v undef p2]; exact h1.2)
def nth : List Oper → Nat → Oper
 | [], _ => default
 | o :: _, 0 => o
 | _ :: r, n + 1 => nth r n
def pick (l : List Oper) : List Nat → List Oper
 | [] => []
 | i :: r => nth l i :: pick l r
def walk (P : Program) (ops : Array Oper) (Q : Exit → Act → World → Prop) (tail : List Oper) : List (List Oper × Oper) → List Oper → World → Act → Prop
 | [], last, w, a => wpQuiet P ops (Cls w) (fun a' => wpList P ops Q tail a' w) last a
 | (S, oc) :: t, last, w, a => wpQuiet P ops (Cls w) (fun a' => wpList P ops (Exit.then (fun a'' w'' => Ext w w'' ∧ walk P ops Q tail t last w'' a'') (fun _ _ _ => False)) [oc] a' w) S a
def freeW (ops : Array Oper) (W : Array Nat) (tl : List Nat) (listed : Array Bool) (i : Nat) : Bool :=
  match ops[i]? with
  | none => false
  | some oi => noCall oi.op && !tl.contains i && (List.range ops.size).all fun j => j == i || listed.getD j true || waits W j i ||
      (match ops[j]? with | some oj => oi.apart ops oj && !tl.contains j | none => true)
def chkS (md : Region.Mode) (ops : Array Oper) (W : Array Nat) (tl : List Nat) : List Nat → Array Bool → (Array Bool → Bool) → Bool
 | [], listed, k => k listed
 | i :: r, listed, k => (Region.ready md ops listed).contains i && freeW ops W tl listed i && chkS md ops W tl r (listed.setIfInBounds i true) k
def chkT (md : Region.Mode) (ops : Array Oper) (tl : List Nat) : List Nat → Array Bool → Bool
 | [], listed => (Region.ready md ops listed).isEmpty
 | i :: r, listed => Region.ready md ops listed == [i] && tl.contains i && chkT md ops tl r (listed.setIfInBounds i true)
def chk (md : Region.Mode) (ops : Array Oper) (W : Array Nat) (tl : List Nat) : List (List Nat × Nat) → List Nat → Array Bool → Bool
 | [], last, listed => chkS md ops W tl last listed (chkT md ops tl tl)
 | (S, i) :: t, last, listed => chkS md ops W tl S listed fun l' => Region.ready md ops l' == [i] && !tl.contains i && chk md ops W tl t last (l'.setIfInBounds i true)
def planSize (pl : List (List Nat × Nat)) (last tl : List Nat) : Nat := (pl.map fun x => x.1.length + 1).sum + last.length + tl.length
theorem nth_of {l : List Oper} : ∀ {i : Nat} {o : Oper}, l[i]? = some o → nth l i = o := by
 induction l with
 | nil => intro i o h; simp at h
 | cons x r ih =>
  intro i o h
  cases i with
  | zero => simpa [nth] using h
  | succ i => simp only [nth]; exact ih (by simpa using h)
theorem tail_sound {tl : List Nat} {wb : World} : ∀ (l : List Nat) (listed : Array Bool) (a : Act) (w : World), chkT md ops tl l listed = true → wpList P ops Q (pick ops.toList l) a w →
  anyE P md ops Q tl wb l.length listed a w
 | [], listed, a, w, hc, h => ⟨by simpa [chkT] using hc, by simpa [pick, wpList] using h⟩
 | i :: l, listed, a, w, hc, h => by
  simp only [chkT, Bool.and_eq_true, beq_iff_eq] at hc
  obtain ⟨⟨hr, ht⟩, hc⟩ := hc
  refine ⟨fun h0 => (by rw [h0] at hr; cases hr), fun j hj => ?_⟩
  rw [hr] at hj
  obtain rfl : j = i := by simpa using hj
  have hmem : j ∈ Region.ready md ops listed := by rw [hr]; simp
  obtain ⟨_, o, ho, _⟩ := mem_ready.1 hmem
  have hn : nth ops.toList j = o := nth_of (by simpa using ho)
  simp only [pick, hn, wpList] at h
  rw [if_pos ht]
  unfold wpOp
  simp only [ho]
  have fin : ∀ a' w', wpList P ops Q (pick ops.toList l) a' w' → (tl.contains j = false → Ext wb w') ∧ anyE P md ops Q tl wb l.length (listed.setIfInBounds j true) a' w' :=
   fun a' w' h' => ⟨fun hf => (by rw [ht] at hf; cases hf), tail_sound l _ a' w' hc h'⟩
  split
  ·rename_i hw
   rw [if_pos hw] at h
   rcases h with h | h
   ·exact .inl (Oper.wp_mono fin h)
   ·exact .inr h
  ·rename_i hw
   rw [if_neg hw] at h
   exact fin _ _ h
theorem seg_sound {tl : List Nat} {W : Array Nat} {wb : World} (hW : waitsB md ops W = true) (hs : Region.noSelect ops = true) {k : Array Bool → Bool} {n : Nat} {K : Act → Prop}
  (hk : ∀ (listed : Array Bool) (a : Act), Closed md ops listed → k listed = true → K a → anyE P md ops Q tl wb n listed a wb) :
  ∀ (l : List Nat) (listed : Array Bool) (a : Act), Closed md ops listed → chkS md ops W tl l listed k = true → wpQuiet P ops (Cls wb) K (pick ops.toList l) a →
   anyE P md ops Q tl wb (l.length + n) listed a wb
 | [], listed, a, hcl, hc, h => by simpa using hk listed a hcl (by simpa [chkS] using hc) (by simpa [pick, wpQuiet] using h)
 | i :: l, listed, a, hcl, hc, h => by
  simp only [chkS, Bool.and_eq_true] at hc
  obtain ⟨⟨hr, hf⟩, hc⟩ := hc
  have hmem : i ∈ Region.ready md ops listed := by simpa using hr
  obtain ⟨_, o, ho, _⟩ := mem_ready.1 hmem
  have hn : nth ops.toList i = o := nth_of (by simpa using ho)
  simp only [freeW, ho, Bool.and_eq_true, List.all_eq_true, List.mem_range] at hf
  obtain ⟨⟨hnc, htl⟩, hall⟩ := hf
  simp only [pick, hn, wpQuiet] at h
  obtain ⟨v, hy, h'⟩ := yld_of_quiet hnc h
  have := seg_sound hW hs hk l _ _ (hcl.step hmem) hc h'
  rw [List.length_cons, Nat.add_right_comm]
  refine anyE_first hW ho (Region.noSelect_spec hs) _ listed a wb hcl (Ext.refl _) (fun j oj hj hne hun => ?_) hmem hy this
  have h2 := hall j (Array.getElem?_eq_some_iff.1 hj).1
  simp only [hj, Bool.or_eq_true, beq_iff_eq, hne, hun, Bool.false_eq_true, false_or, Bool.and_eq_true, Bool.not_eq_true'] at h2
  exact h2
theorem walk_sound {tl : List Nat} {W : Array Nat} (hW : waitsB md ops W = true) (hs : Region.noSelect ops = true) : ∀ (pl : List (List Nat × Nat)) (last : List Nat) (listed : Array Bool) (a : Act) (w : World),
    Closed md ops listed → chk md ops W tl pl last listed = true → walk P ops Q (pick ops.toList tl) (pl.map fun x => (pick ops.toList x.1, nth ops.toList x.2)) (pick ops.toList last) w a →
    anyE P md ops Q tl w (planSize pl last tl) listed a w
  | [], last, listed, a, w, hcl, hc, h => by
    have := seg_sound (P := P) (Q := Q) hW hs (k := chkT md ops tl tl) (n := tl.length) (K := fun a' => wpList P ops Q (pick ops.toList tl) a' w) (wb := w)
      (fun l a' _ hk h' => tail_sound tl l a' w hk h') last listed a hcl (by simpa [chk] using hc) (by simpa [walk] using h)
    simpa [planSize] using this
  | (S, i) :: t, last, listed, a, w, hcl, hc, h => by
    have := seg_sound (P := P) (Q := Q) hW hs (wb := w) (n := planSize t last tl + 1) (tl := tl)
      (k := fun l' => Region.ready md ops l' == [i] && !tl.contains i && chk md ops W tl t last (l'.setIfInBounds i true))
      (K := fun a' => wpList P ops (Exit.then (fun a'' w'' => Ext w w'' ∧ walk P ops Q (pick ops.toList tl) (t.map fun x => (pick ops.toList x.1, nth ops.toList x.2)) (pick ops.toList last) w'' a'') (fun _ _ _ => False)) [nth ops.toList i] a' w)
      (fun l a' hcl' hk h' => by
        simp only [Bool.and_eq_true, beq_iff_eq, Bool.not_eq_true'] at hk
        obtain ⟨⟨hr, ht⟩, hc'⟩ := hk
        refine ⟨fun h0 => (by rw [h0] at hr; cases hr), fun j hj => ?_⟩
        rw [hr] at hj
        obtain rfl : j = i := by simpa using hj
        have hmem : j ∈ Region.ready md ops l := by rw [hr]; simp
        obtain ⟨_, o, ho, _⟩ := mem_ready.1 hmem
        have hn : nth ops.toList j = o := nth_of (by simpa using ho)
        rw [ht]
        simp only [Bool.false_eq_true, if_false]
        simp only [hn, wpList, Exit.then] at h'
        have fin : ∀ a'' w'', (Ext w w'' ∧ walk P ops Q (pick ops.toList tl) (t.map fun x => (pick ops.toList x.1, nth ops.toList x.2)) (pick ops.toList last) w'' a'') →
            (True → Ext w w'') ∧ anyE P md ops Q tl w (planSize t last tl) (l.setIfInBounds j true) a'' w'' := fun a'' w'' hh =>
          ⟨fun _ => hh.1, anyE_base hh.1 _ _ _ _ (walk_sound hW hs t last _ a'' w'' (hcl'.step hmem) hc' hh.2)⟩
        unfold wpOp
        simp only [ho]
        split
        · rename_i hw
          rw [if_pos hw] at h'
          rcases h' with h' | ⟨_, a0, w0, hq⟩
          · refine .inl (wp_monoQ (Q' := Exit.then (fun a'' w'' => Ext w w'' ∧ walk P ops Q (pick ops.toList tl) (t.map fun x => (pick ops.toList x.1, nth ops.toList x.2)) (pick ops.toList last) w'' a'') (fun _ _ _ => False)) (fun c a1 w1 hq => hq.elim) (fun a1 w1 hq => hq.elim) (Oper.wp_mono fin h'))
          · exact hq.elim
        · rename_i hw
          rw [if_neg hw] at h'
          exact fin _ _ h') S listed a hcl (by simpa [chk] using hc) (by simpa [walk] using h)
    have e : planSize ((S, i) :: t) last tl = S.length + (planSize t last tl + 1) := by simp [planSize]; omega
    rw [e]
    exact this
theorem region {id : Nat} {l : List Oper} {a : Act} {w : World} (pl : List (List Nat × Nat)) (last tl : List Nat) (hm : P.follows .mixedOrders = true)
  (hB : (waitsB .any l.toArray (Region.before l.toArray) && Region.noSelect l.toArray && chk .any l.toArray (Region.before l.toArray) tl pl last (Array.replicate l.length false) && planSize pl last tl == l.length) = true)
  (h : ∀ w', Ext w w' → walk P l.toArray Q (pick l tl) (pl.map fun x => (pick l x.1, nth l x.2)) (pick l last) w' a) : (Code.region id l.toArray true).wp P Q a w := by
 simp only [Bool.and_eq_true, beq_iff_eq] at hB
 obtain ⟨⟨⟨hW, hs⟩, hc⟩, hsz⟩ := hB
 refine wp_region_any hm (anyE_any (tl := tl) (wb := { w with drawn := w.drawn + 1 }) _ _ _ _ ?_)
 have := walk_sound (P := P) (Q := Q) (md := .any) (ops := l.toArray) (tl := tl) hW hs pl last (Array.replicate l.length false) a { w with drawn := w.drawn + 1 } (by
  intro j o _ hl
  exfalso
  simp [Array.getElem?_replicate] at hl
  split at hl <;> simp_all) (by simpa using hc) (by simpa using h _ (Below.drew (Below.refl _ w)))
 rw [hsz] at this
 simpa using this
end
end Rg
open Go.RowKit Rp Rg
namespace Ops
structure El (P : Program) (t e size bytes : Nat) : Prop where
 und : P.underlying t = some (.slice e)
 inf : ∃ i z, P.info? e = some i ∧ i.zero = some z ∧ i.size = size ∧ i.bytes = bytes ∧ z.cells.size = size
 pos : 0 < size
section
variable {P : Program} {t e size bytes : Nat} {w : World} {ops : Array Oper} {Q : Exit → Act → World → Prop} {a : Act} {rest : List Oper} {o : Oper}
theorem app (hE : El P t e size bytes) (hg : o.guard = none) (s x : Operand) (ho : o.op = .call { callee := .builtin .append, args := #[s, x], argTypes := #[t, t] })
  {base n m c B : Nat} {v : Value} {xs news : List Value} {b : Option Addr} (hs : a.eval s = v) (hown : w.ownsRow base e size v n xs) (hx : a.eval x = .slice b m c) (hS : Sl w B size b m c news)
  (h1 : ∀ u ∈ news, u.oneCell' = true) (hmax : n + m ≤ 140737488355328) (hbytes : (n + m) * bytes ≤ 140737488355328) (hbase : base ≤ w.heap.size)
  (hK : ∀ v' w', w'.ownsRow base e size v' (n + m) (xs ++ news) → w.grownBy w' v.ownBlock → wpList P ops Q rest (a.put o.dst v') w') : wpList P ops Q (o :: rest) a w := by
 obtain ⟨i, z, hi, hz, hsz, hby, hzs⟩ := hE.inf
 obtain ⟨hl, hmc, _, h0, hm⟩ := hS
 cases b with
 | none =>
  obtain rfl : c = 0 := h0 rfl
  obtain rfl : m = 0 := by omega
  have hnews : news = [] := List.eq_nil_of_length_eq_zero (by simpa using hl)
  subst hnews
  exact wpList_append_own_none hg s x t ho base e i size hE.und hi v n xs hs hown hx (by simpa using hK v w (by simpa using hown) (World.grownBy.refl w _))
 | some ad =>
  refine wpList_append_own w hg s x t ho base e i z size bytes hE.und hi hz hsz hby hzs hE.pos v n xs hs hown ad m c news hx hl (fun j u hu => ?_) h1
   (by simp only [maxLen]; omega) hbytes hbase (fun v' w' h2 h3 _ => hK v' w' h2 h3)
  have hj := (List.getElem?_eq_some_iff.1 hu).1
  have hpos : 0 < m := by
   rcases Nat.eq_zero_or_pos m with h | h
   ·subst h; simp at hl; rw [hl] at hj; simp at hj
   ·exact h
  obtain ⟨g, off, had, _, hc⟩ := hm hpos
  cases had
  rw [Addr.add_lit]
  exact hc j u hu
theorem run_str {src dst E B : Nat} (h1 : P.underlying src = some (.slice E)) (h2 : P.underlying E = some (.int .u8)) (h3 : P.underlying dst = some .string) {a : Option Addr} {n cap : Nat} {l : List UInt8}
  (hS : Sl w B 1 a n cap (l.map byteV)) : (convert src dst (.slice a n cap)).run P w = .ok (.string ⟨l.toArray⟩) w := by
 obtain ⟨hl, _, _, h0, h⟩ := hS
 have hln : l.length = n := by simpa using hl
 rcases Nat.eq_zero_or_pos n with hz | hpos
 ·have hl0 : l = [] := List.eq_nil_of_length_eq_zero (by omega)
  subst hl0
  subst hz
  cases a with
  | none => exact run_convert_bytes_nil w src E h1 h2 0 cap dst h3
  | some ad =>
   rw [run_convert_bytes_string w src dst E _ 0 cap h1 h2 h3, run_bytesToString w ad 0 cap [] (by simp [loadCells, loadCellsFrom])]
   rfl
 ·obtain ⟨b, o, rfl, hlt, hc⟩ := h hpos
  have := run_convert_bytes_arg (P := P) w src E h1 h2 b o n cap (l.map fun x => (x.toNat : Int)) (by simp [hln]) (fun i hi => by
   rw [hc i (byteV l[i]) (by simp [hln, hi])]
   simp [byteV, hln, hi]) dst h3
  rw [this]
  congr 3
  simp only [strOfNums, List.map_map]
  congr 2
  conv => rhs; rw [← List.map_id l]
  refine List.map_congr_left fun x _ => ?_
  simp
end
end Ops
open Go.RowKit
namespace Lf
inductive V where
 | k (v : Value)
 | a (cs : List V)
 | t (vs : List V)
 | s (o : Option Nat) (es : List V)
 | nil
 | p (b off : Nat)
 | sb (b off n cap : Nat)
 | q (cs : List V)
 | f (fn : Fn) (first caps : List V)
 | i (T : TypeId) (v : V)
 | w (b gen sz off n : Nat)
 | pw (b gen off : Nat)
 | mp (b : Nat)
 | y (b : Nat)
 deriving Inhabited
def V.cells : V → List V
 | .a cs => cs
 | v => [v]
def V.one : V → Bool
 | .a _ | .t _ => false
 | .k v => v.oneCell'
 | _ => true
structure Gh where
 S : Nat → Nat → Prop
 bx : Nat → Option (Nat × Nat)
 rw : Nat → Option (Option Nat × Nat × Nat)
def Gh.bare (g : Gh) : Gh := ⟨g.S, fun _ => none, fun _ => none⟩
def TipV (a : Option Nat) (l c : Nat) (x : Value) : Prop := x = .slice (a.map fun b => ⟨b, 0, none⟩) l c ∨ (a = none ∧ l = 0 ∧ c = 0 ∧ ∃ ad, x = .slice ad 0 0)
def Tag (g : Gh) (o : Option Nat) (n : Nat) (x : Value) : Prop :=
 ∀ r, o = some r → ∃ a l c, g.rw r = some (a, l, c) ∧ n ≤ l ∧ (n = l → TipV a l c x)
structure WSl (a : Option Nat) (sz off n c : Nat) (ad : Option Addr) (cap : Nat) : Prop where
 le : off + n ≤ c
 cap : cap = c - off
 at_ : off < c ∨ off = 0 → ad = a.map fun b => ⟨b, off * sz, none⟩
inductive Rep (w : World) : Gh → V → Value → Prop
  | k {g} (v : Value) : Rep w g (.k v) v
  | a {g} {cs : List V} {vs : Array Value} (hl : cs.length = vs.size) (h1 : ∀ u ∈ cs, u.one = true) (hc : ∀ (j : Nat) u x, cs[j]? = some u → vs[j]? = some x → Rep w g u x) : Rep w g (.a cs) (.agg vs)
  | t {g} {cs : List V} {vs : Array Value} (hl : cs.length = vs.size) (hc : ∀ (j : Nat) u x, cs[j]? = some u → vs[j]? = some x → Rep w g u x) : Rep w g (.t cs) (.tuple vs)
  | nil {g} : Rep w g .nil (.slice none 0 0)
  | s0 {g} {o : Option Nat} (ht : Tag g o 0 (.slice none 0 0)) : Rep w g (.s o []) (.slice none 0 0)
  | se {g} {o : Option Nat} (a : Addr) (ht : Tag g o 0 (.slice (some a) 0 0)) : Rep w g (.s o []) (.slice (some a) 0 0)
  | s {g} {o : Option Nat} {es : List V} {b off cap size : Nat} (xs : Nat → Value) (hn : es.length ≤ cap) (hm : cap ≤ maxLen) (hp : 0 < size) (hs : ∀ e ∈ es, e.cells.length = size ∧ ∀ u ∈ e.cells, u.one = true)
      (hx : ∀ (j : Nat) u, (es.flatMap V.cells)[j]? = some u → b < w.heap.size ∧ g.S b (off + j) ∧ w.cell? ⟨b, off + j, none⟩ = some (xs j))
      (hc : ∀ (j : Nat) u, (es.flatMap V.cells)[j]? = some u → Rep w g.bare u (xs j))
      (ht : Tag g o es.length (.slice (some ⟨b, off, none⟩) es.length cap)) : Rep w g (.s o es) (.slice (some ⟨b, off, none⟩) es.length cap)
  | p {g} {i off b o : Nat} (h : g.bx i = some (b, o)) : Rep w g (.p i off) (.pointer (some ⟨b, o + off, none⟩))
  | sb {g} {i off n cap b o : Nat} (h : g.bx i = some (b, o)) : Rep w g (.sb i off n cap) (.slice (some ⟨b, o + off, none⟩) n cap)
  | q {g} {cs : List V} {b off : Nat} (xs : Nat → Value) (h1 : ∀ u ∈ cs, u.one = true) (hx : ∀ (j : Nat) u, cs[j]? = some u → b < w.heap.size ∧ g.S b (off + j) ∧ w.cell? ⟨b, off + j, none⟩ = some (xs j))
      (hc : ∀ (j : Nat) u, cs[j]? = some u → Rep w g.bare u (xs j)) : Rep w g (.q cs) (.pointer (some ⟨b, off, none⟩))
  | f {g} {fn : Fn} {fi ca : List V} {vs us : Array Value} (h1 : fi.length = vs.size) (h2 : ca.length = us.size) (hf : ∀ (j : Nat) u x, fi[j]? = some u → vs[j]? = some x → Rep w g u x) (hc : ∀ (j : Nat) u x, ca[j]? = some u → us[j]? = some x → Rep w g u x) : Rep w g (.f fn fi ca) (.func fn vs us)
  | i {g} {T : TypeId} {v : V} {x : Value} (h : Rep w g v x) : Rep w g (.i T v) (.iface T x)
  | w {g} {i gen sz off n : Nat} {ad : Option Addr} {cap : Nat} (h : ∃ a l c, g.rw i = some (a, l, c) ∧ gen ≤ l ∧ (gen = l → WSl a sz off n c ad cap)) : Rep w g (.w i gen sz off n) (.slice ad n cap)
  | pw {g} {i gen off : Nat} {b : Option Nat} {o : Nat} (h : ∃ a l c, g.rw i = some (a, l, c) ∧ gen ≤ l ∧ (gen = l → b = a ∧ o = off)) : Rep w g (.pw i gen off) (.pointer (b.map fun b => ⟨b, o, none⟩))
  | mp {g} {i b o : Nat} (h : g.bx i = some (b, o)) : Rep w g (.mp i) (.map (some b))
  | y {g} {i b o : Nat} (h : g.bx i = some (b, o)) : Rep w g (.y i) (.func (.yield b) #[] #[])
structure Ev (g : Gh) (w : World) (g' : Gh) (w' : World) : Prop where
 size : w.heap.size ≤ w'.heap.size
 st : ∀ b o, b < w.heap.size → g.S b o → g'.S b o ∧ w'.cell? ⟨b, o, none⟩ = w.cell? ⟨b, o, none⟩
 bx : ∀ i z, g.bx i = some z → g'.bx i = some z
 rw : ∀ r a l c, g.rw r = some (a, l, c) → ∃ a' l' c', g'.rw r = some (a', l', c') ∧ l ≤ l' ∧ (l = l' → a = a' ∧ c = c')
theorem Ev.refl (g : Gh) (w : World) : Ev g w g w := ⟨Nat.le_refl _, fun _ _ _ h => ⟨h, rfl⟩, fun _ _ h => h, fun _ a l c h => ⟨a, l, c, h, Nat.le_refl _, fun _ => ⟨rfl, rfl⟩⟩⟩
theorem Ev.trans {g g' g'' : Gh} {w w' w'' : World} (h : Ev g w g' w') (k : Ev g' w' g'' w'') : Ev g w g'' w'' := by
 refine ⟨Nat.le_trans h.size k.size, fun b o hb hs => ?_, fun i z hz => k.bx i z (h.bx i z hz), fun r a l c hr => ?_⟩
 ·obtain ⟨s1, c1⟩ := h.st b o hb hs
  obtain ⟨s2, c2⟩ := k.st b o (Nat.lt_of_lt_of_le hb h.size) s1
  exact ⟨s2, c2.trans c1⟩
 ·obtain ⟨a1, l1, c1, h1, e1, f1⟩ := h.rw r a l c hr
  obtain ⟨a2, l2, c2, h2, e2, f2⟩ := k.rw r a1 l1 c1 h1
  refine ⟨a2, l2, c2, h2, Nat.le_trans e1 e2, fun he => ?_⟩
  obtain ⟨p1, p2⟩ := f1 (by omega)
  obtain ⟨q1, q2⟩ := f2 (by omega)
  exact ⟨p1.trans q1, p2.trans q2⟩
theorem Ev.bare {g g' : Gh} {w w' : World} (h : Ev g w g' w') : Ev g.bare w g'.bare w' := ⟨h.size, h.st, fun _ _ h => (by cases h), fun _ _ _ _ h => (by cases h)⟩
theorem Tag.mono {g g' : Gh} {w w' : World} {o : Option Nat} {n : Nat} {x : Value} (h : Tag g o n x) (he : Ev g w g' w') : Tag g' o n x := by
 intro r hr
 obtain ⟨a, l, c, h1, h2, h3⟩ := h r hr
 obtain ⟨a', l', c', k1, k2, k3⟩ := he.rw r a l c h1
 refine ⟨a', l', c', k1, by omega, fun e => ?_⟩
 obtain ⟨rfl, rfl⟩ := k3 (by omega)
 obtain rfl : l = l' := by omega
 exact h3 e
theorem Rep.mono {g g' : Gh} {w w' : World} {v : V} {x : Value} (h : Rep w g v x) (he : Ev g w g' w') : Rep w' g' v x := by
 induction h generalizing g' with
 | k v => exact .k v
 | a hl h1 _ ih => exact .a hl h1 fun j u x h h' => ih j u x h h' he
 | t hl _ ih => exact .t hl fun j u x h h' => ih j u x h h' he
 | nil => exact .nil
 | s0 ht => exact .s0 (ht.mono he)
 | se a ht => exact .se a (ht.mono he)
 | s xs hn hm hp hs hx _ ht ih =>
  exact .s xs hn hm hp hs (fun j u hj => by
   obtain ⟨h1, h2, h3⟩ := hx j u hj
   obtain ⟨s1, c1⟩ := he.st _ _ h1 h2
   exact ⟨Nat.lt_of_lt_of_le h1 he.size, s1, c1.trans h3⟩) (fun j u hj => ih j u hj he.bare) (ht.mono he)
 | p h => exact .p (he.bx _ _ h)
 | sb h => exact .sb (he.bx _ _ h)
 | q xs h1 hx _ ih =>
  exact .q xs h1 (fun j u hj => by
   obtain ⟨h1, h2, h3⟩ := hx j u hj
   obtain ⟨s1, c1⟩ := he.st _ _ h1 h2
   exact ⟨Nat.lt_of_lt_of_le h1 he.size, s1, c1.trans h3⟩) (fun j u hj => ih j u hj he.bare)
 | f h1 h2 _ _ ih1 ih2 => exact .f h1 h2 (fun j u x h h' => ih1 j u x h h' he) (fun j u x h h' => ih2 j u x h h' he)
 | i _ ih => exact .i (ih he)
 | w h =>
  obtain ⟨a, l, c, h1, h2, h3⟩ := h
  obtain ⟨a', l', c', k1, k2, k3⟩ := he.rw _ _ _ _ h1
  refine .w ⟨a', l', c', k1, by omega, fun e => ?_⟩
  obtain ⟨rfl, rfl⟩ := k3 (by omega)
  exact h3 (by omega)
 | pw h =>
  obtain ⟨a, l, c, h1, h2, h3⟩ := h
  obtain ⟨a', l', c', k1, k2, k3⟩ := he.rw _ _ _ _ h1
  refine .pw ⟨a', l', c', k1, by omega, fun e => ?_⟩
  obtain ⟨rfl, rfl⟩ := k3 (by omega)
  exact h3 (by omega)
 | mp h => exact .mp (he.bx _ _ h)
 | y h => exact .y (he.bx _ _ h)
theorem Rep.oneCell {g : Gh} {w : World} {v : V} {x : Value} (h : Rep w g v x) (h1 : v.one = true) : x.oneCell' = true := by
 cases h <;> first | exact h1 | rfl | cases h1
def V.bare : V → Option V
 | .k v => some (.k v)
 | .a cs => (go cs).map .a
 | .t cs => (go cs).map .t
 | .s _ es => some (.s none es)
 | .nil => some .nil
 | .q cs => some (.q cs)
 | .f fn [] [] => some (.f fn [] [])
 | .i T v => v.bare.map (.i T)
 | _ => none
where go : List V → Option (List V)
 | [] => some []
 | v :: r => match v.bare, go r with
  | some v', some r' => some (v' :: r')
  | _, _ => none
theorem bare_one {v v' : V} (h : v.bare = some v') : v'.one = v.one := by
 cases v <;> try simp only [V.bare] at h
 case k => cases h; rfl
 case a cs => obtain ⟨_, _, rfl⟩ := Option.map_eq_some_iff.1 h; rfl
 case t cs => obtain ⟨_, _, rfl⟩ := Option.map_eq_some_iff.1 h; rfl
 case s => cases h; rfl
 case nil => cases h; rfl
 case p => cases h
 case sb => cases h
 case q => cases h; rfl
 case f fn fi ca => cases fi <;> cases ca <;> simp [V.bare] at h; subst h; rfl
 case i => obtain ⟨_, _, rfl⟩ := Option.map_eq_some_iff.1 h; rfl
 case w => cases h
 case pw => cases h
 case mp => cases h
 case y => cases h
theorem bare_go {cs cs' : List V} (h : V.bare.go cs = some cs') : cs.length = cs'.length ∧ ∀ (j : Nat) (u' : V), cs'[j]? = some u' → ∃ u : V, cs[j]? = some u ∧ u.bare = some u' := by
 induction cs generalizing cs' with
 | nil => simp [V.bare.go] at h; subst h; simp
 | cons v r ih =>
  simp only [V.bare.go] at h
  split at h
  ·rename_i v' r' hv hr
   cases h
   obtain ⟨h1, h2⟩ := ih hr
   refine ⟨by simp [h1], fun j u' hj => ?_⟩
   cases j with
   | zero => simp at hj; subst hj; exact ⟨v, by simp, hv⟩
   | succ j => simp at hj; obtain ⟨u, hu, hb⟩ := h2 j u' hj; exact ⟨u, by simpa using hu, hb⟩
  ·cases h
theorem Rep.to_bare {g : Gh} {w : World} {v : V} {x : Value} (h : Rep w g v x) : ∀ {v' : V}, v.bare = some v' → Rep w g.bare v' x := by
 induction h with
 | k v => intro v' hb; simp only [V.bare] at hb; cases hb; exact .k v
 | a hl h1 hc ih =>
  intro v' hb
  simp only [V.bare] at hb
  obtain ⟨cs', hg, rfl⟩ := Option.map_eq_some_iff.1 hb
  obtain ⟨e1, e2⟩ := bare_go hg
  refine .a (e1 ▸ hl) (fun u hu => ?_) (fun j u x hj hx => ?_)
  ·obtain ⟨j, hj⟩ := List.getElem?_of_mem hu
   obtain ⟨u0, hu0, hb0⟩ := e2 j u hj
   rw [bare_one hb0]; exact h1 u0 (List.mem_of_getElem? hu0)
  ·obtain ⟨u0, hu0, hb0⟩ := e2 j u hj
   exact ih j u0 x hu0 hx hb0
 | t hl hc ih =>
  intro v' hb
  simp only [V.bare] at hb
  obtain ⟨cs', hg, rfl⟩ := Option.map_eq_some_iff.1 hb
  obtain ⟨e1, e2⟩ := bare_go hg
  refine .t (e1 ▸ hl) (fun j u x hj hx => ?_)
  obtain ⟨u0, hu0, hb0⟩ := e2 j u hj
  exact ih j u0 x hu0 hx hb0
 | nil => intro v' hb; simp only [V.bare] at hb; cases hb; exact .nil
 | s0 ht => intro v' hb; simp only [V.bare] at hb; cases hb; exact .s0 (fun _ h => by cases h)
 | se a ht => intro v' hb; simp only [V.bare] at hb; cases hb; exact .se a (fun _ h => by cases h)
 | s xs hn hm hp hs hx hc ht ih => intro v' hb; simp only [V.bare] at hb; cases hb; exact .s xs hn hm hp hs hx hc (fun _ h => by cases h)
 | p h => intro v' hb; simp [V.bare] at hb
 | sb h => intro v' hb; simp [V.bare] at hb
 | q xs h1 hx hc ih => intro v' hb; simp only [V.bare] at hb; cases hb; exact .q xs h1 hx hc
 | @f g fn fi ca vs us h1 h2 hf hc ih1 ih2 =>
  intro v' hb
  cases fi <;> cases ca <;> simp [V.bare] at hb
  subst hb
  exact .f h1 h2 (fun j u x h => by simp at h) (fun j u x h => by simp at h)
 | i h ih =>
  intro v' hb
  simp only [V.bare] at hb
  obtain ⟨v1, h1, rfl⟩ := Option.map_eq_some_iff.1 hb
  exact .i (ih h1)
 | w h => intro v' hb; simp [V.bare] at hb
 | pw h => intro v' hb; simp [V.bare] at hb
 | mp h => intro v' hb; simp [V.bare] at hb
 | y h => intro v' hb; simp [V.bare] at hb
theorem Rep.of_bare {g : Gh} {w : World} {v : V} {x : Value} (h : Rep w g.bare v x) : Rep w g v x :=
 h.mono ⟨Nat.le_refl _, fun _ _ _ hs => ⟨hs, rfl⟩, fun _ _ h => (by cases h), fun _ _ _ _ h => (by cases h)⟩
inductive M where
 | b (cs : List V)
 | r (E sz n : Nat)
 | w (E sz gen : Nat) (es : List V)
 | m (es : List (Value × V))
 | d (es : List (Value × V)) (st : Option (List Nat × Nat))
 | it (m c : Nat) (seen : List Nat)
 | o (ob : Obj)
 | x
 deriving Inhabited
abbrev Env := List (Nat × V)
abbrev Mem := List (Nat × M)
def aget {α : Type} : List (Nat × α) → Nat → Option α
 | [], _ => none
 | (n, v) :: r, t => cond (Nat.beq n t) (some v) (aget r t)
theorem aget_self {α : Type} (n : Nat) (v : α) (r : List (Nat × α)) : aget ((n, v) :: r) n = some v := by simp [aget]
theorem aget_ne {α : Type} {n t : Nat} (h : n ≠ t) (v : α) (r : List (Nat × α)) : aget ((n, v) :: r) t = aget r t := by
 have : Nat.beq n t = false := by rw [← Bool.not_eq_true]; intro e; exact h (Nat.eq_of_beq_eq_true e)
 simp [aget, this]
theorem aget_cons {α : Type} (n t : Nat) (v : α) (r : List (Nat × α)) : aget ((n, v) :: r) t = if n = t then some v else aget r t := by
 split
 ·rename_i h; subst h; exact aget_self ..
 ·rename_i h; exact aget_ne h ..
structure Fr0 where
 w0 : World
 S0 : Nat → Nat → Prop
 B : Nat → Nat → Prop
 bx0 : Nat → Option (Nat × Nat)
 rw0 : Nat → Option (Option Nat × Nat × Nat)
 D : List Deferred
 ro : Option Nat := none
 lm : Bool := false
def Fr0.fz (F : Fr0) : Fence := { Fence.wide with round := F.ro }
def Fr0.Big (F : Fr0) : Prop := ∀ i, i < 1000 → F.bx0 i = none ∧ F.rw0 i = none
def Fr0.wr (F : Fr0) (b o : Nat) : Prop := F.w0.heap.size ≤ b ∨ F.B b o
def fp (g : Gh) (i : Nat) : M → Nat → Nat → Prop
 | .b cs, b, o => ∃ off, g.bx i = some (b, off) ∧ off ≤ o ∧ o < off + cs.length
 | .r .., b, _ => ∃ l c, g.rw i = some (some b, l, c)
 | .w .., b, _ => ∃ l c, g.rw i = some (some b, l, c)
 | .m _, b, _ => ∃ off, g.bx i = some (b, off)
 | .d .., b, _ => ∃ off, g.bx i = some (b, off)
 | .it .., b, _ => ∃ off, g.bx i = some (b, off)
 | .o _, b, _ => ∃ off, g.bx i = some (b, off)
 | .x, _, _ => False
def _root_.Go.World.oRow (w : World) (base : Nat) (e : TypeId) (size : Nat) (v : Value) (n : Nat) (xs : List Value) : Prop :=
  xs.length = n * size ∧
  ((v = .slice none 0 0 ∧ n = 0) ∨
   ∃ g cap cur fz, v = .slice (some ⟨g, 0, none⟩) n cap ∧ base ≤ g ∧ w.heap[g]? = some (.cells cur e fz) ∧ n ≤ cap ∧ cap ≤ maxLen ∧ cur.size = cap * size ∧ cur.toList.take (n * size) = xs ∧ (fz.2 = fz.1 ∨ (cur.size ≤ fz.1 ∧ size = 1)))
theorem oRow_nil (w : World) (base : Nat) (e : TypeId) (size : Nat) : w.oRow base e size (.slice none 0 0) 0 [] := ⟨by simp, .inl ⟨rfl, rfl⟩⟩
theorem oRow_lt {w : World} {base : Nat} {e : TypeId} {size : Nat} {v : Value} {n : Nat} {xs : List Value} (h : w.oRow base e size v n xs) : ∀ k, v.ownBlock = some k → base ≤ k ∧ k < w.heap.size := by
 intro k hk
 rcases h.2 with ⟨rfl, _⟩ | ⟨g, cap, cur, fz, rfl, hb, hg, _⟩
 ·simp [Value.ownBlock] at hk
 ·simp [Value.ownBlock] at hk
  subst hk
  exact ⟨hb, (Array.getElem?_eq_some_iff.1 hg).1⟩
theorem oRow_cells {w : World} {base : Nat} {e : TypeId} {size : Nat} {v : Value} {n : Nat} {xs : List Value} (h : w.oRow base e size v n xs) {g : Nat} (hg : v.ownBlock = some g) : ∀ j u, xs[j]? = some u → w.cell? ((⟨g, 0, none⟩ : Addr).add j) = some u := by
 intro j u hu
 rcases h.2 with ⟨rfl, _⟩ | ⟨g', cap, cur, fz, rfl, _, hgg, _, _, _, htake, _⟩
 ·simp [Value.ownBlock] at hg
 ·simp [Value.ownBlock] at hg
  subst hg
  rw [Addr.add_lit, Nat.zero_add, cell_of_row w g' j cur e fz hgg]
  rw [← htake, List.getElem?_take] at hu
  split at hu
  ·simpa using hu
  ·cases hu
theorem frozen_oRow {w : World} {g j : Nat} {cur : Array Value} {e : TypeId} {fz : Nat × Nat} (hg : w.heap[g]? = some (.cells cur e fz)) (hf : fz.2 = fz.1 ∨ cur.size ≤ fz.1) (hj : j < cur.size) : w.frozen? ⟨g, j, none⟩ = false := by
 simp [World.frozen?, hg]
 omega
structure BoxAt (g : Gh) (w : World) (b off : Nat) (cs : List V) : Prop where
 one : ∀ u ∈ cs, u.one = true
 at_ : ∀ (j : Nat) u, cs[j]? = some u → ¬ g.S b (off + j) ∧ w.frozen? ⟨b, off + j, none⟩ = false ∧ ∃ x, w.cell? ⟨b, off + j, none⟩ = some x ∧ Rep w g u x
structure RowAt (g : Gh) (w : World) (a : Option Nat) (E sz n c : Nat) : Prop where
 pos : 0 < sz
 own : ∃ xs, w.oRow 0 E sz (.slice (a.map fun b => ⟨b, 0, none⟩) n c) n xs
 free : ∀ b, a = some b → ∀ o, n * sz ≤ o → ¬ g.S b o
structure BufAt (g : Gh) (w : World) (a : Option Nat) (E sz : Nat) (es : List V) (c : Nat) : Prop where
 pos : 0 < sz
 cells : ∀ e ∈ es, e.cells.length = sz ∧ ∀ u ∈ e.cells, u.one = true
 own : ∃ xs, w.oRow 0 E sz (.slice (a.map fun b => ⟨b, 0, none⟩) es.length c) es.length xs ∧ ∀ (j : Nat) u x, (es.flatMap V.cells)[j]? = some u → xs[j]? = some x → Rep w g.bare u x
 free : ∀ b, a = some b → ∀ o, ¬ g.S b o
structure MapAt (g : Gh) (w : World) (b : Nat) (es : List (Value × V)) : Prop where
 own : ∃ (en : Array MapEntry), w.heap[b]? = some (.map en en.size) ∧ en.size = es.length ∧ (∀ (j : Nat) e, en[j]? = some e → e.born = j) ∧
  ∀ (j : Nat) k v e, es[j]? = some (k, v) → en[j]? = some e → e.key = k ∧ Rep w g.bare v e.val
 free : ∀ o, ¬ g.S b o
structure MapD (g : Gh) (w : World) (b : Nat) (es : List (Value × V)) (st : Option (List Nat × Nat)) : Prop where
 own : ∃ (en : Array MapEntry) (clk : Nat), w.heap[b]? = some (.map en clk) ∧ en.size = es.length ∧ (∀ (j : Nat) e, en[j]? = some e → e.born < clk) ∧ (en.toList.map (·.born)).Nodup ∧ (∀ bs c, st = some (bs, c) → en.toList.map (·.born) = bs ∧ clk = c) ∧
  ∀ (j : Nat) k v e, es[j]? = some (k, v) → en[j]? = some e → e.key = k ∧ Rep w g.bare v e.val
 free : ∀ o, ¬ g.S b o
inductive ObjAt (g : Gh) (w : World) (i : Nat) : M → Prop
 | b {cs : List V} {b off : Nat} (hg : g.bx i = some (b, off)) (hb : b < w.heap.size) (h : BoxAt g w b off cs) : ObjAt g w i (.b cs)
 | r {E sz n c : Nat} {a : Option Nat} (hg : g.rw i = some (a, n, c)) (h : RowAt g w a E sz n c) : ObjAt g w i (.r E sz n)
 | w {E sz gen c : Nat} {es : List V} {a : Option Nat} (hg : g.rw i = some (a, gen, c)) (h : BufAt g w a E sz es c) : ObjAt g w i (.w E sz gen es)
 | m {es : List (Value × V)} {b off : Nat} (hg : g.bx i = some (b, off)) (h : MapAt g w b es) : ObjAt g w i (.m es)
 | d {es : List (Value × V)} {st : Option (List Nat × Nat)} {b off : Nat} (hg : g.bx i = some (b, off)) (h : MapD g w b es st) : ObjAt g w i (.d es st)
 | it {m c b mb off : Nat} {seen : List Nat} (hg : g.bx i = some (b, 0)) (hm : g.bx m = some (mb, off)) (h : w.heap[b]? = some (.mapIter (some mb) c seen.toArray c)) (hS : ∀ o, ¬ g.S b o) : ObjAt g w i (.it m c seen)
 | o {ob : Obj} {b : Nat} (hg : g.bx i = some (b, 0)) (h : w.heap[b]? = some ob) (hS : ∀ o, ¬ g.S b o) : ObjAt g w i (.o ob)
 | x : ObjAt g w i .x
def Gtab : List (Nat × List Value) := [(3, [.int .u8 0, .int .u8 1, .int .u8 56, .int .u8 2, .int .u8 57, .int .u8 49, .int .u8 28, .int .u8 3, .int .u8 61, .int .u8 58, .int .u8 42, .int .u8 50, .int .u8 38, .int .u8 29, .int .u8 17, .int .u8 4, .int .u8 62, .int .u8 47, .int .u8 59, .int .u8 36, .int .u8 45, .int .u8 43, .int .u8 51, .int .u8 22, .int .u8 53, .int .u8 39, .int .u8 33, .int .u8 30, .int .u8 24, .int .u8 18, .int .u8 12, .int .u8 5, .int .u8 63, .int .u8 55, .int .u8 48, .int .u8 27, .int .u8 60, .int .u8 41, .int .u8 37, .int .u8 16, .int .u8 46, .int .u8 35, .int .u8 44, .int .u8 21, .int .u8 52, .int .u8 32, .int .u8 23, .int .u8 11, .int .u8 54, .int .u8 26, .int .u8 40, .int .u8 15, .int .u8 34, .int .u8 20, .int .u8 31, .int .u8 10, .int .u8 25, .int .u8 14, .int .u8 19, .int .u8 9, .int .u8 13, .int .u8 8, .int .u8 7, .int .u8 6])]
def TabAt (w : World) (S : Nat → Nat → Prop) : Prop := ∀ n xs, (n, xs) ∈ Gtab → ∀ (j : Nat) x, xs[j]? = some x → n < w.heap.size ∧ S n j ∧ w.cell? ⟨n, j, none⟩ = some x
theorem TabAt.sub {w : World} {S S' : Nat → Nat → Prop} (h : TabAt w S) (hs : ∀ b o, S b o → S' b o) : TabAt w S' := fun n xs hn j x hx => by
 obtain ⟨a, b, c⟩ := h n xs hn j x hx
 exact ⟨a, hs _ _ b, c⟩
structure LocOk (F : Fr0) (g : Gh) : Prop where
 tab : TabAt F.w0 F.S0
 bx : ∀ i z, F.bx0 i = some z → g.bx i = some z
 rw : ∀ i a l c, F.rw0 i = some (a, l, c) → ∃ a' l' c', g.rw i = some (a', l', c') ∧ l ≤ l' ∧ (l = l' → a = a' ∧ c = c')
theorem LocOk.ev {F : Fr0} {g g' : Gh} {w w' : World} (h : LocOk F g) (he : Ev g w g' w') : LocOk F g' := by
 refine ⟨h.tab, fun i z hz => he.bx i z (h.bx i z hz), fun i a l c hr => ?_⟩
 obtain ⟨a1, l1, c1, h1, h2, h3⟩ := h.rw i a l c hr
 obtain ⟨a2, l2, c2, k1, k2, k3⟩ := he.rw i a1 l1 c1 h1
 refine ⟨a2, l2, c2, k1, by omega, fun e => ?_⟩
 obtain ⟨rfl, rfl⟩ := h3 (by omega)
 exact k3 (by omega)
structure RelM (F : Fr0) (g : Gh) (mem : Mem) (w : World) : Prop where
 ob : ∀ i m, aget mem i = some m → ObjAt g w i m
 wr : ∀ i m b o, aget mem i = some m → fp g i m b o → F.wr b o
 dj : ∀ i j m m' b o, i ≠ j → aget mem i = some m → aget mem j = some m' → fp g i m b o → fp g j m' b o → False
 nbx : ∀ i, aget mem i = none → g.bx i = none
 nrw : ∀ i, aget mem i = none → g.rw i = none
 fut : ∀ b o, w.heap.size ≤ b → g.S b o
 loc : LocOk F g
structure Kept (F : Fr0) (g : Gh) (w : World) : Prop where
 os : w.os = F.w0.os
 tape : w.tape = F.w0.tape
 output : w.output = F.w0.output
 size : F.w0.heap.size ≤ w.heap.size
 blk : ∀ b, b < F.w0.heap.size → (∀ o, ¬ F.B b o) → w.heap[b]? = F.w0.heap[b]?
 cell : ∀ b o, b < F.w0.heap.size → ¬ F.B b o → w.cell? ⟨b, o, none⟩ = F.w0.cell? ⟨b, o, none⟩ ∧ w.frozen? ⟨b, o, none⟩ = F.w0.frozen? ⟨b, o, none⟩
 S1 : ∀ b o, b < F.w0.heap.size → ¬ F.B b o → g.S b o → F.S0 b o
 S2 : ∀ b o, b < F.w0.heap.size → F.S0 b o → g.S b o
 cellS : ∀ b o, b < F.w0.heap.size → F.S0 b o → w.cell? ⟨b, o, none⟩ = F.w0.cell? ⟨b, o, none⟩
theorem TabAt.kept {F : Fr0} {g : Gh} {w : World} (h : TabAt F.w0 F.S0) (hk : Kept F g w) : TabAt w g.S := fun n xs hn j x hx => by
 obtain ⟨a, b, c⟩ := h n xs hn j x hx
 exact ⟨Nat.lt_of_lt_of_le a hk.size, hk.S2 n j a b, (hk.cellS n j a b).trans c⟩
structure Rel (F : Fr0) (N : Nat) (g : Gh) (env : Env) (mem : Mem) (a : Act) (w : World) : Prop where
 env : ∀ t v, aget env t = some v → ∃ x, a.tmps[t]? = some x ∧ Rep w g v x
 mem : RelM F g mem w
 kept : Kept F g w
 defers : a.defers = F.D
 size : a.tmps.size = N
 big : F.Big
end Lf
open Go.RowKit
namespace Lf
inductive Z where
 | int (k : IntKind) | bool | str | sl | ptr | map | fn | ifc
 deriving DecidableEq
def Z.v : Z → V
 | .int k => .k (.int k 0) | .bool => .k (.bool false) | .str => .k (.string .empty) | .sl => .nil | .ptr => .k (.pointer none) | .map => .k (.map none) | .fn => .k .nilFunc | .ifc => .k .nilIface
def Z.is : Z → Value → Bool
 | .int k, .int k' n => k == k' && n == 0
 | .bool, .bool b => !b
 | .str, .string s => s.data.toList.isEmpty
 | .sl, .slice none 0 0 => true
 | .ptr, .pointer none => true
 | .map, .map none => true
 | .fn, .nilFunc => true
 | .ifc, .nilIface => true
 | _, _ => false
theorem Z.rep {w : World} {g : Gh} {z : Z} {x : Value} (h : z.is x = true) : Rep w g z.v x := by
 cases z <;> cases x <;> simp [Z.is] at h
 case int.int => obtain ⟨rfl, rfl⟩ := h; exact .k _
 case bool.bool => subst h; exact .k _
 case str.string s =>
  obtain ⟨d⟩ := s
  have : d = #[] := by simpa using h
  subst this
  exact .k _
 case sl.slice a n c =>
  cases a <;> cases n <;> cases c <;> simp at h
  exact .nil
 case ptr.pointer a =>
  cases a with
  | none => exact .k _
  | some _ => cases h
 case map.map a =>
  cases a with
  | none => exact .k _
  | some _ => cases h
 case fn.nilFunc => exact .k _
 case ifc.nilIface => exact .k _
theorem Z.one (z : Z) : z.v.one = true := by cases z <;> rfl
inductive TD where
 | int (k : IntKind) | bool | str | sl (e : Nat) | arr (n e : Nat) | st (fs : List (Nat × Nat)) | ptr (e : Nat) | map (k e : Nat) | fn | ifc | oth
def TD.agg : TD → Bool
 | .arr .. | .st .. => true
 | _ => false
structure TI where
 d : TD
 size : Nat
 bytes : Nat
 zero : List Z
abbrev Tab := List (Nat × TI)
def TD.chk : TD → TypeDesc → Bool
 | .int k, .int k' => k == k'
 | .bool, .bool => true
 | .str, .string => true
 | .sl e, .slice e' => e == e'
 | .arr n e, .array n' e' => n == n' && e == e'
 | .st fs, .struct gs => (gs.toList.map fun f => (f.offset, f.type)) == fs
 | .ptr e, .pointer e' => e == e'
 | .map k e, .map k' e' => k == k' && e == e'
 | .fn, .func .. => true
 | .ifc, .interface _ => true
 | _, _ => false
def zchk : List Z → List Value → Bool
 | [], [] => true
 | z :: r, x :: s => z.is x && zchk r s
 | _, _ => false
def TI.chk (P : Program) (T : Nat) (ti : TI) : Bool :=
  (match P.info? T with
   | some i => i.size == ti.size && i.bytes == ti.bytes && ti.zero.length == ti.size && (match i.zero with
     | some z => zchk ti.zero z.cells.toList && (match z with | .agg _ => ti.d.agg | _ => !ti.d.agg)
     | none => false)
   | none => false) &&
  (match P.underlying T with | some d => ti.d.chk d | none => false)
structure TOk (P : Program) where
 tab : Tab
 ok : (tab.all fun x => x.2.chk P x.1) = true
theorem zchk_spec : ∀ {zs : List Z} {xs : List Value}, zchk zs xs = true → zs.length = xs.length ∧ ∀ (j : Nat) z, zs[j]? = some z → ∃ x, xs[j]? = some x ∧ z.is x = true
 | [], [], _ => ⟨rfl, by simp⟩
 | z :: r, x :: s, h => by
  simp only [zchk, Bool.and_eq_true] at h
  obtain ⟨h1, h2⟩ := zchk_spec h.2
  refine ⟨by simp [h1], fun j z' hj => ?_⟩
  cases j with
  | zero => simp at hj; subst hj; exact ⟨x, by simp, h.1⟩
  | succ j => simp at hj; simpa using h2 j z' hj
 | [], _ :: _, h => by simp [zchk] at h
 | _ :: _, [], h => by simp [zchk] at h
structure TIok (P : Program) (T : Nat) (ti : TI) : Prop where
 info : ∃ i, P.info? T = some i ∧ i.size = ti.size ∧ i.bytes = ti.bytes ∧ ∃ z, i.zero = some z ∧ ti.zero.length = z.cells.size ∧ z.cells.size = ti.size ∧ (∀ (j : Nat) zz, ti.zero[j]? = some zz → ∃ x, z.cells.toList[j]? = some x ∧ zz.is x = true) ∧
  (ti.d.agg = true → ∃ cs, z = .agg cs) ∧ (ti.d.agg = false → ∀ cs, z ≠ .agg cs)
 und : ∃ d, P.underlying T = some d ∧ ti.d.chk d = true
theorem aget_mem {α : Type} {l : List (Nat × α)} {t : Nat} {v : α} (h : aget l t = some v) : (t, v) ∈ l := by
 induction l with
 | nil => cases h
 | cons x r ih =>
  obtain ⟨n, u⟩ := x
  rw [aget_cons] at h
  split at h
  ·rename_i he; subst he; cases h; simp
  ·exact List.mem_cons_of_mem _ (ih h)
theorem TOk.get {P : Program} (X : TOk P) {T : Nat} {ti : TI} (h : aget X.tab T = some ti) : TIok P T ti := by
 have h1 := X.ok
 rw [List.all_eq_true] at h1
 have h2 := h1 _ (aget_mem h)
 simp only [TI.chk, Bool.and_eq_true] at h2
 obtain ⟨h3, h4⟩ := h2
 constructor
 ·cases hi : P.info? T with
  | none => simp [hi] at h3
  | some i =>
   simp only [hi, Bool.and_eq_true, beq_iff_eq] at h3
   obtain ⟨⟨⟨e1, e2⟩, e3⟩, h3⟩ := h3
   cases hz : i.zero with
   | none => simp [hz] at h3
   | some z =>
    simp only [hz, Bool.and_eq_true] at h3
    obtain ⟨hz1, hz2⟩ := h3
    obtain ⟨l1, l2⟩ := zchk_spec hz1
    refine ⟨i, rfl, e1, e2, z, hz, by simpa using l1, by rw [← e3]; simpa using l1.symm, l2, fun ha => ?_, fun ha cs hc => ?_⟩
    ·cases z <;> simp_all
    ·subst hc; simp [ha] at hz2
 ·cases hu : P.underlying T with
  | none => simp [hu] at h4
  | some d => exact ⟨d, rfl, by simpa [hu] using h4⟩
section
variable {P : Program} {T : Nat} {ti : TI}
theorem TIok.size (h : TIok P T ti) : (P.info? T).map (·.size) = some ti.size := by
 obtain ⟨i, hi, hs, _⟩ := h.info
 rw [hi, ← hs]; rfl
theorem TIok.run_size (h : TIok P T ti) (w : World) : (sizeOf T).run P w = .ok ti.size w := by
 obtain ⟨i, hi, hs, _⟩ := h.info
 simp [sizeOf, typeInfo, hi, hs]
theorem TIok.run_agg (h : TIok P T ti) (w : World) : (isAgg T).run P w = .ok ti.d.agg w := by
 obtain ⟨d, hu, hc⟩ := h.und
 unfold isAgg
 rw [Sem.run_bind, run_underlying hu w]
 cases d <;> cases hd : ti.d <;> simp_all [TD.chk, TD.agg]
theorem TIok.sl {e : Nat} (h : TIok P T ti) (hd : ti.d = .sl e) : P.underlying T = some (.slice e) := by
 obtain ⟨d, hu, hc⟩ := h.und
 rw [hd] at hc
 cases d <;> simp [TD.chk] at hc
 subst hc; exact hu
theorem TIok.arr {n e : Nat} (h : TIok P T ti) (hd : ti.d = .arr n e) : P.underlying T = some (.array n e) := by
 obtain ⟨d, hu, hc⟩ := h.und
 rw [hd] at hc
 cases d <;> simp [TD.chk] at hc
 obtain ⟨rfl, rfl⟩ := hc; exact hu
theorem TIok.st {fs : List (Nat × Nat)} (h : TIok P T ti) (hd : ti.d = .st fs) : ∃ gs, P.underlying T = some (.struct gs) ∧ (gs.toList.map fun f => (f.offset, f.type)) = fs := by
 obtain ⟨d, hu, hc⟩ := h.und
 rw [hd] at hc
 cases d <;> simp [TD.chk] at hc
 exact ⟨_, hu, by simpa using hc⟩
theorem TIok.int {k : IntKind} (h : TIok P T ti) (hd : ti.d = .int k) : P.underlying T = some (.int k) := by
 obtain ⟨d, hu, hc⟩ := h.und
 rw [hd] at hc
 cases d <;> simp [TD.chk] at hc
 subst hc; exact hu
theorem TIok.bool (h : TIok P T ti) (hd : ti.d = .bool) : P.underlying T = some .bool := by
 obtain ⟨d, hu, hc⟩ := h.und
 rw [hd] at hc
 cases d <;> simp [TD.chk] at hc
 exact hu
theorem TIok.str (h : TIok P T ti) (hd : ti.d = .str) : P.underlying T = some .string := by
 obtain ⟨d, hu, hc⟩ := h.und
 rw [hd] at hc
 cases d <;> simp [TD.chk] at hc
 exact hu
end
def ofC1 : Value → V
 | .slice none 0 0 => .nil
 | v => .k v
def ofC : Value → V
 | .agg cs => cond (cs.toList.all Value.oneCell') (.a (cs.toList.map ofC1)) (.k (.agg cs))
 | v => ofC1 v
theorem rep_ofC1 (w : World) (g : Gh) (v : Value) : Rep w g (ofC1 v) v := by
 unfold ofC1
 split
 ·exact .nil
 ·exact .k _
theorem one_ofC1 {v : Value} (h : v.oneCell' = true) : (ofC1 v).one = true := by
 unfold ofC1
 split
 ·rfl
 ·exact h
theorem rep_ofC (w : World) (g : Gh) (v : Value) : Rep w g (ofC v) v := by
 unfold ofC
 split
 ·rename_i cs
  cases h : cs.toList.all Value.oneCell'
  ·exact .k _
  ·refine .a (by simp) (fun u hu => ?_) (fun j u x hj hx => ?_)
   ·obtain ⟨v, hv, rfl⟩ := List.mem_map.1 hu
    exact one_ofC1 (List.all_eq_true.1 h v hv)
   ·rw [List.getElem?_map] at hj
    have : cs.toList[j]? = some x := by simpa using hx
    rw [this] at hj
    simp at hj
    subst hj
    exact rep_ofC1 _ _ _
 ·exact rep_ofC1 _ _ _
def evo (env : Env) : Operand → Option V
 | .tmp t => aget env t
 | .const v => some (ofC v)
 | .func f => some (.f (.func f) [] [])
 | .global g => some (.k (.pointer (some ⟨g, 0, none⟩)))
theorem Rel.evo {F : Fr0} {N : Nat} {g : Gh} {env : Env} {mem : Mem} {a : Act} {w : World} (h : Rel F N g env mem a w) {x : Operand} {v : V} (hx : evo env x = some v) : Rep w g v (a.eval x) := by
 cases x with
 | tmp t =>
  obtain ⟨u, hu, hr⟩ := h.env t v hx
  simpa [Act.eval, hu] using hr
 | const c => cases hx; exact rep_ofC _ _ _
 | global g => cases hx; exact .k _
 | func f => cases hx; exact .f rfl rfl (fun j u x h => by simp at h) (fun j u x h => by simp at h)
abbrev Tch := List (Nat × Option M × Option M)
def tpre (t : Tch) (mem : Mem) : Prop := ∀ i m m', (i, m, m') ∈ t → aget mem i = m
def tset : Tch → Mem → Mem
 | [], mem => mem
 | (i, _, some m') :: r, mem => (i, m') :: tset r mem
 | (_, _, none) :: r, mem => tset r mem
theorem mem_one {α : Type} {x : α} : x ∈ [x] := List.mem_singleton.2 rfl
structure Does (P : Program) (o : Oper) (env : Env) (v : V) (t : Tch) : Prop where
 ex : ∀ (F : Fr0) (g : Gh) (a : Act) (w : World) (mem : Mem), (∀ x ∈ o.op.operands.toList, ∀ u, evo env x = some u → Rep w g u (a.eval x)) → RelM F g mem w → Kept F g w → tpre t mem → a.defers = F.D →
  ∀ (K : Act → World → Prop) (Q : Exit → Act → World → Prop), (∀ x g' w', Ev g w g' w' → RelM F g' (tset t mem) w' → Kept F g' w' → Rep w' g' v x → K (a.put o.dst x) w') → o.wp P a w K Q
section
variable {P : Program} {o : Oper} {env : Env} {v : V}
theorem Does.pure (h : ∀ (F : Fr0) (g : Gh) (a : Act) (w : World) (mem : Mem), (∀ x ∈ o.op.operands.toList, ∀ u, evo env x = some u → Rep w g u (a.eval x)) → RelM F g mem w →
  ∃ x, (execOp a.eval o).run P w = .ok (.value x) w ∧ Rep w g v x) : Does P o env v [] := by
 refine ⟨fun F g a w mem h1 h2 h3 _ _ K Q hK => ?_⟩
 obtain ⟨x, hx, hr⟩ := h F g a w mem h1 h2
 unfold Oper.wp
 rw [hx]
 exact hK x g w (Ev.refl g w) h2 h3 hr
theorem Does.read {i : Nat} {m : M} (h : ∀ (F : Fr0) (g : Gh) (a : Act) (w : World) (mem : Mem), (∀ x ∈ o.op.operands.toList, ∀ u, evo env x = some u → Rep w g u (a.eval x)) → RelM F g mem w → aget mem i = some m →
  ∃ x, (execOp a.eval o).run P w = .ok (.value x) w ∧ Rep w g v x) : Does P o env v [(i, some m, none)] := by
 refine ⟨fun F g a w mem h1 h2 h3 h4 _ K Q hK => ?_⟩
 obtain ⟨x, hx, hr⟩ := h F g a w mem h1 h2 (h4 _ _ _ mem_one)
 unfold Oper.wp
 rw [hx]
 exact hK x g w (Ev.refl g w) h2 h3 hr
theorem Does.move {x : Operand} (ho : o.op = .move x) (hx : evo env x = some v) : Does P o env v [] :=
 .pure fun F g a w mem hr _ => ⟨a.eval x, by simp [execOp, ho], hr x (by simp [ho, Op.operands]) v hx⟩
theorem Does.assign {x : Operand} (ho : o.op = .assign x) (hx : evo env x = some v) : Does P o env v [] :=
 .pure fun F g a w mem hr _ => ⟨a.eval x, by simp [execOp, ho], hr x (by simp [ho, Op.operands]) v hx⟩
theorem rep_k {w : World} {g : Gh} {u x : Value} (h : Rep w g (.k u) x) : x = u := by cases h; rfl
theorem Does.bin {b : BinOp} {T Y : Nat} {x y : Operand} {p q r : Value} (ho : o.op = .binOp b T x y Y) (hx : evo env x = some (.k p)) (hy : evo env y = some (.k q))
  (hr : ∀ w, (do eqGuard b T x y p q; binOp b T p q : Sem Value).run P w = .ok r w) : Does P o env (.k r) [] :=
 .pure fun F g a w mem hr' _ => by
  have e1 := rep_k (hr' x (by simp [ho, Op.operands]) _ hx)
  have e2 := rep_k (hr' y (by simp [ho, Op.operands]) _ hy)
  refine ⟨r, ?_, .k r⟩
  have := hr w
  simp only [execOp, ho, e1, e2, Sem.run_bind, this]
  rfl
theorem eqGuard_int (b : BinOp) (T : Nat) (x y : Operand) (k k' : IntKind) (m n : Int) (w : World) : (eqGuard b T x y (.int k m) (.int k' n)).run P w = .ok () w := by
 unfold eqGuard
 cases b <;> rfl
def arith (b : BinOp) (k : IntKind) (m n : Int) : Option Value :=
 match b with
 | .add => some (.int k (k.wrap (m + n)))
 | .sub => some (.int k (k.wrap (m - n)))
 | .mul => some (.int k (k.wrap (m * n)))
 | .eql => some (.bool (m == n))
 | .neq => some (.bool (m != n))
 | .lss => some (.bool (m < n))
 | .leq => some (.bool (m ≤ n))
 | .gtr => some (.bool (m > n))
 | .geq => some (.bool (m ≥ n))
 | .and => some (.int k (k.wrap (BitVec.ofInt k.bits m &&& BitVec.ofInt k.bits n).toNat))
 | .or => some (.int k (k.wrap (BitVec.ofInt k.bits m ||| BitVec.ofInt k.bits n).toNat))
 | .xor => some (.int k (k.wrap (BitVec.ofInt k.bits m ^^^ BitVec.ofInt k.bits n).toNat))
 | .andNot => some (.int k (k.wrap (BitVec.ofInt k.bits m &&& ~~~ BitVec.ofInt k.bits n).toNat))
 | _ => none
theorem Does.arith {b : BinOp} {T Y : Nat} {x y : Operand} {k : IntKind} {m n : Int} {r : Value} (ho : o.op = .binOp b T x y Y) (hx : evo env x = some (.k (.int k m))) (hy : evo env y = some (.k (.int k n)))
  (hr : arith b k m n = some r) : Does P o env (.k r) [] :=
 .bin ho hx hy fun w => by
  rw [Sem.run_bind, eqGuard_int]
  cases b <;> simp only [Lf.arith] at hr <;> cases hr <;> simp [binOp, Op.intArith, Op.intBits, Op.intCmp]
theorem Does.eql {T Y : Nat} {x y : Operand} {k : IntKind} {m n : Int} {r : Bool} (ho : o.op = .binOp .eql T x y Y) (hx : evo env x = some (.k (.int k m))) (hy : evo env y = some (.k (.int k n))) (hr : decide (m = n) = r) : Does P o env (.k (.bool r)) [] :=
 .arith ho hx hy (by rw [← hr]; simp [Lf.arith, BEq.beq])
theorem Does.neq {T Y : Nat} {x y : Operand} {k : IntKind} {m n : Int} {r : Bool} (ho : o.op = .binOp .neq T x y Y) (hx : evo env x = some (.k (.int k m))) (hy : evo env y = some (.k (.int k n))) (hr : decide (¬ m = n) = r) : Does P o env (.k (.bool r)) [] :=
 .arith ho hx hy (by rw [← hr]; simp [Lf.arith, bne, BEq.beq])
theorem Does.lss {T Y : Nat} {x y : Operand} {k : IntKind} {m n : Int} {r : Bool} (ho : o.op = .binOp .lss T x y Y) (hx : evo env x = some (.k (.int k m))) (hy : evo env y = some (.k (.int k n))) (hr : decide (m < n) = r) : Does P o env (.k (.bool r)) [] :=
 .arith ho hx hy (by rw [← hr]; simp [Lf.arith])
theorem Does.leq {T Y : Nat} {x y : Operand} {k : IntKind} {m n : Int} {r : Bool} (ho : o.op = .binOp .leq T x y Y) (hx : evo env x = some (.k (.int k m))) (hy : evo env y = some (.k (.int k n))) (hr : decide (m ≤ n) = r) : Does P o env (.k (.bool r)) [] :=
 .arith ho hx hy (by rw [← hr]; simp [Lf.arith])
theorem Does.gtr {T Y : Nat} {x y : Operand} {k : IntKind} {m n : Int} {r : Bool} (ho : o.op = .binOp .gtr T x y Y) (hx : evo env x = some (.k (.int k m))) (hy : evo env y = some (.k (.int k n))) (hr : decide (n < m) = r) : Does P o env (.k (.bool r)) [] :=
 .arith ho hx hy (by rw [← hr]; simp [Lf.arith])
theorem Does.geq {T Y : Nat} {x y : Operand} {k : IntKind} {m n : Int} {r : Bool} (ho : o.op = .binOp .geq T x y Y) (hx : evo env x = some (.k (.int k m))) (hy : evo env y = some (.k (.int k n))) (hr : decide (n ≤ m) = r) : Does P o env (.k (.bool r)) [] :=
 .arith ho hx hy (by rw [← hr]; simp [Lf.arith])
theorem Does.add {T Y : Nat} {x y : Operand} {k : IntKind} {m n r : Int} (ho : o.op = .binOp .add T x y Y) (hx : evo env x = some (.k (.int k m))) (hy : evo env y = some (.k (.int k n))) (hr : k.wrap (m + n) = r) : Does P o env (.k (.int k r)) [] :=
 .arith ho hx hy (by rw [← hr]; rfl)
theorem Does.sub {T Y : Nat} {x y : Operand} {k : IntKind} {m n r : Int} (ho : o.op = .binOp .sub T x y Y) (hx : evo env x = some (.k (.int k m))) (hy : evo env y = some (.k (.int k n))) (hr : k.wrap (m - n) = r) : Does P o env (.k (.int k r)) [] :=
 .arith ho hx hy (by rw [← hr]; rfl)
theorem Does.mul {T Y : Nat} {x y : Operand} {k : IntKind} {m n r : Int} (ho : o.op = .binOp .mul T x y Y) (hx : evo env x = some (.k (.int k m))) (hy : evo env y = some (.k (.int k n))) (hr : k.wrap (m * n) = r) : Does P o env (.k (.int k r)) [] :=
 .arith ho hx hy (by rw [← hr]; rfl)
theorem Does.quo {T Y : Nat} {x y : Operand} {k : IntKind} {m n r : Int} (ho : o.op = .binOp .quo T x y Y) (hx : evo env x = some (.k (.int k m))) (hy : evo env y = some (.k (.int k n))) (h0 : n ≠ 0) (hr : k.wrap (m.tdiv n) = r) : Does P o env (.k (.int k r)) [] :=
 .bin ho hx hy fun w => by
  rw [Sem.run_bind, eqGuard_int]
  simp [binOp, Op.intDiv, h0, hr]
theorem Does.rem {T Y : Nat} {x y : Operand} {k : IntKind} {m n r : Int} (ho : o.op = .binOp .rem T x y Y) (hx : evo env x = some (.k (.int k m))) (hy : evo env y = some (.k (.int k n))) (h0 : n ≠ 0) (hr : m.tmod n = r) : Does P o env (.k (.int k r)) [] :=
 .bin ho hx hy fun w => by
  rw [Sem.run_bind, eqGuard_int]
  simp [binOp, Op.intDiv, h0, hr]
theorem Does.shl {T Y : Nat} {x y : Operand} {k k' : IntKind} {m n r : Int} (ho : o.op = .binOp .shl T x y Y) (hx : evo env x = some (.k (.int k m))) (hy : evo env y = some (.k (.int k' n))) (h0 : 0 ≤ n) (hr : k.wrap (m * 2 ^ (min n.toNat k.bits)) = r) : Does P o env (.k (.int k r)) [] :=
 .bin ho hx hy fun w => by
  rw [Sem.run_bind, eqGuard_int]
  have : ¬ n < 0 := by omega
  simp [binOp, Op.shift, this, hr]
theorem Does.shr {T Y : Nat} {x y : Operand} {k k' : IntKind} {m n r : Int} (ho : o.op = .binOp .shr T x y Y) (hx : evo env x = some (.k (.int k m))) (hy : evo env y = some (.k (.int k' n))) (h0 : 0 ≤ n) (hr : m.fdiv (2 ^ (min n.toNat k.bits)) = r) : Does P o env (.k (.int k r)) [] :=
 .bin ho hx hy fun w => by
  rw [Sem.run_bind, eqGuard_int]
  have : ¬ n < 0 := by omega
  simp [binOp, Op.shift, this, hr]
def arithS (b : BinOp) (m n : ByteArray) : Option Value :=
 match b with
 | .eql => some (.bool (m.toList == n.toList))
 | .neq => some (.bool !(m.toList == n.toList))
 | .lss => some (.bool (Op.bytesLess m.toList n.toList))
 | .leq => some (.bool (Op.bytesLess m.toList n.toList || m.toList == n.toList))
 | .gtr => some (.bool !(Op.bytesLess m.toList n.toList || m.toList == n.toList))
 | .geq => some (.bool !(Op.bytesLess m.toList n.toList))
 | _ => none
theorem Does.arithS {b : BinOp} {T Y : Nat} {x y : Operand} {m n : ByteArray} {r : Value} (ho : o.op = .binOp b T x y Y) (hx : evo env x = some (.k (.string m))) (hy : evo env y = some (.k (.string n)))
  (hr : arithS b m n = some r) : Does P o env (.k r) [] :=
 .bin ho hx hy fun w => by
  have : (eqGuard b T x y (.string m) (.string n)).run P w = .ok () w := by unfold eqGuard; cases b <;> rfl
  rw [Sem.run_bind, this]
  cases b <;> simp only [Lf.arithS] at hr <;> cases hr <;> simp [binOp, Op.stringOp]
theorem Does.cat {T Y : Nat} {x y : Operand} {m n : ByteArray} (ho : o.op = .binOp .add T x y Y) (hx : evo env x = some (.k (.string m))) (hy : evo env y = some (.k (.string n)))
  (hr : m.size + n.size ≤ 9223372036854775807) : Does P o env (.k (.string (m ++ n))) [] :=
 .bin ho hx hy fun w => by
  have : (eqGuard .add T x y (.string m) (.string n)).run P w = .ok () w := by unfold eqGuard; rfl
  rw [Sem.run_bind, this]
  have e : IntKind.i64.max = 9223372036854775807 := rfl
  have h2 : ¬ ((m.size + n.size : Nat) : Int) > IntKind.i64.max := by rw [e]; omega
  simp only [binOp, Op.stringOp, Result.andThen_ok]
  rw [if_neg h2]
  rfl
theorem run_eqB {T : Nat} (hu : P.underlying T = some .bool) (m n : Bool) (w : World) : (Op.equal T (.bool m) (.bool n)).run P w = .ok (m == n) w := by
 have e : Op.equal T (.bool m) (.bool n) = Op.equalIn (9999 + 1) T (.bool m) (.bool n) := rfl
 rw [e, Op.equalIn, Sem.run_bind, run_underlying hu w]
 rfl
theorem Does.eqB {T Y : Nat} {x y : Operand} {m n : Bool} (X : TOk P) {ti : TI} (ho : o.op = .binOp .eql T x y Y) (hx : evo env x = some (.k (.bool m))) (hy : evo env y = some (.k (.bool n)))
  (hT : aget X.tab T = some ti) (hd : ti.d = .bool) : Does P o env (.k (.bool (m == n))) [] :=
 .bin ho hx hy fun w => by
  have : (eqGuard .eql T x y (.bool m) (.bool n)).run P w = .ok () w := by unfold eqGuard; rfl
  rw [Sem.run_bind, this]
  simp only [Result.andThen_ok, binOp, Sem.run_bind, run_eqB ((X.get hT).bool hd)]
  rfl
theorem Does.neB {T Y : Nat} {x y : Operand} {m n : Bool} (X : TOk P) {ti : TI} (ho : o.op = .binOp .neq T x y Y) (hx : evo env x = some (.k (.bool m))) (hy : evo env y = some (.k (.bool n)))
  (hT : aget X.tab T = some ti) (hd : ti.d = .bool) : Does P o env (.k (.bool (m != n))) [] :=
 .bin ho hx hy fun w => by
  have : (eqGuard .neq T x y (.bool m) (.bool n)).run P w = .ok () w := by unfold eqGuard; rfl
  rw [Sem.run_bind, this]
  simp only [Result.andThen_ok, binOp, Sem.run_bind, run_eqB ((X.get hT).bool hd)]
  rfl
theorem Does.not {T : Nat} {x : Operand} {b : Bool} (ho : o.op = .unOp .not T x) (hx : evo env x = some (.k (.bool b))) : Does P o env (.k (.bool (!b))) [] :=
 .pure fun F g a w mem hr _ => by
  have e1 := rep_k (hr x (by simp [ho, Op.operands]) _ hx)
  exact ⟨_, by simp [execOp, ho, e1, Op.unary], .k _⟩
theorem Does.neg {T : Nat} {x : Operand} {k : IntKind} {m r : Int} (ho : o.op = .unOp .neg T x) (hx : evo env x = some (.k (.int k m))) (hr : k.wrap (0 - m) = r) : Does P o env (.k (.int k r)) [] :=
 .pure fun F g a w mem hr' _ => by
  have e1 := rep_k (hr' x (by simp [ho, Op.operands]) _ hx)
  exact ⟨.int k r, by simp only [execOp, ho, e1, Op.unary, Op.intArith, hr]; rfl, .k _⟩
theorem Does.inv {T : Nat} {x : Operand} {k : IntKind} {m r : Int} (ho : o.op = .unOp .xor T x) (hx : evo env x = some (.k (.int k m))) (hr : k.wrap (BitVec.ofInt k.bits (if k.signed then -1 else k.max) ^^^ BitVec.ofInt k.bits m).toNat = r) : Does P o env (.k (.int k r)) [] :=
 .pure fun F g a w mem hr' _ => by
  have e1 := rep_k (hr' x (by simp [ho, Op.operands]) _ hx)
  exact ⟨.int k r, by simp only [execOp, ho, e1, Op.unary, Op.intBits, hr]; rfl, .k _⟩
theorem Does.conv {S T : Nat} {x : Operand} {k k' : IntKind} {m r : Int} (X : TOk P) {si ti : TI} (ho : o.op = .convert S T x) (hx : evo env x = some (.k (.int k m))) (hS : aget X.tab S = some si) (hT : aget X.tab T = some ti) (hd : ti.d = .int k') (hr : k'.wrap m = r) : Does P o env (.k (.int k' r)) [] :=
 .pure fun F g a w mem hr' _ => by
  have e1 := rep_k (hr' x (by simp [ho, Op.operands]) _ hx)
  obtain ⟨d, hu, _⟩ := (X.get hS).und
  refine ⟨.int k' r, ?_, .k _⟩
  simp [execOp, ho, e1, convert, run_underlying hu, run_underlying ((X.get hT).int hd), Conv.intToInt, hr]
theorem Does.pick {c x y : Operand} {b : Bool} (ho : o.op = .pick c x y) (hc : evo env c = some (.k (.bool b))) (hx : (cond b (evo env x) (evo env y)) = some v) : Does P o env v [] :=
 .pure fun F g a w mem hr _ => by
  have e1 := rep_k (hr c (by simp [ho, Op.operands]) _ hc)
  cases b
  ·exact ⟨a.eval y, by simp [execOp, ho, e1, asBool], hr y (by simp [ho, Op.operands]) v hx⟩
  ·exact ⟨a.eval x, by simp [execOp, ho, e1, asBool], hr x (by simp [ho, Op.operands]) v hx⟩
theorem Does.extract {x : Operand} {ix : Nat} {vs : List V} (ho : o.op = .extract x ix) (hx : evo env x = some (.t vs)) (hv : vs[ix]? = some v) : Does P o env v [] :=
 .pure fun F g a w mem hr _ => by
  have h := hr x (by simp [ho, Op.operands]) _ hx
  generalize hy : a.eval x = y at h
  cases h with
  | t hl hc =>
   rename_i us
   have hlt : ix < us.size := by have := (List.getElem?_eq_some_iff.1 hv).1; omega
   exact ⟨us[ix], by simp [execOp, ho, hy, Instr.extract, hlt], hc ix v _ hv (by simp [hlt])⟩
theorem Does.mkIface {T : Nat} {x : Operand} (X : TOk P) {ti : TI} (ho : o.op = .makeInterface T x) (hx : evo env x = some v) (hT : aget X.tab T = some ti) (hd : (match ti.d with | .ifc => false | .oth => false | _ => true) = true) : Does P o env (.i T v) [] :=
 .pure fun F g a w mem hr _ => by
  obtain ⟨d, hu, hc⟩ := (X.get hT).und
  refine ⟨.iface T (a.eval x), ?_, .i (hr x (by simp [ho, Op.operands]) v hx)⟩
  simp only [execOp, ho, Instr.makeInterface, Sem.run_bind, run_underlying hu]
  cases d <;> cases hq : ti.d <;> simp_all [TD.chk]
end
end Lf
open Go.RowKit Rg
namespace Lf
section
variable {F : Fr0} {g g' : Gh} {w w' : World} {mem : Mem}
theorem RowAt.lt {a : Option Nat} {E sz n c b : Nat} (h : RowAt g w a E sz n c) (hb : a = some b) : b < w.heap.size := by
 obtain ⟨xs, ho⟩ := h.own
 subst hb
 exact (oRow_lt ho b (by simp [Value.ownBlock])).2
theorem BufAt.lt {a : Option Nat} {E sz c b : Nat} {es : List V} (h : BufAt g w a E sz es c) (hb : a = some b) : b < w.heap.size := by
 obtain ⟨xs, ho, _⟩ := h.own
 subst hb
 exact (oRow_lt ho b (by simp [Value.ownBlock])).2
theorem heap_lt {b : Nat} {ob : Obj} (h : w.heap[b]? = some ob) : b < w.heap.size := (Array.getElem?_eq_some_iff.1 h).1
theorem ObjAt.lt {i b o : Nat} {m : M} (h : ObjAt g w i m) (hf : fp g i m b o) : b < w.heap.size := by
 cases h with
 | b hg hb h => obtain ⟨off, h1, _⟩ := hf; rw [hg] at h1; cases h1; exact hb
 | r hg h => obtain ⟨l, c, h1⟩ := hf; rw [hg] at h1; cases h1; exact h.lt rfl
 | w hg h => obtain ⟨l, c, h1⟩ := hf; rw [hg] at h1; cases h1; exact h.lt rfl
 | m hg h => obtain ⟨off, h1⟩ := hf; rw [hg] at h1; cases h1; obtain ⟨_, h2, _⟩ := h.own; exact heap_lt h2
 | d hg h => obtain ⟨off, h1⟩ := hf; rw [hg] at h1; cases h1; obtain ⟨_, _, h2, _⟩ := h.own; exact heap_lt h2
 | it hg _ h => obtain ⟨off, h1⟩ := hf; rw [hg] at h1; cases h1; exact heap_lt h
 | o hg h => obtain ⟨off, h1⟩ := hf; rw [hg] at h1; cases h1; exact heap_lt h
 | x => exact hf.elim
theorem own_heap {base E sz n : Nat} {v : Value} {xs : List Value} (ho : w.oRow base E sz v n xs) (hh : ∀ b, v.ownBlock = some b → w'.heap[b]? = w.heap[b]?) : w'.oRow base E sz v n xs := by
 refine ⟨ho.1, ?_⟩
 rcases ho.2 with hn | ⟨q, cap, cur, fz, hv, hb0, hq, r⟩
 ·exact .inl hn
 ·refine .inr ⟨q, cap, cur, fz, hv, hb0, ?_, r⟩
  rw [hh q (by rw [hv]; rfl)]; exact hq
theorem own_block {a : Option Nat} {n c b : Nat} (h : Value.ownBlock (.slice (a.map fun b => ⟨b, 0, none⟩) n c) = some b) : a = some b := by
 cases a with
 | none => simp [Value.ownBlock] at h
 | some b' => simp [Value.ownBlock] at h; rw [h]
theorem ObjAt.mono {i : Nat} {m : M} (h : ObjAt g w i m) (he : Ev g w g' w') (hb : g'.bx i = g.bx i) (hr : g'.rw i = g.rw i)
  (hc : ∀ b o, fp g i m b o → w'.cell? ⟨b, o, none⟩ = w.cell? ⟨b, o, none⟩ ∧ w'.frozen? ⟨b, o, none⟩ = w.frozen? ⟨b, o, none⟩ ∧ (g'.S b o → g.S b o))
  (hh : ∀ b, (∀ o, fp g i m b o) → w'.heap[b]? = w.heap[b]?) : ObjAt g' w' i m := by
 cases h with
 | b hg hlt h =>
  refine .b (hb.trans hg) (Nat.lt_of_lt_of_le hlt he.size) ⟨h.one, fun j u hj => ?_⟩
  obtain ⟨h1, h3, x, h4, h5⟩ := h.at_ j u hj
  obtain ⟨c1, c2, c3⟩ := hc _ _ ⟨_, hg, Nat.le_add_right _ j, Nat.add_lt_add_left (List.getElem?_eq_some_iff.1 hj).1 _⟩
  exact ⟨fun hs => h1 (c3 hs), c2.trans h3, x, c1.trans h4, h5.mono he⟩
 | r hg h =>
  obtain ⟨xs, ho⟩ := h.own
  refine .r (hr.trans hg) ⟨h.pos, ⟨xs, own_heap ho fun b hbb => hh b fun o => ?_⟩, fun b hbb o hoo hs => h.free b hbb o hoo ((hc b o ?_).2.2 hs)⟩
  ·obtain rfl := own_block hbb; exact ⟨_, _, hg⟩
  ·subst hbb; exact ⟨_, _, hg⟩
 | w hg h =>
  obtain ⟨xs, ho, hx⟩ := h.own
  refine .w (hr.trans hg) ⟨h.pos, h.cells, ⟨xs, own_heap ho fun b hbb => hh b fun o => ?_, fun j u x hu hx' => (hx j u x hu hx').mono he.bare⟩, fun b hbb o hs => h.free b hbb o ((hc b o ?_).2.2 hs)⟩
  ·obtain rfl := own_block hbb; exact ⟨_, _, hg⟩
  ·subst hbb; exact ⟨_, _, hg⟩
 | m hg h =>
  obtain ⟨en, h1, h2, h3, h5⟩ := h.own
  refine .m (hb.trans hg) ⟨⟨en, (hh _ fun o => ⟨_, hg⟩).trans h1, h2, h3, fun j k v e hj hje => ?_⟩, fun o hs => h.free o ((hc _ o ⟨_, hg⟩).2.2 hs)⟩
  obtain ⟨k1, k2⟩ := h5 j k v e hj hje
  exact ⟨k1, k2.mono he.bare⟩
 | d hg h =>
  obtain ⟨en, clk, h1, h2, h3, h4, h6, h5⟩ := h.own
  refine .d (hb.trans hg) ⟨⟨en, clk, (hh _ fun o => ⟨_, hg⟩).trans h1, h2, h3, h4, h6, fun j k v e hj hje => ?_⟩, fun o hs => h.free o ((hc _ o ⟨_, hg⟩).2.2 hs)⟩
  obtain ⟨k1, k2⟩ := h5 j k v e hj hje
  exact ⟨k1, k2.mono he.bare⟩
 | it hg hm h hS => exact .it (hb.trans hg) (he.bx _ _ hm) ((hh _ fun o => ⟨_, hg⟩).trans h) fun o hs => hS o ((hc _ o ⟨_, hg⟩).2.2 hs)
 | o hg h hS => exact .o (hb.trans hg) ((hh _ fun o => ⟨_, hg⟩).trans h) fun o hs => hS o ((hc _ o ⟨_, hg⟩).2.2 hs)
 | x => exact .x
theorem fp_congr {i b o : Nat} {m : M} (hb : g'.bx i = g.bx i) (hr : g'.rw i = g.rw i) : fp g' i m b o ↔ fp g i m b o := by
 cases m <;> simp only [fp, hb, hr]
def at0 (g : Gh) (mem : Mem) (i b o : Nat) : Prop := ∃ m, aget mem i = some m ∧ fp g i m b o
theorem RelM.step (h : RelM F g mem w) (hk : Kept F g w) {i : Nat} {m' : M} (he : Ev g w g' w') (hos : w'.os = w.os) (htp : w'.tape = w.tape) (hout : w'.output = w.output)
    (hc : ∀ b o, b < w.heap.size → ¬ at0 g mem i b o → w'.cell? ⟨b, o, none⟩ = w.cell? ⟨b, o, none⟩ ∧ w'.frozen? ⟨b, o, none⟩ = w.frozen? ⟨b, o, none⟩ ∧ (g'.S b o → g.S b o))
    (hh : ∀ b, b < w.heap.size → (∀ o, ¬ at0 g mem i b o) → w'.heap[b]? = w.heap[b]?)
    (hbx : ∀ j, j ≠ i → g'.bx j = g.bx j) (hrw : ∀ j, j ≠ i → g'.rw j = g.rw j) (ho : ObjAt g' w' i m') (hf : ∀ b o, fp g' i m' b o → at0 g mem i b o ∨ w.heap.size ≤ b)
    (hfut : ∀ b o, w'.heap.size ≤ b → g'.S b o) : RelM F g' ((i, m') :: mem) w' ∧ Kept F g' w' := by
  have hag : ∀ j, j ≠ i → aget ((i, m') :: mem) j = aget mem j := fun j hj => aget_ne (Ne.symm hj) _ _
  have hai : aget ((i, m') :: mem) i = some m' := aget_self ..
  have hno : ∀ j m b o, j ≠ i → aget mem j = some m → fp g j m b o → ¬ at0 g mem i b o := fun j m b o hj hm hp ⟨m0, h0, hp0⟩ => h.dj j i m m0 b o hj hm h0 hp hp0
  have hwr : ∀ b o, at0 g mem i b o → F.wr b o := fun b o ⟨m0, h0, hp⟩ => h.wr i m0 b o h0 hp
  refine ⟨⟨fun j m hj => ?_, fun j m b o hj hp => ?_, fun j k m n b o hjk hj hk' hp hq => ?_, fun j hj => ?_, fun j hj => ?_, hfut, h.loc.ev he⟩, ⟨hos.trans hk.os, htp.trans hk.tape, hout.trans hk.output, Nat.le_trans hk.size he.size, fun b hlt hB => ?_, fun b o hlt hB => ?_, fun b o hlt hB hs => ?_, fun b o hlt hs => ?_, fun b o hlt hs => ?_⟩⟩
  · by_cases hji : j = i
    · subst hji; rw [hai] at hj; cases hj; exact ho
    · rw [hag j hji] at hj
      exact (h.ob j m hj).mono he (hbx j hji) (hrw j hji) (fun b o hp => hc b o ((h.ob j m hj).lt hp) (hno j m b o hji hj hp)) fun b hp => hh b ((h.ob j m hj).lt (hp 0)) fun o => hno j m b o hji hj (hp o)
  · by_cases hji : j = i
    · subst hji
      rw [hai] at hj; cases hj
      rcases hf b o hp with h1 | h1
      · exact hwr b o h1
      · exact .inl (Nat.le_trans hk.size h1)
    · rw [hag j hji] at hj
      exact h.wr j m b o hj ((fp_congr (hbx j hji) (hrw j hji)).1 hp)
  · have key : ∀ j m, j ≠ i → aget mem j = some m → fp g' j m b o → fp g' i m' b o → False := fun j m hji hj hp hq => by
      have hp' := (fp_congr (hbx j hji) (hrw j hji)).1 hp
      rcases hf b o hq with h1 | h1
      · exact hno j m b o hji hj hp' h1
      · have := (h.ob j m hj).lt hp'; omega
    by_cases hji : j = i
    · subst hji
      rw [hai] at hj; cases hj
      rw [hag k (Ne.symm hjk)] at hk'
      exact key k n (Ne.symm hjk) hk' hq hp
    · rw [hag j hji] at hj
      by_cases hki : k = i
      · subst hki
        rw [hai] at hk'; cases hk'
        exact key j m hji hj hp hq
      · rw [hag k hki] at hk'
        exact h.dj j k m n b o hjk hj hk' ((fp_congr (hbx j hji) (hrw j hji)).1 hp) ((fp_congr (hbx k hki) (hrw k hki)).1 hq)
  · by_cases hji : j = i
    · subst hji; rw [hai] at hj; cases hj
    · rw [hag j hji] at hj; rw [hbx j hji]; exact h.nbx j hj
  · by_cases hji : j = i
    · subst hji; rw [hai] at hj; cases hj
    · rw [hag j hji] at hj; rw [hrw j hji]; exact h.nrw j hj
  · refine (hh b (Nat.lt_of_lt_of_le hlt hk.size) fun o hp => ?_).trans (hk.blk b hlt hB)
    rcases hwr b o hp with h1 | h1
    · omega
    · exact hB o h1
  · obtain ⟨k1, k2⟩ := hk.cell b o hlt hB
    obtain ⟨c1, c2, _⟩ := hc b o (Nat.lt_of_lt_of_le hlt hk.size) fun hp => (hwr b o hp).elim (fun h1 => by omega) hB
    exact ⟨c1.trans k1, c2.trans k2⟩
  · exact hk.S1 b o hlt hB ((hc b o (Nat.lt_of_lt_of_le hlt hk.size) fun hp => (hwr b o hp).elim (fun h1 => by omega) hB).2.2 hs)
  · exact (he.st b o (Nat.lt_of_lt_of_le hlt hk.size) (hk.S2 b o hlt hs)).1
  · exact (he.st b o (Nat.lt_of_lt_of_le hlt hk.size) (hk.S2 b o hlt hs)).2.trans (hk.cellS b o hlt hs)
theorem RelM.ext (h : RelM F g mem w) (hk : Kept F g w) (hx : Ext w w') (hS : ∀ b o, b < w.heap.size → (g'.S b o ↔ g.S b o)) (hb : g'.bx = g.bx) (hr : g'.rw = g.rw) (hf : ∀ b o, w'.heap.size ≤ b → g'.S b o) :
  Ev g w g' w' ∧ RelM F g' mem w' ∧ Kept F g' w' := by
 have hcell : ∀ b o, b < w.heap.size → w'.cell? ⟨b, o, none⟩ = w.cell? ⟨b, o, none⟩ := fun b o hb => Below.cell hx (p := ⟨b, o, none⟩) hb
 have hfro : ∀ b o, b < w.heap.size → w'.frozen? ⟨b, o, none⟩ = w.frozen? ⟨b, o, none⟩ := fun b o hb => Below.frozen hx (p := ⟨b, o, none⟩) hb
 have he : Ev g w g' w' := ⟨hx.size, fun b o hb hs => ⟨(hS b o hb).2 hs, hcell b o hb⟩, fun i z hz => by rw [hb]; exact hz, fun r a l c h => ⟨a, l, c, by rw [hr]; exact h, Nat.le_refl _, fun _ => ⟨rfl, rfl⟩⟩⟩
 have hfp : ∀ i m b o, fp g' i m b o ↔ fp g i m b o := fun i m b o => fp_congr (by rw [hb]) (by rw [hr])
 refine ⟨he, ⟨fun i m hi => ?_, fun i m b o hi hp => h.wr i m b o hi ((hfp i m b o).1 hp), fun i j m n b o hij hi hj hp hq => h.dj i j m n b o hij hi hj ((hfp _ _ _ _).1 hp) ((hfp _ _ _ _).1 hq), by rw [hb]; exact h.nbx, by rw [hr]; exact h.nrw, hf, h.loc.ev he⟩, ?_⟩
 ·exact (h.ob i m hi).mono he (by rw [hb]) (by rw [hr]) (fun b o hp => ⟨hcell b o ((h.ob i m hi).lt hp), hfro b o ((h.ob i m hi).lt hp), (hS b o ((h.ob i m hi).lt hp)).1⟩) fun b hp => hx.block b ((h.ob i m hi).lt (hp 0))
 ·refine ⟨hx.os.trans hk.os, hx.tape.trans hk.tape, hx.output.trans hk.output, Nat.le_trans hk.size hx.size, fun b hlt hB => (hx.block b (Nat.lt_of_lt_of_le hlt hk.size)).trans (hk.blk b hlt hB), fun b o hlt hB => ?_, fun b o hlt hB hs => ?_, fun b o hlt hs => ?_, fun b o hlt hs => (hcell b o (Nat.lt_of_lt_of_le hlt hk.size)).trans (hk.cellS b o hlt hs)⟩
  ·obtain ⟨k1, k2⟩ := hk.cell b o hlt hB
   have hlt' := Nat.lt_of_lt_of_le hlt hk.size
   exact ⟨(hcell b o hlt').trans k1, (hfro b o hlt').trans k2⟩
  ·exact hk.S1 b o hlt hB ((hS b o (Nat.lt_of_lt_of_le hlt hk.size)).1 hs)
  ·exact (hS b o (Nat.lt_of_lt_of_le hlt hk.size)).2 (hk.S2 b o hlt hs)
theorem RelM.congr {mem' : Mem} (h : RelM F g mem w) (he : ∀ i, aget mem i = aget mem' i) : RelM F g mem' w :=
 ⟨fun j m hj => h.ob j m (by rw [he]; exact hj), fun j m b o hj => h.wr j m b o (by rw [he]; exact hj), fun j k m n b o hjk hj hk => h.dj j k m n b o hjk (by rw [he]; exact hj) (by rw [he]; exact hk),
  fun j hj => h.nbx j (by rw [he]; exact hj), fun j hj => h.nrw j (by rw [he]; exact hj), h.fut, h.loc⟩
def Gh.newB (g : Gh) (i H n : Nat) : Gh := ⟨fun b o => g.S b o ∧ (b = H → o < n), fun j => if j = i then some (H, 0) else g.bx j, g.rw⟩
def Gh.newR (g : Gh) (i H n l c : Nat) : Gh := ⟨fun b o => g.S b o ∧ (b = H → o < n), g.bx, fun j => if j = i then some (some H, l, c) else g.rw j⟩
theorem Ev.newB {i n : Nat} (o : Obj) (hn : g.bx i = none) : Ev g w (g.newB i w.heap.size n) (w.alloc o) :=
 ⟨by simp, fun b o hb hs => ⟨⟨hs, fun e => by omega⟩, Below.cell ((Below.refl w.heap.size w).alloc (Nat.le_refl _) _) (p := ⟨b, o, none⟩) hb⟩, fun j z hz => by
  simp only [Gh.newB]
  split
  ·rename_i e; subst e; rw [hn] at hz; cases hz
  ·exact hz, fun r a l c h => ⟨a, l, c, h, Nat.le_refl _, fun _ => ⟨rfl, rfl⟩⟩⟩
theorem Ev.newR {i n l c : Nat} (o : Obj) (hn : g.rw i = none) : Ev g w (g.newR i w.heap.size n l c) (w.alloc o) :=
 ⟨by simp, fun b o hb hs => ⟨⟨hs, fun e => by omega⟩, Below.cell ((Below.refl w.heap.size w).alloc (Nat.le_refl _) _) (p := ⟨b, o, none⟩) hb⟩, fun j z hz => hz, fun r a l' c' h => ⟨a, l', c', by
  simp only [Gh.newR]
  split
  ·rename_i e; subst e; rw [hn] at h; cases h
  ·exact h, Nat.le_refl _, fun _ => ⟨rfl, rfl⟩⟩⟩
theorem alloc_old (o : Obj) {b : Nat} (hb : b < w.heap.size) : (∀ o', (w.alloc o).cell? ⟨b, o', none⟩ = w.cell? ⟨b, o', none⟩ ∧ (w.alloc o).frozen? ⟨b, o', none⟩ = w.frozen? ⟨b, o', none⟩) ∧ (w.alloc o).heap[b]? = w.heap[b]? := by
 have hx : Ext w (w.alloc o) := (Below.refl w.heap.size w).alloc (Nat.le_refl _) o
 exact ⟨fun o' => ⟨Below.cell hx (p := ⟨b, o', none⟩) hb, Below.frozen hx (p := ⟨b, o', none⟩) hb⟩, hx.block b hb⟩
theorem RelM.newB (h : RelM F g mem w) (hk : Kept F g w) {i n : Nat} {m' : M} {o : Obj} (hi : aget mem i = none) (ho : ObjAt (g.newB i w.heap.size n) (w.alloc o) i m') (hf : ∀ b o', fp (g.newB i w.heap.size n) i m' b o' → b = w.heap.size) :
  Ev g w (g.newB i w.heap.size n) (w.alloc o) ∧ RelM F (g.newB i w.heap.size n) ((i, m') :: mem) (w.alloc o) ∧ Kept F (g.newB i w.heap.size n) (w.alloc o) := by
 have he := Ev.newB (w := w) (n := n) o (h.nbx i hi)
 exact ⟨he, h.step hk he rfl rfl rfl (fun b o' hb _ => ⟨((alloc_old o hb).1 o').1, ((alloc_old o hb).1 o').2, fun hs => hs.1⟩) (fun b hb _ => (alloc_old o hb).2) (fun j hj => by simp [Gh.newB, hj]) (fun j _ => rfl) ho (fun b o' hp => .inr (by rw [hf b o' hp]; exact Nat.le_refl _))
  fun b o' hb => ⟨h.fut b o' (by simp at hb; omega), fun e => by simp at hb; omega⟩⟩
theorem RelM.newR (h : RelM F g mem w) (hk : Kept F g w) {i n l c : Nat} {m' : M} {o : Obj} (hi : aget mem i = none) (ho : ObjAt (g.newR i w.heap.size n l c) (w.alloc o) i m') (hf : ∀ b o', fp (g.newR i w.heap.size n l c) i m' b o' → b = w.heap.size) :
  Ev g w (g.newR i w.heap.size n l c) (w.alloc o) ∧ RelM F (g.newR i w.heap.size n l c) ((i, m') :: mem) (w.alloc o) ∧ Kept F (g.newR i w.heap.size n l c) (w.alloc o) := by
 have he := Ev.newR (w := w) (n := n) (l := l) (c := c) o (h.nrw i hi)
 exact ⟨he, h.step hk he rfl rfl rfl (fun b o' hb _ => ⟨((alloc_old o hb).1 o').1, ((alloc_old o hb).1 o').2, fun hs => hs.1⟩) (fun b hb _ => (alloc_old o hb).2) (fun j _ => rfl) (fun j hj => by simp [Gh.newR, hj]) ho (fun b o' hp => .inr (by rw [hf b o' hp]; exact Nat.le_refl _))
  fun b o' hb => ⟨h.fut b o' (by simp at hb; omega), fun e => by simp at hb; omega⟩⟩
theorem RelM.newBox (h : RelM F g mem w) (hk : Kept F g w) {i T : Nat} {cs : List V} {xs : Array Value} (hi : aget mem i = none) (hl : cs.length = xs.size) (h1 : ∀ u ∈ cs, u.one = true)
  (hr : ∀ (j : Nat) u x, cs[j]? = some u → xs[j]? = some x → Rep w g u x) :
  ∃ g', g'.bx i = some (w.heap.size, 0) ∧ Ev g w g' (w.alloc (.cells xs T)) ∧ RelM F g' ((i, .b cs) :: mem) (w.alloc (.cells xs T)) ∧ Kept F g' (w.alloc (.cells xs T)) := by
 have hbi : (g.newB i w.heap.size 0).bx i = some (w.heap.size, 0) := by simp [Gh.newB]
 have he := Ev.newB (w := w) (n := 0) (.cells xs T) (h.nbx i hi)
 refine ⟨_, hbi, h.newB hk hi (.b hbi (by simp) ⟨h1, fun j u hj => ?_⟩) fun b o' ⟨off, hp, _⟩ => by rw [hbi] at hp; cases hp; rfl⟩
 have hjl := (List.getElem?_eq_some_iff.1 hj).1
 have hx : xs[j]? = some xs[j] := Array.getElem?_eq_getElem (by omega)
 refine ⟨fun hs => by have := hs.2 rfl; omega, by rw [World.frozen?_alloc_at _ _ _ _ rfl], xs[j], ?_, (hr j u _ hj hx).mono he⟩
 rw [World.cell?_alloc_at _ _ _ _ rfl, Nat.zero_add, hx]
theorem cells_choose {p : Nat → Value → Prop} : ∀ (n : Nat), (∀ j, j < n → ∃ x, p j x) → ∃ xs : List Value, xs.length = n ∧ ∀ j x, xs[j]? = some x → p j x
 | 0, _ => ⟨[], rfl, by simp⟩
 | n + 1, h => by
  obtain ⟨xs, hl, hx⟩ := cells_choose n fun j hj => h j (by omega)
  obtain ⟨x, hp⟩ := h n (by omega)
  refine ⟨xs ++ [x], by simp [hl], fun j y hj => ?_⟩
  rcases Nat.lt_or_ge j xs.length with hlt | hge
  ·rw [List.getElem?_append_left hlt] at hj; exact hx j y hj
  ·rw [List.getElem?_append_right hge] at hj
   have : j - xs.length = 0 := by
    have := (List.getElem?_eq_some_iff.1 hj).1; simp at this; omega
   rw [this] at hj
   simp at hj
   obtain rfl : j = n := by omega
   subst hj; exact hp
theorem BoxAt.vals {b off : Nat} {cs : List V} (h : BoxAt g w b off cs) : ∃ xs : List Value, xs.length = cs.length ∧ w.rangeAt b off xs ∧ ∀ (j : Nat) u x, cs[j]? = some u → xs[j]? = some x → Rep w g u x := by
 obtain ⟨xs, hl, hx⟩ := cells_choose (p := fun j x => w.cell? ⟨b, off + j, none⟩ = some x ∧ ∀ u, cs[j]? = some u → Rep w g u x) cs.length fun j hj => by
  obtain ⟨_, _, x, hc, hr⟩ := h.at_ j cs[j] (List.getElem?_eq_getElem hj)
  exact ⟨x, hc, fun u hu => by rw [List.getElem?_eq_getElem hj] at hu; cases hu; exact hr⟩
 exact ⟨xs, hl, fun j v hv => (hx j v hv).1, fun j u x hu hj => (hx j x hj).2 u hu⟩
theorem RelM.box (h : RelM F g mem w) {i : Nat} {cs : List V} (hi : aget mem i = some (.b cs)) : ∃ b off, g.bx i = some (b, off) ∧ b < w.heap.size ∧ BoxAt g w b off cs := by
 cases h.ob i _ hi with
 | b hg hb h => exact ⟨_, _, hg, hb, h⟩
theorem RelM.row (h : RelM F g mem w) {i E sz n : Nat} (hi : aget mem i = some (.r E sz n)) : ∃ a c, g.rw i = some (a, n, c) ∧ RowAt g w a E sz n c := by
 cases h.ob i _ hi with
 | r hg h => exact ⟨_, _, hg, h⟩
theorem RelM.buf (h : RelM F g mem w) {i E sz gen : Nat} {es : List V} (hi : aget mem i = some (.w E sz gen es)) : ∃ a c, g.rw i = some (a, gen, c) ∧ BufAt g w a E sz es c := by
 cases h.ob i _ hi with
 | w hg h => exact ⟨_, _, hg, h⟩
theorem RelM.mapD (h : RelM F g mem w) {i : Nat} {es : List (Value × V)} {st : Option (List Nat × Nat)} (hi : aget mem i = some (.d es st)) : ∃ b off, g.bx i = some (b, off) ∧ MapD g w b es st := by
 cases h.ob i _ hi with
 | d hg h => exact ⟨_, _, hg, h⟩
theorem RelM.map (h : RelM F g mem w) {i : Nat} {es : List (Value × V)} (hi : aget mem i = some (.m es)) : ∃ b off, g.bx i = some (b, off) ∧ MapAt g w b es := by
 cases h.ob i _ hi with
 | m hg h => exact ⟨_, _, hg, h⟩
def splice (cs : List V) (o : Nat) (us : List V) : List V := cs.take o ++ us ++ cs.drop (o + us.length)
theorem splice_len {cs us : List V} {o : Nat} (h : o + us.length ≤ cs.length) : (splice cs o us).length = cs.length := by simp [splice]; omega
theorem splice_get {cs us : List V} {o j : Nat} (h : o + us.length ≤ cs.length) : (splice cs o us)[j]? = if o ≤ j ∧ j < o + us.length then us[j - o]? else cs[j]? := by
 unfold splice
 split
 ·rename_i hj
  rw [List.append_assoc, List.getElem?_append_right (by simp; omega), List.getElem?_append_left (by simp; omega)]
  congr 1; simp; omega
 ·rename_i hj
  rcases Nat.lt_or_ge j o with hlt | hge
  ·rw [List.append_assoc, List.getElem?_append_left (by simp; omega), List.getElem?_take, if_pos hlt]
  ·rw [List.getElem?_append_right (by simp; omega), List.getElem?_drop]
   congr 1; simp; omega
theorem setCells_facts (b : Nat) : ∀ (vs : List Value) (o : Nat) (w : World), (w.setCells b o vs).os = w.os ∧ (w.setCells b o vs).tape = w.tape ∧ (w.setCells b o vs).output = w.output ∧ (w.setCells b o vs).heap.size = w.heap.size ∧ ∀ k, k ≠ b → (w.setCells b o vs).heap[k]? = w.heap[k]?
 | [], _, _ => ⟨rfl, rfl, rfl, rfl, fun _ _ => rfl⟩
 | v :: r, o, w => by
  obtain ⟨h1, h2, h3, h4, h5⟩ := setCells_facts b r (o + 1) (w.setCell ⟨b, o, none⟩ v)
  rw [World.setCells]
  exact ⟨h1, h2, h3, by rw [h4]; simp [World.setCell], fun k hk => by rw [h5 k hk]; exact Below.heap_setCell _ _ _ _ hk⟩
theorem RelM.setC (h : RelM F g mem w) (hk : Kept F g w) {i b o : Nat} {m m' : M} {xs : List Value} (hi : aget mem i = some m) (hin : ∀ k, k < xs.length → fp g i m b (o + k)) (hnS : ∀ k, k < xs.length → ¬ g.S b (o + k)) (hlt : b < w.heap.size)
  (ho : ObjAt g (w.setCells b o xs) i m') (hf : ∀ b o, fp g i m' b o → fp g i m b o) :
  Ev g w g (w.setCells b o xs) ∧ RelM F g ((i, m') :: mem) (w.setCells b o xs) ∧ Kept F g (w.setCells b o xs) := by
 obtain ⟨f1, f2, f3, f4, f5⟩ := setCells_facts b xs o w
 have hout : ∀ b0 o0, (b0 = b → o0 < o ∨ o + xs.length ≤ o0) → (w.setCells b o xs).cell? ⟨b0, o0, none⟩ = w.cell? ⟨b0, o0, none⟩ := fun b0 o0 hh =>
  World.cell?_setCells_out b xs o w ⟨b0, o0, none⟩ fun e _ => hh e
 have hfro : ∀ x, (w.setCells b o xs).frozen? x = w.frozen? x := fun x => World.frozen?_setCells b xs o w x
 have key : ∀ b0 o0, (∀ k, k < xs.length → ¬ (b0 = b ∧ o0 = o + k)) → (b0 = b → o0 < o ∨ o + xs.length ≤ o0) := fun b0 o0 hh e => by
  rcases Nat.lt_or_ge o0 o with h' | h'
  ·exact .inl h'
  ·rcases Nat.lt_or_ge o0 (o + xs.length) with h'' | h''
   ·exact absurd ⟨e, by omega⟩ (hh (o0 - o) (by omega))
   ·exact .inr h''
 have he : Ev g w g (w.setCells b o xs) := ⟨by omega, fun b0 o0 hlt hs => ⟨hs, hout b0 o0 (key b0 o0 fun k hk' ⟨e1, e2⟩ => by subst e1; subst e2; exact hnS k hk' hs)⟩, fun _ _ hz => hz, fun r a l c hh => ⟨a, l, c, hh, Nat.le_refl _, fun _ => ⟨rfl, rfl⟩⟩⟩
 refine ⟨he, h.step hk he f1 f2 f3 (fun b0 o0 _ hn => ⟨hout b0 o0 (key b0 o0 fun k hk' ⟨e1, e2⟩ => by subst e1; subst e2; exact hn ⟨m, hi, hin k hk'⟩), hfro _, fun hs => hs⟩) (fun b0 _ hn => ?_) (fun _ _ => rfl) (fun _ _ => rfl) ho (fun b0 o0 hp => .inl ⟨m, hi, hf b0 o0 hp⟩) fun b0 o0 hb0 => h.fut b0 o0 (by omega)⟩
 rcases Nat.eq_zero_or_pos xs.length with h0 | h0
 ·have : xs = [] := List.eq_nil_of_length_eq_zero h0
  subst this; rfl
 ·exact f5 b0 fun e => hn (o + 0) ⟨m, hi, e ▸ hin 0 h0⟩
theorem RelM.store (h : RelM F g mem w) (hk : Kept F g w) {i b off o : Nat} {cs us : List V} {xs : List Value} (hi : aget mem i = some (.b cs)) (hb : g.bx i = some (b, off)) (hlen : o + us.length ≤ cs.length) (hl : us.length = xs.length) (h1 : ∀ u ∈ us, u.one = true)
  (hr : ∀ (j : Nat) u x, us[j]? = some u → xs[j]? = some x → Rep w g u x) :
  w.there b (off + o) xs.length ∧ Ev g w g (w.setCells b (off + o) xs) ∧ RelM F g ((i, .b (splice cs o us)) :: mem) (w.setCells b (off + o) xs) ∧ Kept F g (w.setCells b (off + o) xs) := by
 obtain ⟨b', off', e1, hlt, hB⟩ := h.box hi
 rw [hb] at e1; cases e1
 have hthere : w.there b (off + o) xs.length := fun j hj => by
  obtain ⟨_, h3, x, h4, _⟩ := hB.at_ (o + j) cs[o + j] (List.getElem?_eq_getElem (by omega))
  rw [Nat.add_assoc]
  exact ⟨by rw [h4]; rfl, h3⟩
 have hsl : (splice cs o us).length = cs.length := splice_len hlen
 have hin : ∀ k, k < xs.length → fp g i (.b cs) b (off + o + k) := fun k hk' => ⟨off, hb, by omega, by omega⟩
 have hnS : ∀ k, k < xs.length → ¬ g.S b (off + o + k) := fun k hk' => by
  obtain ⟨a1, _⟩ := hB.at_ (o + k) cs[o + k] (List.getElem?_eq_getElem (by omega))
  rw [Nat.add_assoc]; exact a1
 have hout : ∀ b0 o0, (b0 = b → o0 < off + o ∨ off + o + xs.length ≤ o0) → (w.setCells b (off + o) xs).cell? ⟨b0, o0, none⟩ = w.cell? ⟨b0, o0, none⟩ := fun b0 o0 hh =>
  World.cell?_setCells_out b xs (off + o) w ⟨b0, o0, none⟩ fun e _ => hh e
 have he : Ev g w g (w.setCells b (off + o) xs) := by
  obtain ⟨f1, f2, f3, f4, f5⟩ := setCells_facts b xs (off + o) w
  refine ⟨by omega, fun b0 o0 hlt hs => ⟨hs, hout b0 o0 fun e => ?_⟩, fun _ _ hz => hz, fun r a l c hh => ⟨a, l, c, hh, Nat.le_refl _, fun _ => ⟨rfl, rfl⟩⟩⟩
  subst e
  rcases Nat.lt_or_ge o0 (off + o) with h' | h'
  ·exact .inl h'
  ·rcases Nat.lt_or_ge o0 (off + o + xs.length) with h'' | h''
   ·have := hnS (o0 - (off + o)) (by omega)
    rw [show off + o + (o0 - (off + o)) = o0 from by omega] at this
    exact absurd hs this
   ·exact .inr h''
 refine ⟨hthere, h.setC hk hi hin hnS hlt (.b hb (by rw [(setCells_facts b xs (off + o) w).2.2.2.1]; exact hlt) ⟨fun u hu => ?_, fun j u hj => ?_⟩) fun b0 o0 ⟨off0, p1, p2, p3⟩ => ⟨off0, p1, p2, by rw [hsl] at p3; exact p3⟩⟩
 ·obtain ⟨k, hk'⟩ := List.getElem?_of_mem hu
  rw [splice_get hlen] at hk'
  split at hk'
  ·exact h1 u (List.mem_of_getElem? hk')
  ·exact hB.one u (List.mem_of_getElem? hk')
 ·have hjl : j < cs.length := by have := (List.getElem?_eq_some_iff.1 hj).1; omega
  obtain ⟨a1, a3, x, a4, a5⟩ := hB.at_ j cs[j] (List.getElem?_eq_getElem hjl)
  refine ⟨a1, by rw [World.frozen?_setCells b xs (off + o) w]; exact a3, ?_⟩
  rw [splice_get hlen] at hj
  split at hj
  ·rename_i hin
   have hx : xs[j - o]? = some xs[j - o] := List.getElem?_eq_getElem (by omega)
   refine ⟨xs[j - o], ?_, (hr (j - o) u _ hj hx).mono he⟩
   have := World.cell?_setCells_in b xs (off + o) w (fun k hk' => (hthere k hk').1) (j - o) (by omega)
   rw [show off + o + (j - o) = off + j from by omega] at this
   exact this
  ·rename_i hin
   rw [List.getElem?_eq_getElem hjl] at hj
   cases hj
   exact ⟨x, by rw [hout _ _ fun _ => by omega]; exact a4, a5.mono he⟩
def Gh.more (g : Gh) (i : Nat) (a : Option Nat) (l c k : Nat) : Gh := ⟨fun b o => g.S b o ∨ (a = some b ∧ o < k), g.bx, fun j => if j = i then some (a, l, c) else g.rw j⟩
theorem own_cell {E sz n c b : Nat} {xs : List Value} (h : w.oRow 0 E sz (.slice (some ⟨b, 0, none⟩) n c) n xs) {o : Nat} (ho : o < xs.length) : w.cell? ⟨b, o, none⟩ = some xs[o] := by
 have := oRow_cells h (g := b) rfl o xs[o] (List.getElem?_eq_getElem ho)
 rw [Addr.add_lit, Nat.zero_add] at this
 exact this
def AppR (w w' : World) (a : Option Nat) (n c : Nat) (v' : Value) (m : Nat) : Prop :=
 v' = .slice (a.map fun b => ⟨b, 0, none⟩) (n + m) c ∨ (0 < m ∧ ∃ c', v' = .slice (some ⟨w.heap.size, 0, none⟩) (n + m) c' ∧ w.heap.size < w'.heap.size ∧ ∀ k, k < w.heap.size → w'.heap[k]? = w.heap[k]?)
theorem RelM.grown (h : RelM F g mem w) (hk : Kept F g w) {i E sz n m : Nat} {a : Option Nat} {l0 c : Nat} {v' : Value} {xs news : List Value} {m0 : M} (hi : aget mem i = some m0) (hm0 : ∀ b o, fp g i m0 b o ↔ ∃ l c, g.rw i = some (some b, l, c)) (ha : g.rw i = some (a, l0, c)) (l1 K : Nat) (hl : l0 ≤ l1) (hl1 : 0 < m → l0 < l1)
    (hown : w'.oRow 0 E sz v' (n + m) (xs ++ news)) (hg : w.grownBy w' (Value.ownBlock (.slice (a.map fun b => ⟨b, 0, none⟩) n c)))
    (hst : ∀ b o, a = some b → g.S b o → w'.cell? ⟨b, o, none⟩ = w.cell? ⟨b, o, none⟩)
    (hv : AppR w w' a n c v' m) (m1 : M) (hm1 : ∀ (g' : Gh) b o, fp g' i m1 b o → ∃ l c, g'.rw i = some (some b, l, c))
    (ho : ∀ a' c' g', v' = .slice (Option.map (fun b => ⟨b, 0, none⟩) a') (n + m) c' → g'.rw i = some (a', l1, c') → Ev g w g' w' → (∀ b o, a' = some b → K ≤ o → g'.S b o → a' = a ∧ g.S b o) → ObjAt g' w' i m1) :
    ∃ g' a' c', v' = .slice (Option.map (fun b => ⟨b, 0, none⟩) a') (n + m) c' ∧ g'.rw i = some (a', l1, c') ∧ Ev g w g' w' ∧ RelM F g' ((i, m1) :: mem) w' ∧ Kept F g' w' ∧
      (∀ b, a' = some b → b < w'.heap.size ∧ ∀ o, o < K → g'.S b o) := by
  have hat : ∀ b o, at0 g mem i b o ↔ a = some b := fun b o => by
    constructor
    · rintro ⟨m2, h2, h3⟩
      rw [hi] at h2; cases h2
      obtain ⟨l, c1, h4⟩ := (hm0 b o).1 h3
      rw [ha] at h4; cases h4; rfl
    · rintro rfl; exact ⟨m0, hi, (hm0 b o).2 ⟨_, _, ha⟩⟩
  rcases hv with rfl | ⟨hm, c', rfl, hlt, hold⟩
  · have hother : ∀ k, k < w.heap.size → a ≠ some k → w'.heap[k]? = w.heap[k]? := fun k hk' hne => hg.block k hk' (by
      cases a with
      | none => simp [Value.ownBlock]
      | some b => simp [Value.ownBlock]; intro e; exact hne (by rw [e]))
    have hoc : ∀ b o, b < w.heap.size → a ≠ some b → w'.cell? ⟨b, o, none⟩ = w.cell? ⟨b, o, none⟩ ∧ w'.frozen? ⟨b, o, none⟩ = w.frozen? ⟨b, o, none⟩ := fun b o hb hne =>
      ⟨World.cell?_of_block (hother b hb hne), World.frozen?_of_block (hother b hb hne)⟩
    have hrwi : (g.more i a l1 c K).rw i = some (a, l1, c) := by simp [Gh.more]
    have hrwj : ∀ j, j ≠ i → (g.more i a l1 c K).rw j = g.rw j := fun j hj => by simp [Gh.more, hj]
    have he : Ev g w (g.more i a l1 c K) w' := by
      refine ⟨hg.size, fun b o hb hs => ⟨.inl hs, ?_⟩, fun _ _ hz => hz, fun r a1 l1' c1 hr => ?_⟩
      · by_cases hab : a = some b
        · exact hst b o hab hs
        · exact (hoc b o hb hab).1
      · by_cases hri : r = i
        · subst hri
          rw [ha] at hr; cases hr
          exact ⟨_, _, _, hrwi, hl, fun _ => ⟨rfl, rfl⟩⟩
        · exact ⟨a1, l1', c1, by rw [hrwj r hri]; exact hr, Nat.le_refl _, fun _ => ⟨rfl, rfl⟩⟩
    have hob := ho a c _ rfl hrwi he fun b o hb hK hs => ⟨rfl, hs.elim id fun hh => by omega⟩
    obtain ⟨k1, k2⟩ := h.step hk he hg.os hg.tape hg.output (fun b o hb hn => have hne : a ≠ some b := fun e => hn ((hat b o).2 e); ⟨(hoc b o hb hne).1, (hoc b o hb hne).2, fun hs => hs.elim id fun hh => absurd hh.1 hne⟩) (fun b hb hn => hother b hb fun e => hn 0 ((hat b 0).2 e)) (fun _ _ => rfl) hrwj hob (fun b o hp => by
      obtain ⟨l, c1, hp⟩ := hm1 _ b o hp
      rw [hrwi] at hp; cases hp
      exact .inl ((hat b o).2 rfl)) fun b0 o0 hb0 => .inl (h.fut b0 o0 (by have := hg.size; omega))
    refine ⟨_, a, c, rfl, hrwi, he, k1, k2, fun b hb => ⟨?_, fun o ho => .inr ⟨hb, ho⟩⟩⟩
    subst hb
    exact (oRow_lt hown b (by simp [Value.ownBlock])).2
  · have hoc : ∀ b o, b < w.heap.size → w'.cell? ⟨b, o, none⟩ = w.cell? ⟨b, o, none⟩ ∧ w'.frozen? ⟨b, o, none⟩ = w.frozen? ⟨b, o, none⟩ := fun b o hb =>
      ⟨World.cell?_of_block (hold b hb), World.frozen?_of_block (hold b hb)⟩
    have hrwi : (g.newR i w.heap.size K l1 c').rw i = some (some w.heap.size, l1, c') := by simp [Gh.newR]
    have hrwj : ∀ j, j ≠ i → (g.newR i w.heap.size K l1 c').rw j = g.rw j := fun j hj => by simp [Gh.newR, hj]
    have hlt1 := hl1 hm
    have he : Ev g w (g.newR i w.heap.size K l1 c') w' := by
      refine ⟨hg.size, fun b o hb hs => ⟨⟨hs, fun e => by omega⟩, (hoc b o hb).1⟩, fun _ _ hz => hz, fun r a1 l1' c1 hr => ?_⟩
      by_cases hri : r = i
      · subst hri
        rw [ha] at hr; cases hr
        exact ⟨_, _, _, hrwi, hl, fun _ => by omega⟩
      · exact ⟨a1, l1', c1, by rw [hrwj r hri]; exact hr, Nat.le_refl _, fun _ => ⟨rfl, rfl⟩⟩
    have hob := ho (some w.heap.size) c' _ rfl hrwi he fun b o hb hK hs => by cases hb; have := hs.2 rfl; omega
    obtain ⟨k1, k2⟩ := h.step hk he hg.os hg.tape hg.output (fun b o hb _ => ⟨(hoc b o hb).1, (hoc b o hb).2, fun hs => hs.1⟩) (fun b hb _ => hold b hb) (fun _ _ => rfl) hrwj hob (fun b o hp => by
      obtain ⟨l, c1, hp⟩ := hm1 _ b o hp
      rw [hrwi] at hp; cases hp
      exact .inr (Nat.le_refl _)) fun b0 o0 hb0 => ⟨h.fut b0 o0 (by omega), fun e => by omega⟩
    exact ⟨_, some w.heap.size, c', rfl, hrwi, he, k1, k2, fun b hb => by cases hb; exact ⟨hlt, fun o ho => ⟨h.fut _ o (Nat.le_refl _), fun _ => ho⟩⟩⟩
theorem RelM.grow (h : RelM F g mem w) (hk : Kept F g w) {i E sz n m : Nat} {a : Option Nat} {c : Nat} {v' : Value} {xs news : List Value} (hi : aget mem i = some (.r E sz n)) (ha : g.rw i = some (a, n, c))
  (hown0 : w.oRow 0 E sz (.slice (a.map fun b => ⟨b, 0, none⟩) n c) n xs) (hown : w'.oRow 0 E sz v' (n + m) (xs ++ news)) (hg : w.grownBy w' (Value.ownBlock (.slice (a.map fun b => ⟨b, 0, none⟩) n c)))
  (hv : AppR w w' a n c v' m) :
  ∃ g' a' c', v' = .slice (Option.map (fun b => ⟨b, 0, none⟩) a') (n + m) c' ∧ g'.rw i = some (a', n + m, c') ∧ Ev g w g' w' ∧ RelM F g' ((i, .r E sz (n + m)) :: mem) w' ∧ Kept F g' w' ∧
   (∀ b, a' = some b → b < w'.heap.size ∧ ∀ o, o < (n + m) * sz → g'.S b o) := by
 obtain ⟨a0, c0, e1, hR⟩ := h.row hi
 rw [ha] at e1; cases e1
 obtain ⟨hsz, _, hfree⟩ := hR
 have hle : n * sz ≤ (n + m) * sz := Nat.mul_le_mul_right _ (by omega)
 refine h.grown hk hi (fun b o => Iff.rfl) ha (n + m) ((n + m) * sz) (by omega) (fun hm => by omega) hown hg (fun b o hab hs => ?_) hv (.r E sz (n + m)) (fun _ _ _ hp => hp) fun a' c' g' hv' hrw he hfr => .r hrw ⟨hsz, ⟨_, hv' ▸ hown⟩, fun b hb o ho hs => ?_⟩
 ·subst hab
  have hlo : o < n * sz := by
   rcases Nat.lt_or_ge o (n * sz) with h' | h'
   ·exact h'
   ·exact absurd hs (hfree b rfl o h')
  have hx : o < xs.length := by rw [hown0.1]; exact hlo
  rcases hv with rfl | ⟨hm, c', rfl, hlt, hold⟩
  ·rw [own_cell hown0 hx, own_cell hown (by simp; omega), List.getElem_append_left hx]
  ·exact World.cell?_of_block (hold b ((oRow_lt hown0 b (by simp [Value.ownBlock])).2))
 ·obtain ⟨e, hs'⟩ := hfr b o hb ho hs
  subst e
  exact hfree b hb o (by omega) hs'
theorem RelM.growW (h : RelM F g mem w) (hk : Kept F g w) {i E sz gen n m : Nat} {es es' : List V} {a : Option Nat} {c : Nat} {v' : Value} {xs news : List Value} (hi : aget mem i = some (.w E sz gen es)) (ha : g.rw i = some (a, gen, c))
  (hlen : es'.length = n + m) (hcell : ∀ e ∈ es', e.cells.length = sz ∧ ∀ u ∈ e.cells, u.one = true) (hown : w'.oRow 0 E sz v' (n + m) (xs ++ news)) (hg : w.grownBy w' (Value.ownBlock (.slice (a.map fun b => ⟨b, 0, none⟩) n c)))
  (hrep : ∀ g', Ev g w g' w' → ∀ (j : Nat) u x, (es'.flatMap V.cells)[j]? = some u → (xs ++ news)[j]? = some x → Rep w' g'.bare u x) (hv : AppR w w' a n c v' m) :
  ∃ g' a' c', v' = .slice (Option.map (fun b => ⟨b, 0, none⟩) a') (n + m) c' ∧ g'.rw i = some (a', gen + 1, c') ∧ Ev g w g' w' ∧ RelM F g' ((i, .w E sz (gen + 1) es') :: mem) w' ∧ Kept F g' w' := by
 obtain ⟨a0, c0, e1, hR⟩ := h.buf hi
 rw [ha] at e1; cases e1
 obtain ⟨g', a', c', k1, k2, k3, k4, k5, _⟩ := h.grown hk hi (fun b o => Iff.rfl) ha (gen + 1) 0 (by omega) (fun hm => by omega) hown hg (fun b o hab hs => absurd hs (hR.free b hab o)) hv (.w E sz (gen + 1) es') (fun _ _ _ hp => hp) fun a' c' g' hv' hrw he hfr =>
  .w hrw ⟨hR.pos, hcell, ⟨xs ++ news, by rw [hlen, ← hv']; exact hown, hrep g' he⟩, fun b hb o hs => by
   obtain ⟨e, hs'⟩ := hfr b o hb (Nat.zero_le _) hs
   subst e
   exact hR.free b hb o hs'⟩
 exact ⟨g', a', c', k1, k2, k3, k4, k5⟩
theorem RelM.setO (h : RelM F g mem w) (hk : Kept F g w) {i b off : Nat} {m m' : M} {ob : Obj} (hi : aget mem i = some m) (hm : ∀ b o, fp g i m b o ↔ ∃ off, g.bx i = some (b, off)) (hb : g.bx i = some (b, off)) (hS : ∀ o, ¬ g.S b o) (hw : w'.heap = w.heap.setIfInBounds b ob) (hos : w'.os = w.os) (htp : w'.tape = w.tape) (hout : w'.output = w.output)
  (ho : Ev g w g w' → ObjAt g w' i m') (hf : ∀ b o, fp g i m' b o → ∃ off, g.bx i = some (b, off)) : Ev g w g w' ∧ RelM F g ((i, m') :: mem) w' ∧ Kept F g w' := by
 have hoth : ∀ k, k ≠ b → w'.heap[k]? = w.heap[k]? := fun k hk' => by rw [hw, Array.getElem?_setIfInBounds_ne (Ne.symm hk')]
 have hsz : w'.heap.size = w.heap.size := by rw [hw]; simp
 have he : Ev g w g w' := ⟨by omega, fun b0 o0 hlt hs => ⟨hs, World.cell?_of_block (hoth b0 fun e => hS o0 (e ▸ hs))⟩, fun _ _ hz => hz, fun r a l c hh => ⟨a, l, c, hh, Nat.le_refl _, fun _ => ⟨rfl, rfl⟩⟩⟩
 have hat : ∀ o, at0 g mem i b o := fun o => ⟨m, hi, (hm b o).2 ⟨_, hb⟩⟩
 exact ⟨he, h.step hk he hos htp hout (fun b0 o0 _ hn => ⟨World.cell?_of_block (hoth b0 fun e => hn (e ▸ hat o0)), World.frozen?_of_block (hoth b0 fun e => hn (e ▸ hat o0)), fun hs => hs⟩) (fun b0 _ hn => hoth b0 fun e => hn 0 (e ▸ hat 0)) (fun _ _ => rfl) (fun _ _ => rfl) (ho he) (fun b0 o0 hp => .inl ⟨m, hi, (hm b0 o0).2 (hf b0 o0 hp)⟩) fun b0 o0 hb0 => h.fut b0 o0 (by omega)⟩
end
end Lf
open Go.RowKit Rg
namespace Lf
section
variable {P : Program} {o : Oper} {env : Env} {v : V}
def V.ok : V → Bool
 | .a _ => true
 | v => v.one
theorem rep_cells {w : World} {g : Gh} {v : V} {x : Value} (h : Rep w g v x) (hv : v.ok = true) : v.cells.length = x.cells.size ∧ (∀ u ∈ v.cells, u.one = true) ∧ ∀ (j : Nat) u y, v.cells[j]? = some u → x.cells[j]? = some y → Rep w g u y := by
 cases v
 case a cs =>
  cases h with
  | a hl h1 hc => exact ⟨hl, h1, hc⟩
 case t => cases hv
 all_goals
  have h1 := h.oneCell hv
  have hx : x.cells = #[x] := by
   cases x <;> first | rfl | cases h1
  rw [hx]
  refine ⟨rfl, fun u hu => ?_, fun j u y hj hy => ?_⟩
  ·simp only [V.cells, List.mem_singleton] at hu
   subst hu; exact hv
  ·simp only [V.cells] at hj
   cases j with
   | zero => simp at hj hy; subst hj; subst hy; exact h
   | succ j => simp at hj
theorem Does.alloc (X : TOk P) {T : Nat} {ti : TI} (i : Nat) (ho : o.op = .alloc T) (hT : aget X.tab T = some ti) : Does P o env (.p i 0) [(i, none, some (.b (ti.zero.map Z.v)))] := by
 refine ⟨fun F g a w mem _ h2 h3 h4 _ K Q hK => ?_⟩
 obtain ⟨inf, hi, hs, hb, z, hz, hl, hl', hzz, _⟩ := (X.get hT).info
 obtain ⟨g', k1, k2, k3, k4⟩ := h2.newBox h3 (i := i) (T := T) (cs := ti.zero.map Z.v) (xs := z.cells) (h4 _ _ _ mem_one) (by simpa using hl) (fun u hu => by
  obtain ⟨q, _, rfl⟩ := List.mem_map.1 hu; exact q.one) (fun j u x hj hx => by
  rw [List.getElem?_map] at hj
  obtain ⟨q, hq, rfl⟩ := Option.map_eq_some_iff.1 hj
  obtain ⟨x', hx', hi'⟩ := hzz j q hq
  have : x = x' := by simpa [hx] using hx'
  subst this
  exact Z.rep hi')
 unfold Oper.wp
 have hrun : (execOp a.eval o).run P w = .ok (.value (.pointer (some ⟨w.heap.size, 0, none⟩))) (w.alloc (.cells z.cells T)) := by
  simp [execOp, ho, Instr.alloc, zeroValue, typeInfo, hi, hz, newVar, newRow]
 rw [hrun]
 exact hK _ g' _ k2 k3 k4 (.p k1)
theorem Does.box {T i : Nat} {x : Operand} {u : V} (ho : o.op = .box T x) (hx : evo env x = some u) (hu : u.ok = true) : Does P o env (.p i 0) [(i, none, some (.b u.cells))] := by
 refine ⟨fun F g a w mem h1 h2 h3 h4 _ K Q hK => ?_⟩
 have hr := h1 x (by simp [ho, Op.operands]) u hx
 obtain ⟨c1, c2, c3⟩ := rep_cells hr hu
 obtain ⟨g', k1, k2, k3, k4⟩ := h2.newBox h3 (i := i) (T := T) (cs := u.cells) (xs := (a.eval x).cells) (h4 _ _ _ mem_one) c1 c2 c3
 unfold Oper.wp
 have hrun : (execOp a.eval o).run P w = .ok (.value (.pointer (some ⟨w.heap.size, 0, none⟩))) (w.alloc (.cells (a.eval x).cells T)) := by
  simp [execOp, ho, Instr.box, newVar, newRow]
 rw [hrun]
 exact hK _ g' _ k2 k3 k4 (.p k1)
theorem run_load_one {T : Nat} {ti : TI} (h : TIok P T ti) (hd : ti.d.agg = false) {w : World} {b o : Nat} {x : Value} (hc : w.cell? ⟨b, o, none⟩ = some x) : (loadVar T ⟨b, o, none⟩).run P w = .ok x w := by
 simp only [loadVar, Sem.run_bind, h.run_agg, hd, Result.andThen_ok]
 simp only [Bool.false_eq_true, if_false, load, Sem.run, hc]
theorem run_load_agg {T : Nat} {ti : TI} (h : TIok P T ti) (hd : ti.d.agg = true) {w : World} {b o : Nat} {xs : List Value} (hl : xs.length = ti.size) (hc : w.rangeAt b o xs) : (loadVar T ⟨b, o, none⟩).run P w = .ok (.agg xs.toArray) w := by
 have := run_loadCells_list (P := P) w ⟨b, o, none⟩ xs (fun j v hv => by rw [Addr.add_mid]; exact hc j v hv)
 rw [hl] at this
 simp only [loadVar, Sem.run_bind, h.run_agg, hd, Result.andThen_ok, if_true, h.run_size, this]
 rfl
def TI.part (ti : TI) (cs : List V) (off : Nat) : Option V :=
 cond ti.d.agg (cond (Nat.beq off 0 && Nat.beq cs.length ti.size) (some (.a cs)) (cond (Nat.ble (off + ti.size) cs.length) (some (.a ((cs.drop off).take ti.size))) none)) cs[off]?
theorem part_agg {ti : TI} {cs : List V} {off : Nat} {v : V} (hd : ti.d.agg = true) (h : ti.part cs off = some v) : off + ti.size ≤ cs.length ∧ v = .a ((cs.drop off).take ti.size) := by
 simp only [TI.part, hd, cond_true] at h
 cases hc : (Nat.beq off 0 && Nat.beq cs.length ti.size)
 ·rw [hc, cond_false] at h
  cases hb : Nat.ble (off + ti.size) cs.length
  ·rw [hb] at h; cases h
  ·rw [hb] at h; cases h
   exact ⟨Nat.le_of_ble_eq_true hb, rfl⟩
 ·rw [hc] at h
  simp only [Bool.and_eq_true] at hc
  have e1 := Nat.eq_of_beq_eq_true hc.1
  have e2 := Nat.eq_of_beq_eq_true hc.2
  subst e1
  cases h
  exact ⟨by omega, by rw [List.drop_zero, List.take_of_length_le (by omega)]⟩
theorem part_one {ti : TI} {cs : List V} {off : Nat} {v : V} (hd : ti.d.agg = false) (h : ti.part cs off = some v) : cs[off]? = some v := by
 simpa [TI.part, hd] using h
theorem part_whole {ti : TI} {cs : List V} (hd : ti.d.agg = true) (h : cs.length = ti.size) : ti.part cs 0 = some (.a cs) := by
 have : Nat.beq cs.length ti.size = true := by rw [h]; exact Nat.beq_refl _
 simp [TI.part, hd, this]
theorem rep_part {g : Gh} {w : World} {T : Nat} {ti : TI} (h : TIok P T ti) {cs : List V} {off b bo : Nat} {v : V} (hv : ti.part cs off = some v) (h1 : ∀ u ∈ cs, u.one = true) {xs : List Value} (hl : xs.length = cs.length) (hx : w.rangeAt b bo xs)
  (hr : ∀ (j : Nat) u x, cs[j]? = some u → xs[j]? = some x → Rep w g u x) : ∃ x, (Instr.loadAt T (.pointer (some ⟨b, bo + off, none⟩))).run P w = .ok x w ∧ Rep w g v x := by
 cases hd : ti.d.agg
 ·have hv' := part_one hd hv
  have hlt := (List.getElem?_eq_some_iff.1 hv').1
  have hxx : xs[off]? = some xs[off] := List.getElem?_eq_getElem (by omega)
  exact ⟨xs[off], by simp only [Instr.loadAt, Instr.sureAddr, Sem.run_bind, Sem.run_pure, Result.andThen_ok, run_load_one h hd (hx off _ hxx)], hr off v _ hv' hxx⟩
 ·obtain ⟨hle, rfl⟩ := part_agg hd hv
  have hrange : w.rangeAt b (bo + off) ((xs.drop off).take ti.size) := fun j u hj => by
   rw [List.getElem?_take] at hj
   split at hj
   ·rw [List.getElem?_drop] at hj
    rw [Nat.add_assoc]
    exact hx _ u hj
   ·cases hj
  refine ⟨.agg ((xs.drop off).take ti.size).toArray, by simp only [Instr.loadAt, Instr.sureAddr, Sem.run_bind, Sem.run_pure, Result.andThen_ok, run_load_agg h hd (by simp; omega) hrange], .a (by simp; omega) (fun u hu => h1 u (List.mem_of_mem_drop (List.mem_of_mem_take hu))) (fun j u x hj hxj => ?_)⟩
  simp only [List.getElem?_toArray, List.getElem?_take, List.getElem?_drop] at hj hxj
  split at hj
  ·rename_i hjl
   rw [if_pos hjl] at hxj
   exact hr _ u x hj hxj
  ·cases hj
theorem Does.load {T i off : Nat} {x : Operand} {cs : List V} (X : TOk P) {ti : TI} {mem0 : Mem} (ho : o.op = .load T x) (hx : evo env x = some (.p i off)) (_hm : aget mem0 i = some (.b cs)) (hT : aget X.tab T = some ti) (hv : ti.part cs off = some v) : Does P o env v [(i, some (.b cs), none)] :=
 .read fun F g a w mem h1 h2 h4 => by
  have hr := h1 x (by simp [ho, Op.operands]) _ hx
  obtain ⟨b, bo, e1, _, hB⟩ := h2.box h4
  obtain ⟨xs, hl, hrange, hrep⟩ := hB.vals
  have hy : a.eval x = .pointer (some ⟨b, bo + off, none⟩) := by
   generalize a.eval x = y at hr
   cases hr with
   | p hp => rw [e1] at hp; cases hp; rfl
  obtain ⟨y, hrun, hrep'⟩ := rep_part (X.get hT) hv hB.one hl hrange hrep
  exact ⟨y, by simp [execOp, ho, hy, hrun], hrep'⟩
theorem Does.loadQ {T : Nat} {x : Operand} {cs : List V} (X : TOk P) {ti : TI} (ho : o.op = .load T x) (hx : evo env x = some (.q cs)) (hT : aget X.tab T = some ti) (hv : ti.part cs 0 = some v) : Does P o env v [] :=
 .pure fun F g a w mem h1 h2 => by
  have hr := h1 x (by simp [ho, Op.operands]) _ hx
  generalize hy : a.eval x = y at hr
  cases hr with
  | @q _ _ b off xs h1' hx' hc =>
   have hl : ((List.range cs.length).map xs).length = cs.length := by simp
   obtain ⟨y, hrun, hrep'⟩ := rep_part (g := g) (w := w) (b := b) (bo := off) (X.get hT) hv h1' hl (fun j u hj => by
    rw [List.getElem?_map] at hj
    obtain ⟨k, hk, rfl⟩ := Option.map_eq_some_iff.1 hj
    obtain ⟨hkl, hk'⟩ := List.getElem?_eq_some_iff.1 hk
    simp at hk' hkl; subst hk'
    exact (hx' j cs[j] (List.getElem?_eq_getElem hkl)).2.2) (fun j u x hj hxj => by
    rw [List.getElem?_map] at hxj
    obtain ⟨k, hk, rfl⟩ := Option.map_eq_some_iff.1 hxj
    obtain ⟨hkl, hk'⟩ := List.getElem?_eq_some_iff.1 hk
    simp at hk'; subst hk'
    exact (hc j u hj).of_bare)
   rw [Nat.add_zero] at hrun
   exact ⟨y, by simp [execOp, ho, hy, hrun], hrep'⟩
theorem Does.store {T i off : Nat} {x y : Operand} {cs : List V} {u : V} (X : TOk P) {ti : TI} {mem0 : Mem} {cs' : List V} (ho : o.op = .store T x y) (hx : evo env x = some (.p i off)) (hy : evo env y = some u) (_hm : aget mem0 i = some (.b cs)) (hT : aget X.tab T = some ti)
  (hu : u.ok = true) (hs : Nat.beq u.cells.length ti.size = true) (hle : Nat.ble (off + u.cells.length) cs.length = true) (hcs : splice cs off u.cells = cs') : Does P o env (.k undef) [(i, some (.b cs), some (.b cs'))] := by
 refine ⟨fun F g a w mem h1 h2 h3 h4 _ K Q hK => ?_⟩
 subst hcs
 have hr := h1 x (by simp [ho, Op.operands]) _ hx
 have hr2 := h1 y (by simp [ho, Op.operands]) _ hy
 have hi := h4 _ _ _ mem_one
 obtain ⟨b, bo, e1, _, hB⟩ := h2.box hi
 have hxx : a.eval x = .pointer (some ⟨b, bo + off, none⟩) := by
  generalize a.eval x = y at hr
  cases hr with
  | p hp => rw [e1] at hp; cases hp; rfl
 obtain ⟨c1, c2, c3⟩ := rep_cells hr2 hu
 have hs' := Nat.eq_of_beq_eq_true hs
 obtain ⟨k1, k2, k3, k4⟩ := h2.store h3 hi e1 (o := off) (us := u.cells) (xs := (a.eval y).cells.toList) (Nat.le_of_ble_eq_true hle) (by simpa using c1) c2 (fun j u x hj hx => c3 j u x hj (by simpa using hx))
 unfold Oper.wp
 have hone : ∀ x ∈ (a.eval y).cells.toList, x.oneCell' = true := fun x hx => by
  obtain ⟨j, hj⟩ := List.getElem?_of_mem hx
  have hjl := (List.getElem?_eq_some_iff.1 hj).1
  have hjl2 : j < u.cells.length := by rw [c1]; simpa using hjl
  have hju : u.cells[j]? = some u.cells[j] := List.getElem?_eq_getElem hjl2
  exact (c3 j _ x hju (by simpa using hj)).oneCell (c2 _ (List.mem_of_getElem? hju))
 have hst := run_storeCells_cells (P := P) b (bo + off) (a.eval y).cells.toList 0 w (by simpa using fun j hj => (k1 j hj).1) (by simpa using fun j hj => (k1 j hj).2) hone
 simp only [Nat.add_zero] at hst
 have hrun : (execOp a.eval o).run P w = .ok .skip (w.setCells b (bo + off) (a.eval y).cells.toList) := by
  have e2 : (a.eval y).cells.size = ti.size := by omega
  simp [execOp, ho, hxx, Instr.storeAt, Instr.sureAddr, storeVar, (X.get hT).run_size, e2, hst]
 rw [hrun]
 exact hK undef g _ k2 k3 k4 (.k _)
theorem run_fieldPlace {T f fo ft : Nat} {ti fi : TI} {fs : List (Nat × Nat)} (h : TIok P T ti) (hd : ti.d = .st fs) (hf : fs[f]? = some (fo, ft)) (hF : TIok P ft fi) (hs : Nat.blt 0 fi.size = true) (w : World) (b off : Nat) :
  (Instr.fieldAt T (.pointer (some ⟨b, off, none⟩)) f).run P w = .ok (.pointer (some ⟨b, off + fo, none⟩)) w := by
 obtain ⟨gs, hu, hg⟩ := h.st hd
 have hfl : ∃ fd, gs[f]? = some fd ∧ fd.offset = fo ∧ fd.type = ft := by
  rw [← hg, List.getElem?_map] at hf
  obtain ⟨fd, h1, h2⟩ := Option.map_eq_some_iff.1 hf
  refine ⟨fd, by simpa using h1, ?_, ?_⟩ <;> simp_all
 obtain ⟨fd, hfd, rfl, rfl⟩ := hfl
 have hne : ¬ fi.size = 0 := by have := Nat.le_of_ble_eq_true hs; omega
 simp [Instr.fieldAt, run_underlying hu, hfd, Instr.sureAddr, fieldPlace, hF.run_size, hne, Addr.add_lit]
theorem Does.fieldAddr {T i off f fo ft : Nat} {x : Operand} (X : TOk P) {ti fi : TI} {fs : List (Nat × Nat)} (ho : o.op = .fieldAddr T x f) (hx : evo env x = some (.p i off)) (hT : aget X.tab T = some ti) (hd : ti.d = .st fs) (hf : fs[f]? = some (fo, ft)) (hF : aget X.tab ft = some fi) (hs : Nat.blt 0 fi.size = true) : Does P o env (.p i (off + fo)) [] :=
 .pure fun F g a w mem h1 h2 => by
  have hr := h1 x (by simp [ho, Op.operands]) _ hx
  generalize hy : a.eval x = y at hr
  cases hr with
  | @p _ _ _ b bo hp => exact ⟨.pointer (some ⟨b, bo + off + fo, none⟩), by simp [execOp, ho, hy, run_fieldPlace (X.get hT) hd hf (X.get hF) hs], by rw [Nat.add_assoc]; exact .p hp⟩
theorem rep_q_drop {g : Gh} {w : World} {cs : List V} {b off : Nat} (k : Nat) (h : Rep w g (.q cs) (.pointer (some ⟨b, off, none⟩))) : Rep w g (.q (cs.drop k)) (.pointer (some ⟨b, off + k, none⟩)) := by
 cases h with
 | q xs h1 hx hc =>
  refine .q (fun j => xs (k + j)) (fun u hu => h1 u (List.mem_of_mem_drop hu)) (fun j u hj => ?_) (fun j u hj => ?_)
  ·rw [List.getElem?_drop] at hj
   obtain ⟨a1, a2, a3⟩ := hx _ u hj
   rw [Nat.add_assoc]
   exact ⟨a1, a2, a3⟩
  ·rw [List.getElem?_drop] at hj
   exact hc _ u hj
theorem Does.fieldAddrQ {T f fo ft : Nat} {x : Operand} {cs cs' : List V} (X : TOk P) {ti fi : TI} {fs : List (Nat × Nat)} (ho : o.op = .fieldAddr T x f) (hx : evo env x = some (.q cs)) (hT : aget X.tab T = some ti) (hd : ti.d = .st fs) (hf : fs[f]? = some (fo, ft)) (hF : aget X.tab ft = some fi) (hs : Nat.blt 0 fi.size = true) (hc : cs.drop fo = cs') : Does P o env (.q cs') [] :=
 .pure fun F g a w mem h1 h2 => by
  subst hc
  have hr := h1 x (by simp [ho, Op.operands]) _ hx
  generalize hy : a.eval x = y at hr
  obtain ⟨b, off, rfl⟩ : ∃ b off, y = .pointer (some ⟨b, off, none⟩) := by cases hr; exact ⟨_, _, rfl⟩
  exact ⟨.pointer (some ⟨b, off + fo, none⟩), by simp [execOp, ho, hy, run_fieldPlace (X.get hT) hd hf (X.get hF) hs], rep_q_drop fo hr⟩
theorem Does.idxArr {T i off n e k : Nat} {x ix : Operand} {kd : IntKind} {z : Int} (X : TOk P) {ti ei : TI} (ho : o.op = .indexAddr T x ix) (hx : evo env x = some (.p i off)) (hi : evo env ix = some (.k (.int kd z))) (hz : z = ((k : Nat) : Int)) (hT : aget X.tab T = some ti) (hd : ti.d = .arr n e) (hE : aget X.tab e = some ei) (hk : k < n) : Does P o env (.p i (off + k * ei.size)) [] :=
 .pure fun F g a w mem h1 h2 => by
  subst hz
  have hr := h1 x (by simp [ho, Op.operands]) _ hx
  have hr2 := rep_k (h1 ix (by simp [ho, Op.operands]) _ hi)
  generalize hy : a.eval x = y at hr
  cases hr with
  | @p _ _ _ b bo hp =>
   refine ⟨.pointer (some ⟨b, bo + (off + k * ei.size), none⟩), ?_, .p hp⟩
   simp [execOp, ho, hy, hr2, Instr.indexAt, asIntOf, run_underlying ((X.get hT).arr hd), Instr.sureAddr, (X.get hE).run_size, hk, Addr.add_lit, Nat.add_assoc]
theorem Does.idxArrQ {T n e k : Nat} {x ix : Operand} {kd : IntKind} {z : Int} {cs cs' : List V} (X : TOk P) {ti ei : TI} (ho : o.op = .indexAddr T x ix) (hx : evo env x = some (.q cs)) (hi : evo env ix = some (.k (.int kd z))) (hz : z = ((k : Nat) : Int)) (hT : aget X.tab T = some ti) (hd : ti.d = .arr n e) (hE : aget X.tab e = some ei) (hk : k < n) (hc : cs.drop (k * ei.size) = cs') : Does P o env (.q cs') [] :=
 .pure fun F g a w mem h1 h2 => by
  subst hz; subst hc
  have hr := h1 x (by simp [ho, Op.operands]) _ hx
  have hr2 := rep_k (h1 ix (by simp [ho, Op.operands]) _ hi)
  generalize hy : a.eval x = y at hr
  obtain ⟨b, off, rfl⟩ : ∃ b off, y = .pointer (some ⟨b, off, none⟩) := by cases hr; exact ⟨_, _, rfl⟩
  refine ⟨.pointer (some ⟨b, off + k * ei.size, none⟩), ?_, rep_q_drop (k * ei.size) hr⟩
  simp [execOp, ho, hy, hr2, Instr.indexAt, asIntOf, run_underlying ((X.get hT).arr hd), Instr.sureAddr, (X.get hE).run_size, hk, Addr.add_lit]
theorem Does.idxGlob {T n e k G : Nat} {ix : Operand} {kd : IntKind} {z : Int} {xs : List Value} {u : Value} (X : TOk P) {ti ei : TI} (ho : o.op = .indexAddr T (.global G) ix) (hi : evo env ix = some (.k (.int kd z))) (hz : z = ((k : Nat) : Int)) (hT : aget X.tab T = some ti) (hd : ti.d = .arr n e) (hE : aget X.tab e = some ei) (hk : k < n) (he : ei.size = 1) (hG : (G, xs) ∈ Gtab) (hu : xs[k]? = some u) (h1 : (V.k u).one = true) : Does P o env (.q [.k u]) [] := by
 refine ⟨fun F g a w mem hev h2 h3 _ _ K Q hK => ?_⟩
 subst hz
 have hr2 := rep_k (hev ix (by simp [ho, Op.operands]) _ hi)
 obtain ⟨p1, p2, p3⟩ := h2.loc.tab.kept h3 G xs hG k u hu
 have hx : (execOp a.eval o).run P w = .ok (.value (.pointer (some ⟨G, 0 + k * ei.size, none⟩))) w := by
  have hgl : a.eval (.global G) = .pointer (some ⟨G, 0, none⟩) := rfl
  simp [execOp, ho, hgl, hr2, Instr.indexAt, asIntOf, run_underlying ((X.get hT).arr hd), Instr.sureAddr, (X.get hE).run_size, hk, Addr.add_lit]
 unfold Oper.wp
 rw [hx]
 refine hK _ g w (Ev.refl g w) h2 h3 (.q (fun _ => u) (fun v hv => by simp at hv; subst hv; exact h1) (fun j v hv => ?_) (fun j v hv => ?_))
 ·cases j with
  | zero => rw [he]; simpa using ⟨p1, p2, p3⟩
  | succ j => simp at hv
 ·cases j with
  | zero => simp at hv; subst hv; exact .k _
  | succ j => simp at hv
theorem flat_get {es : List V} {size n j : Nat} {e u : V} (hs : ∀ e ∈ es, e.cells.length = size) (he : es[n]? = some e) (hu : e.cells[j]? = some u) : (es.flatMap V.cells)[n * size + j]? = some u := by
 induction es generalizing n with
 | nil => simp at he
 | cons x r ih =>
  rw [List.flatMap_cons]
  have hx := hs x (by simp)
  cases n with
  | zero =>
   simp at he; subst he
   rw [Nat.zero_mul, Nat.zero_add, List.getElem?_append_left (List.getElem?_eq_some_iff.1 hu).1]
   exact hu
  | succ n =>
   simp at he
   rw [List.getElem?_append_right (by rw [hx, Nat.succ_mul]; omega), hx, show (n + 1) * size + j - size = n * size + j from by rw [Nat.succ_mul]; omega]
   exact ih (fun e he => hs e (by simp [he])) he
theorem flat_len {es : List V} {size : Nat} (hs : ∀ e ∈ es, e.cells.length = size) : (es.flatMap V.cells).length = es.length * size := by
 induction es with
 | nil => simp
 | cons x r ih => rw [List.flatMap_cons, List.length_append, hs x (by simp), ih (fun e he => hs e (by simp [he])), List.length_cons, Nat.succ_mul]; omega
theorem Does.idx {T e k : Nat} {x ix : Operand} {kd : IntKind} {z : Int} {t : Option Nat} {es : List V} {u : V} (X : TOk P) {ti ei : TI} (ho : o.op = .indexAddr T x ix) (hx : evo env x = some (.s t es)) (hi : evo env ix = some (.k (.int kd z))) (hz : z = ((k : Nat) : Int)) (hT : aget X.tab T = some ti) (hd : ti.d = .sl e) (hE : aget X.tab e = some ei) (hu : es[k]? = some u) (hs : u.cells.length = ei.size) : Does P o env (.q u.cells) [] :=
 .pure fun F g a w mem h1 h2 => by
  subst hz
  have hr := h1 x (by simp [ho, Op.operands]) _ hx
  have hr2 := rep_k (h1 ix (by simp [ho, Op.operands]) _ hi)
  have hk := (List.getElem?_eq_some_iff.1 hu).1
  generalize hy : a.eval x = y at hr
  cases hr with
  | s0 => simp at hu
  | se => simp at hu
  | @s _ _ _ b off cap size xs hn hm hp hsz hx' hc ht =>
   have hmem := List.mem_of_getElem? hu
   obtain ⟨q1, q2⟩ := hsz u hmem
   obtain rfl : size = ei.size := by omega
   refine ⟨.pointer (some ⟨b, off + k * ei.size, none⟩), ?_, .q (fun j => xs (k * ei.size + j)) q2 (fun j w' hj => ?_) (fun j w' hj => ?_)⟩
   ·simp [execOp, ho, hy, hr2, Instr.indexAt, asIntOf, run_underlying ((X.get hT).sl hd), (X.get hE).run_size, hk, Addr.add_lit]
   ·have := hx' _ w' (flat_get (fun e he => (hsz e he).1) hu hj)
    rw [Nat.add_assoc]; exact this
   ·exact hc _ w' (flat_get (fun e he => (hsz e he).1) hu hj)
theorem Does.idxSb {T e k i off n cap : Nat} {x ix : Operand} {kd : IntKind} {z : Int} (X : TOk P) {ti ei : TI} (ho : o.op = .indexAddr T x ix) (hx : evo env x = some (.sb i off n cap)) (hi : evo env ix = some (.k (.int kd z))) (hz : z = ((k : Nat) : Int)) (hT : aget X.tab T = some ti) (hd : ti.d = .sl e) (hE : aget X.tab e = some ei) (hk : k < n) : Does P o env (.p i (off + k * ei.size)) [] :=
 .pure fun F g a w mem h1 h2 => by
  subst hz
  have hr := h1 x (by simp [ho, Op.operands]) _ hx
  have hr2 := rep_k (h1 ix (by simp [ho, Op.operands]) _ hi)
  generalize hy : a.eval x = y at hr
  cases hr with
  | @sb _ _ _ _ _ b bo hp =>
   refine ⟨.pointer (some ⟨b, bo + (off + k * ei.size), none⟩), ?_, .p hp⟩
   simp [execOp, ho, hy, hr2, Instr.indexAt, asIntOf, run_underlying ((X.get hT).sl hd), (X.get hE).run_size, hk, Addr.add_lit, Nat.add_assoc]
theorem run_part {g : Gh} {w : World} {T : Nat} {ti : TI} (h : TIok P T ti) {cs : List V} {xs : Array Value} {off : Nat} {v : V} (hv : ti.part cs off = some v) (hl : cs.length = xs.size) (h1 : ∀ u ∈ cs, u.one = true)
  (hr : ∀ (j : Nat) u x, cs[j]? = some u → xs[j]? = some x → Rep w g u x) : ∃ x, (part T xs off).run P w = .ok x w ∧ Rep w g v x := by
 cases hd : ti.d.agg
 ·have hv' := part_one hd hv
  have hlt := (List.getElem?_eq_some_iff.1 hv').1
  have hxx : xs[off]? = some xs[off] := Array.getElem?_eq_getElem (by omega)
  refine ⟨xs[off], ?_, hr off v _ hv' hxx⟩
  simp only [part, Sem.run_bind, h.run_agg, hd, Result.andThen_ok]
  simp [hxx]
 ·obtain ⟨hle, rfl⟩ := part_agg hd hv
  refine ⟨.agg (xs.extract off (off + ti.size)), ?_, .a (by simp; omega) (fun u hu => h1 u (List.mem_of_mem_drop (List.mem_of_mem_take hu))) (fun j u x hj hxj => ?_)⟩
  ·simp only [part, Sem.run_bind, h.run_agg, hd, Result.andThen_ok]
   simp [h.run_size]
  ·rw [List.getElem?_take] at hj
   split at hj
   ·rename_i hjl
    rw [List.getElem?_drop] at hj
    rw [Array.getElem?_extract] at hxj
    split at hxj
    ·exact hr _ u x hj hxj
    ·cases hxj
   ·cases hj
theorem Does.field {T f fo ft : Nat} {x : Operand} {cs : List V} (X : TOk P) {ti fi : TI} {fs : List (Nat × Nat)} (ho : o.op = .field T x f) (hx : evo env x = some (.a cs)) (hT : aget X.tab T = some ti) (hd : ti.d = .st fs) (hf : fs[f]? = some (fo, ft)) (hF : aget X.tab ft = some fi) (hv : fi.part cs fo = some v) : Does P o env v [] :=
 .pure fun F g a w mem h1 h2 => by
  have hr := h1 x (by simp [ho, Op.operands]) _ hx
  generalize hy : a.eval x = y at hr
  cases hr with
  | a hl h1' hc =>
   obtain ⟨z, hz, hrep⟩ := run_part (X.get hF) hv hl h1' hc
   obtain ⟨gs, hu, hg⟩ := (X.get hT).st hd
   have hfl : ∃ fd, gs[f]? = some fd ∧ fd.offset = fo ∧ fd.type = ft := by
    rw [← hg, List.getElem?_map] at hf
    obtain ⟨fd, h1, h2⟩ := Option.map_eq_some_iff.1 hf
    refine ⟨fd, by simpa using h1, ?_, ?_⟩ <;> simp_all
   obtain ⟨fd, hfd, rfl, rfl⟩ := hfl
   exact ⟨z, by simp [execOp, ho, hy, Instr.field, run_underlying hu, hfd, asAgg, hz], hrep⟩
theorem Does.index {T e n k : Nat} {x ix : Operand} {kd : IntKind} {z : Int} {cs : List V} (X : TOk P) {ti ei : TI} (ho : o.op = .index T x ix) (hx : evo env x = some (.a cs)) (hi : evo env ix = some (.k (.int kd z))) (hz : z = ((k : Nat) : Int)) (hT : aget X.tab T = some ti) (hd : ti.d = .arr n e) (hE : aget X.tab e = some ei) (hk : k < n) (hv : ei.part cs (k * ei.size) = some v) : Does P o env v [] :=
 .pure fun F g a w mem h1 h2 => by
  subst hz
  have hr := h1 x (by simp [ho, Op.operands]) _ hx
  have hr2 := rep_k (h1 ix (by simp [ho, Op.operands]) _ hi)
  generalize hy : a.eval x = y at hr
  cases hr with
  | a hl h1' hc =>
   obtain ⟨z, hz, hrep⟩ := run_part (X.get hE) hv hl h1' hc
   exact ⟨z, by simp [execOp, ho, hy, hr2, Instr.index, asIntOf, run_underlying ((X.get hT).arr hd), (X.get hE).run_size, hk, hz], hrep⟩
theorem Does.indexS {T k : Nat} {x ix : Operand} {kd : IntKind} {z : Int} {s : ByteArray} (X : TOk P) {ti : TI} (ho : o.op = .index T x ix) (hx : evo env x = some (.k (.string s))) (hi : evo env ix = some (.k (.int kd z))) (hz : z = ((k : Nat) : Int)) (hT : aget X.tab T = some ti) (hd : ti.d = .str) (hk : k < s.size) : Does P o env (.k (.int .u8 (s[k].toNat : Int))) [] :=
 .pure fun F g a w mem h1 h2 => by
  subst hz
  have hr := rep_k (h1 x (by simp [ho, Op.operands]) _ hx)
  have hr2 := rep_k (h1 ix (by simp [ho, Op.operands]) _ hi)
  refine ⟨.int .u8 (s[k].toNat : Int), ?_, .k _⟩
  have e1 : s[k]? = some s[k] := by simp [hk]
  simp [execOp, ho, hr, hr2, Instr.index, asIntOf, run_underlying ((X.get hT).str hd), e1]
theorem Does.len {x : Operand} {T : Nat} {ts : Array Nat} {t : Option Nat} {es : List V} {n e : Nat} (X : TOk P) {ti : TI} (ho : o.op = .call { callee := .builtin .len, args := #[x], argTypes := ts }) (hts : ts[0]? = some T) (hx : evo env x = some (.s t es)) (hT : aget X.tab T = some ti) (hd : ti.d = .sl e) (hn : es.length = n) : Does P o env (.k (.int .i64 (n : Int))) [] :=
 .pure fun F g a w mem h1 h2 => by
  subst hn
  have hr := h1 x (by simp [ho, Op.operands, Call.operands]) _ hx
  generalize hy : a.eval x = y at hr
  have hu := run_underlying (P := P) ((X.get hT).sl hd) w
  cases hr with
  | s0 => exact ⟨.int .i64 ((0 : Nat) : Int), by simp [execOp, ho, resolve, invoke, builtin, hy, Builtin.len_, hts, hu, goInt], .k _⟩
  | se => exact ⟨.int .i64 ((0 : Nat) : Int), by simp [execOp, ho, resolve, invoke, builtin, hy, Builtin.len_, hts, hu, goInt], .k _⟩
  | s => exact ⟨.int .i64 (es.length : Int), by simp [execOp, ho, resolve, invoke, builtin, hy, Builtin.len_, hts, hu, goInt], .k _⟩
theorem Does.lenNil {x : Operand} {T : Nat} {ts : Array Nat} {e : Nat} (X : TOk P) {ti : TI} (ho : o.op = .call { callee := .builtin .len, args := #[x], argTypes := ts }) (hts : ts[0]? = some T) (hx : evo env x = some .nil) (hT : aget X.tab T = some ti) (hd : ti.d = .sl e) : Does P o env (.k (.int .i64 ((0 : Nat) : Int))) [] :=
 .pure fun F g a w mem h1 h2 => by
  have hr := h1 x (by simp [ho, Op.operands, Call.operands]) _ hx
  generalize hy : a.eval x = y at hr
  have hu := run_underlying (P := P) ((X.get hT).sl hd) w
  cases hr with
  | nil => exact ⟨.int .i64 ((0 : Nat) : Int), by simp [execOp, ho, resolve, invoke, builtin, hy, Builtin.len_, hts, hu, goInt], .k _⟩
theorem Does.lenSb {x : Operand} {T : Nat} {ts : Array Nat} {i off n cap e : Nat} (X : TOk P) {ti : TI} (ho : o.op = .call { callee := .builtin .len, args := #[x], argTypes := ts }) (hts : ts[0]? = some T) (hx : evo env x = some (.sb i off n cap)) (hT : aget X.tab T = some ti) (hd : ti.d = .sl e) : Does P o env (.k (.int .i64 (n : Int))) [] :=
 .pure fun F g a w mem h1 h2 => by
  have hr := h1 x (by simp [ho, Op.operands, Call.operands]) _ hx
  generalize hy : a.eval x = y at hr
  have hu := run_underlying (P := P) ((X.get hT).sl hd) w
  cases hr with
  | sb => exact ⟨.int .i64 (n : Int), by simp [execOp, ho, resolve, invoke, builtin, hy, Builtin.len_, hts, hu, goInt], .k _⟩
theorem Does.lenS {x : Operand} {T : Nat} {ts : Array Nat} {s : ByteArray} (X : TOk P) {ti : TI} (ho : o.op = .call { callee := .builtin .len, args := #[x], argTypes := ts }) (hts : ts[0]? = some T) (hx : evo env x = some (.k (.string s))) (hT : aget X.tab T = some ti) (hd : ti.d = .str) : Does P o env (.k (.int .i64 (s.size : Int))) [] :=
 .pure fun F g a w mem h1 h2 => by
  have hr := rep_k (h1 x (by simp [ho, Op.operands, Call.operands]) _ hx)
  have hu := run_underlying (P := P) ((X.get hT).str hd) w
  exact ⟨.int .i64 (s.size : Int), by simp [execOp, ho, resolve, invoke, builtin, hr, Builtin.len_, hts, hu, goInt], .k _⟩
theorem Does.min {x y : Operand} {ts : Array Nat} {k k' : IntKind} {m n r : Int} (ho : o.op = .call { callee := .builtin .min, args := #[x, y], argTypes := ts }) (hx : evo env x = some (.k (.int k m))) (hy : evo env y = some (.k (.int k' n))) (hr : (if n < m then n else m) = r) : Does P o env (.k (.int k r)) [] :=
 .pure fun F g a w mem h1 h2 => by
  have e1 := rep_k (h1 x (by simp [ho, Op.operands, Call.operands]) _ hx)
  have e2 := rep_k (h1 y (by simp [ho, Op.operands, Call.operands]) _ hy)
  exact ⟨.int k r, by simp [execOp, ho, resolve, invoke, builtin, e1, e2, Builtin.min_, Builtin.min2, hr], .k _⟩
theorem Does.max {x y : Operand} {ts : Array Nat} {k k' : IntKind} {m n r : Int} (ho : o.op = .call { callee := .builtin .max, args := #[x, y], argTypes := ts }) (hx : evo env x = some (.k (.int k m))) (hy : evo env y = some (.k (.int k' n))) (hr : (if m < n then n else m) = r) : Does P o env (.k (.int k r)) [] :=
 .pure fun F g a w mem h1 h2 => by
  have e1 := rep_k (h1 x (by simp [ho, Op.operands, Call.operands]) _ hx)
  have e2 := rep_k (h1 y (by simp [ho, Op.operands, Call.operands]) _ hy)
  exact ⟨.int k r, by simp [execOp, ho, resolve, invoke, builtin, e1, e2, Builtin.max_, Builtin.max2, hr], .k _⟩
end
end Lf
open Go.RowKit Rg
namespace Lf
section
variable {P : Program} {o : Oper} {env : Env} {v : V}
inductive Bd (env : Env) (d : Nat) : Option Operand → Nat → Prop
 | none : Bd env d none d
 | some {x : Operand} {kd : IntKind} {z : Int} {l : Nat} (hx : evo env x = some (.k (.int kd z))) (hz : z = (l : Int)) : Bd env d (some x) l
theorem Bd.val {g : Gh} {w : World} {a : Act} {d l : Nat} {lo : Option Operand} (h : Bd env d lo l) (hr : ∀ x, lo = Option.some x → ∀ u, evo env x = Option.some u → Rep w g u (a.eval x)) :
  (lo.map a.eval = Option.none ∧ l = d) ∨ ∃ kd, lo.map a.eval = Option.some (.int kd (l : Int)) := by
 cases h with
 | none => exact .inl ⟨rfl, rfl⟩
 | some hx hz => subst hz; exact .inr ⟨_, by rw [Option.map_some, rep_k (hr _ rfl _ hx)]⟩
theorem run_bounds {isS : Bool} {n cap l h : Nat} {lo hi : Option Value} (hlo : (lo = none ∧ l = 0) ∨ ∃ kd, lo = some (.int kd (l : Int))) (hhi : (hi = none ∧ h = n) ∨ ∃ kd, hi = some (.int kd (h : Int))) (h1 : l ≤ h) (h2 : h ≤ cap) (w : World) :
  (Instr.sliceBounds isS n cap lo hi none).run P w = .ok (l, h, cap) w := by
 rcases hlo with ⟨rfl, rfl⟩ | ⟨kd, rfl⟩ <;> rcases hhi with ⟨rfl, rfl⟩ | ⟨kd', rfl⟩ <;>
  simp [Instr.sliceBounds, Instr.sliceBound, asIntOf, h1, h2]
theorem run_cutG {T e size n cap l h : Nat} {a : Option Addr} {lo hi : Option Value} (hu : P.underlying T = some (.slice e)) (hs : ∀ w, (sizeOf e).run P w = .ok size w)
  (hlo : (lo = none ∧ l = 0) ∨ ∃ kd, lo = some (.int kd (l : Int))) (hhi : (hi = none ∧ h = n) ∨ ∃ kd, hi = some (.int kd (h : Int))) (h1 : l ≤ h) (h2 : h ≤ cap) (w : World) :
  (Instr.sliceAt T (.slice a n cap) lo hi none).run P w = .ok (.slice (if cap = l then a else a.map (·.add (l * size))) (h - l) (cap - l)) w := by
 simp [Instr.sliceAt, Instr.slice, run_underlying hu, run_bounds (P := P) hlo hhi h1 h2, hs]
theorem run_cutA {T e size n l h b off : Nat} {lo hi : Option Value} (hu : P.underlying T = some (.array n e)) (hs : ∀ w, (sizeOf e).run P w = .ok size w)
  (hlo : (lo = none ∧ l = 0) ∨ ∃ kd, lo = some (.int kd (l : Int))) (hhi : (hi = none ∧ h = n) ∨ ∃ kd, hi = some (.int kd (h : Int))) (h1 : l ≤ h) (h2 : h ≤ n) (h3 : l < n) (w : World) :
  (Instr.sliceAt T (.pointer (some ⟨b, off, none⟩)) lo hi none).run P w = .ok (.slice (some ⟨b, off + l * size, none⟩) (h - l) (n - l)) w := by
 have : ¬ n = l := by omega
 simp [Instr.sliceAt, Instr.sureAddr, run_underlying hu, run_bounds (P := P) hlo hhi h1 h2, hs, this, Addr.add_lit]
theorem run_cutS {T l h : Nat} {s : ByteArray} {lo hi : Option Value} (hu : P.underlying T = some .string)
  (hlo : (lo = none ∧ l = 0) ∨ ∃ kd, lo = some (.int kd (l : Int))) (hhi : (hi = none ∧ h = s.size) ∨ ∃ kd, hi = some (.int kd (h : Int))) (h1 : l ≤ h) (h2 : h ≤ s.size) (w : World) :
  (Instr.sliceAt T (.string s) lo hi none).run P w = .ok (.string (s.extract l h)) w := by
 simp [Instr.sliceAt, Instr.slice, run_underlying hu, run_bounds (P := P) hlo hhi h1 h2]
theorem flat_cut {es : List V} {size : Nat} (l h : Nat) (hs : ∀ e ∈ es, e.cells.length = size) {j : Nat} {u : V} (hu : (((es.drop l).take (h - l)).flatMap V.cells)[j]? = some u) : (es.flatMap V.cells)[l * size + j]? = some u := by
 induction es generalizing l h with
 | nil => simp at hu
 | cons x r ih =>
  cases l with
  | zero =>
   have e1 : (x :: r) = (x :: r).take h ++ (x :: r).drop h := (List.take_append_drop h _).symm
   rw [Nat.zero_mul, Nat.zero_add, e1, List.flatMap_append]
   simp only [List.drop_zero, Nat.sub_zero] at hu
   rw [List.getElem?_append_left (List.getElem?_eq_some_iff.1 hu).1]
   exact hu
  | succ l =>
   simp only [List.drop_succ_cons] at hu
   rw [List.flatMap_cons, List.getElem?_append_right (by rw [hs x (by simp), Nat.succ_mul]; omega), hs x (by simp), show (l + 1) * size + j - size = l * size + j from by rw [Nat.succ_mul]; omega]
   exact ih l (h - 1) (fun e he => hs e (by simp [he])) (by rw [show h - 1 - l = h - (l + 1) from by omega]; exact hu)
theorem rep_cut {g : Gh} {w : World} {t : Option Nat} {es : List V} {a : Option Addr} {n cap size l h : Nat} (hr : Rep w g (.s t es) (.slice a n cap)) (hs : ∀ e ∈ es, e.cells.length = size) (h1 : l ≤ h) (h2 : h ≤ es.length) :
  n = es.length ∧ n ≤ cap ∧ Rep w g (.s none ((es.drop l).take (h - l))) (.slice (if cap = l then a else a.map (·.add (l * size))) (h - l) (cap - l)) := by
 cases hr with
 | s0 =>
  simp at h2
  subst h2
  obtain rfl : l = 0 := by omega
  exact ⟨rfl, Nat.le_refl _, .s0 (fun _ h => by cases h)⟩
 | se =>
  simp at h2
  subst h2
  obtain rfl : l = 0 := by omega
  exact ⟨rfl, Nat.le_refl _, .se _ (fun _ h => by cases h)⟩
 | @s _ _ _ b off cap size' xs hn hm hp hsz hx hc ht =>
  refine ⟨rfl, hn, ?_⟩
  have hlen : ((es.drop l).take (h - l)).length = h - l := by simp; omega
  have key : ∀ off', (0 < h - l → off' = off + l * size) → Rep w g (.s none ((es.drop l).take (h - l))) (.slice (some ⟨b, off', none⟩) (h - l) (cap - l)) := fun off' hoff => by
   have := Rep.s (w := w) (g := g) (o := none) (es := (es.drop l).take (h - l)) (b := b) (off := off') (cap := cap - l) (size := size') (fun j => xs (l * size + j)) (by omega) (by omega) hp
    (fun e he => hsz e (List.mem_of_mem_drop (List.mem_of_mem_take he))) (fun j u hj => ?_) (fun j u hj => hc _ u (flat_cut l h hs hj)) (fun _ h => by cases h)
   ·rw [hlen] at this; exact this
   ·have h' := hx _ u (flat_cut l h hs hj)
    have hpos : 0 < h - l := by
     rcases Nat.eq_zero_or_pos (h - l) with h0 | h0
     ·rw [h0] at hj; simp at hj
     ·exact h0
    rw [hoff hpos, Nat.add_assoc]
    exact h'
  split
  ·rename_i hcl
   exact key off fun _ => by omega
  ·simp only [Option.map_some, Addr.add_lit]
   exact key _ fun _ => rfl
theorem Does.cut {T e l h : Nat} {x : Operand} {lo hi : Option Operand} {t : Option Nat} {es es' : List V} (X : TOk P) {ti ei : TI} (ho : o.op = .slice T x lo hi none) (hx : evo env x = some (.s t es)) (hT : aget X.tab T = some ti) (hd : ti.d = .sl e) (hE : aget X.tab e = some ei) (hlo : Bd env 0 lo l) (hhi : Bd env es.length hi h)
  (h1 : l ≤ h) (h2 : h ≤ es.length) (hs : ∀ e ∈ es, e.cells.length = ei.size) (he : (es.drop l).take (h - l) = es') : Does P o env (.s none es') [] :=
 .pure fun F g a w mem hr _ => by
  subst he
  have hr0 := hr x (by simp [ho, Op.operands]) _ hx
  have b1 := hlo.val (a := a) (fun y hy u hu => hr y (by subst hy; simp [ho, Op.operands]) u hu)
  have b2 := hhi.val (a := a) (fun y hy u hu => hr y (by subst hy; simp [ho, Op.operands]) u hu)
  obtain ⟨a0, n, cap, hy⟩ : ∃ a0 n cap, a.eval x = .slice a0 n cap := by generalize a.eval x = y at hr0; cases hr0 <;> exact ⟨_, _, _, rfl⟩
  rw [hy] at hr0
  obtain ⟨e1, e2, e3⟩ := rep_cut hr0 hs h1 h2
  subst e1
  refine ⟨_, ?_, e3⟩
  have := run_cutG (P := P) (a := a0) ((X.get hT).sl hd) (X.get hE).run_size b1 b2 h1 (Nat.le_trans h2 e2) w
  simp [execOp, ho, hy, this]
theorem Does.cutSb {T e l h i off n cap : Nat} {x : Operand} {lo hi : Option Operand} (X : TOk P) {ti ei : TI} (ho : o.op = .slice T x lo hi none) (hx : evo env x = some (.sb i off n cap)) (hT : aget X.tab T = some ti) (hd : ti.d = .sl e) (hE : aget X.tab e = some ei) (hlo : Bd env 0 lo l) (hhi : Bd env n hi h)
  (h1 : l ≤ h) (h2 : h ≤ cap) (h3 : l < cap) : Does P o env (.sb i (off + l * ei.size) (h - l) (cap - l)) [] :=
 .pure fun F g a w mem hr _ => by
  have hr0 := hr x (by simp [ho, Op.operands]) _ hx
  have b1 := hlo.val (a := a) (fun y hy u hu => hr y (by subst hy; simp [ho, Op.operands]) u hu)
  have b2 := hhi.val (a := a) (fun y hy u hu => hr y (by subst hy; simp [ho, Op.operands]) u hu)
  generalize hy : a.eval x = y at hr0
  cases hr0 with
  | @sb _ _ _ _ _ b bo hp =>
   have := run_cutG (P := P) (a := some ⟨b, bo + off, none⟩) ((X.get hT).sl hd) (X.get hE).run_size b1 b2 h1 h2 w
   have hne : ¬ cap = l := by omega
   refine ⟨.slice (some ⟨b, bo + (off + l * ei.size), none⟩) (h - l) (cap - l), ?_, .sb hp⟩
   simp [execOp, ho, hy, this, hne, Addr.add_lit, Nat.add_assoc]
theorem Does.cutA {T e l h i off n : Nat} {x : Operand} {lo hi : Option Operand} (X : TOk P) {ti ei : TI} (ho : o.op = .slice T x lo hi none) (hx : evo env x = some (.p i off)) (hT : aget X.tab T = some ti) (hd : ti.d = .arr n e) (hE : aget X.tab e = some ei) (hlo : Bd env 0 lo l) (hhi : Bd env n hi h)
  (h1 : l ≤ h) (h2 : h ≤ n) (h3 : l < n) : Does P o env (.sb i (off + l * ei.size) (h - l) (n - l)) [] :=
 .pure fun F g a w mem hr _ => by
  have hr0 := hr x (by simp [ho, Op.operands]) _ hx
  have b1 := hlo.val (a := a) (fun y hy u hu => hr y (by subst hy; simp [ho, Op.operands]) u hu)
  have b2 := hhi.val (a := a) (fun y hy u hu => hr y (by subst hy; simp [ho, Op.operands]) u hu)
  generalize hy : a.eval x = y at hr0
  cases hr0 with
  | @p _ _ _ b bo hp =>
   have := run_cutA (P := P) (b := b) (off := bo + off) ((X.get hT).arr hd) (X.get hE).run_size b1 b2 h1 h2 h3 w
   refine ⟨.slice (some ⟨b, bo + (off + l * ei.size), none⟩) (h - l) (n - l), ?_, .sb hp⟩
   simp [execOp, ho, hy, this, Nat.add_assoc]
theorem Does.cutS {T l h : Nat} {x : Operand} {lo hi : Option Operand} {s : ByteArray} (X : TOk P) {ti : TI} (ho : o.op = .slice T x lo hi none) (hx : evo env x = some (.k (.string s))) (hT : aget X.tab T = some ti) (hd : ti.d = .str) (hlo : Bd env 0 lo l) (hhi : Bd env s.size hi h)
  (h1 : l ≤ h) (h2 : h ≤ s.size) : Does P o env (.k (.string (s.extract l h))) [] :=
 .pure fun F g a w mem hr _ => by
  have hr0 := rep_k (hr x (by simp [ho, Op.operands]) _ hx)
  have b1 := hlo.val (a := a) (fun y hy u hu => hr y (by subst hy; simp [ho, Op.operands]) u hu)
  have b2 := hhi.val (a := a) (fun y hy u hu => hr y (by subst hy; simp [ho, Op.operands]) u hu)
  have := run_cutS (P := P) (s := s) ((X.get hT).str hd) b1 b2 h1 h2 w
  exact ⟨.string (s.extract l h), by simp [execOp, ho, hr0, this], .k _⟩
theorem rep_src {g : Gh} {w : World} {T e sz : Nat} {t : Option Nat} {ys : List V} {x : Value} (hu : P.underlying T = some (.slice e)) (hr : Rep w g (.s t ys) x) (hs : ∀ y ∈ ys, y.cells.length = sz) :
  ∃ news, Src P sz T x ys.length news w ∧ (∀ y ∈ ys, ∀ u ∈ y.cells, u.one = true) ∧ (ys.flatMap V.cells).length = news.length ∧ ∀ (j : Nat) u z, (ys.flatMap V.cells)[j]? = some u → news[j]? = some z → Rep w g.bare u z := by
 cases hr with
 | s0 => exact ⟨[], Src.ofNil w hu 0, by simp, by simp, by simp⟩
 | se a ht => exact ⟨[], Src.ofSlice w hu a 0 0 [] (by simp) (by simp) (by simp), by simp, by simp, by simp⟩
 | @s _ _ _ b off cap size' xs hn hm hp hsz hx hc ht =>
  have hl := flat_len hs
  have hget : ∀ j, j < (ys.flatMap V.cells).length → ((List.range (ys.flatMap V.cells).length).map xs)[j]? = some (xs j) := fun j hj => by rw [List.getElem?_map, List.getElem?_range hj]; rfl
  refine ⟨(List.range (ys.flatMap V.cells).length).map xs, Src.ofSlice w hu _ _ _ _ (by simp only [List.length_map, List.length_range]; exact hl) (fun j u hj => ?_) (fun u hu' => ?_), fun y hy => (hsz y hy).2, by simp, fun j u z hj hz => ?_⟩
  ·have hjl := (List.getElem?_eq_some_iff.1 hj).1
   simp only [List.length_map, List.length_range] at hjl
   rw [hget j hjl] at hj
   cases hj
   rw [Addr.add_lit]
   exact (hx j _ (List.getElem?_eq_getElem hjl)).2.2
  ·obtain ⟨j, hj, rfl⟩ := List.mem_map.1 hu'
   have hjl : j < (ys.flatMap V.cells).length := by simpa using hj
   have hju := List.getElem?_eq_getElem hjl
   obtain ⟨y, hy, hyu⟩ := List.mem_flatMap.1 (List.mem_of_getElem? hju)
   exact (hc j _ hju).oneCell ((hsz y hy).2 _ hyu)
  ·have hjl := (List.getElem?_eq_some_iff.1 hj).1
   rw [hget j hjl] at hz
   cases hz
   exact hc j u hj
theorem rep_src_nil {g : Gh} {w : World} {T e sz : Nat} {x : Value} (hu : P.underlying T = some (.slice e)) (hr : Rep w g .nil x) : Src P sz T x 0 [] w := by
 cases hr with
 | nil => exact Src.ofNil w hu 0
theorem run_storeCells_free (g o : Nat) (t : TypeId) (fz : Nat × Nat) : ∀ (vs : List Value) (i : Nat) (cur : Array Value) (w : World), w.heap[g]? = some (.cells cur t fz) → (fz.2 = fz.1 ∨ cur.size ≤ fz.1) → o + i + vs.length ≤ cur.size → (∀ v ∈ vs, v.oneCell' = true) →
  (storeCells ⟨g, o, none⟩ vs i).run P w = .ok () (w.setRow g (cur.toList.take (o + i) ++ vs ++ cur.toList.drop (o + i + vs.length)).toArray) := by
 intro vs
 induction vs with
 | nil =>
  intro i cur w hg _ _ _
  simp only [storeCells, List.append_nil, List.length_nil, Nat.add_zero, List.take_append_drop, Array.toArray_toList]
  rw [setRow_self w g cur t fz hg]
  rfl
 | cons v rest ih =>
  intro i cur w hg hfz hl h1
  have hi : o + i < cur.size := by simp at hl; omega
  have hadd : (⟨g, o, none⟩ : Addr).add i = ⟨g, o + i, none⟩ := by unfold Addr.add; split <;> simp_all
  have hcell : w.cell? ⟨g, o + i, none⟩ = some cur[o + i] := by simp [World.cell?, hg, hi]
  have hst : (store ((⟨g, o, none⟩ : Addr).add i) v).run P w = .ok () (w.setRow g (cur.setIfInBounds (o + i) v)) := by
   rw [hadd, run_store P w _ v _ (h1 v (by simp)), hcell]
   simp [frozen_oRow hg hfz hi, setCell_eq_setRow w g (o + i) cur t fz v hg]
  have ih := ih (i + 1) (cur.setIfInBounds (o + i) v) (w.setRow g (cur.setIfInBounds (o + i) v)) (setRow_heap w g cur _ t _ hg) (by simpa using hfz) (by simp at hl ⊢; omega) (fun x hx => h1 x (by simp [hx]))
  simp only [storeCells, Sem.run_bind, hst, Result.andThen_ok, ih, setRow_setRow]
  congr 3
  have e := list_seg_step cur.toList (o + i) v rest (by simp at hl ⊢; omega)
  simpa [Array.toList_setIfInBounds, Nat.add_assoc] using e
theorem run_app {T Tx E : Nat} {ei : TI} (hu : P.underlying T = some (.slice E)) (hE : TIok P E ei) (_ : 0 < ei.size) {a : Option Nat} {n c m : Nat} {xs news : List Value} {x : Value} {ty : Nat} {w : World} (hown : w.oRow 0 E ei.size (.slice (a.map fun b => ⟨b, 0, none⟩) n c) n xs)
    (hs : Src P ei.size Tx x m news w) (hmax : n + m ≤ 140737488355328) (hb : (n + m) * ei.bytes ≤ 140737488355328) :
    ∃ v' w', (Builtin.append_ #[T, Tx] ty #[.slice (a.map fun b => ⟨b, 0, none⟩) n c, x]).run P w = .ok v' w' ∧ w'.oRow 0 E ei.size v' (n + m) (xs ++ news) ∧ w.grownBy w' (Value.ownBlock (.slice (a.map fun b => ⟨b, 0, none⟩) n c)) ∧
      (v' = .slice (a.map fun b => ⟨b, 0, none⟩) (n + m) c ∨ (0 < m ∧ ∃ c', v' = .slice (some ⟨w.heap.size, 0, none⟩) (n + m) c' ∧ w.heap.size < w'.heap.size ∧ ∀ k, k < w.heap.size → w'.heap[k]? = w.heap[k]?)) := by
  obtain ⟨i, hi, hsz, hby, z, hz, _, hzs, _⟩ := hE.info
  rw [← hsz] at hs hown hzs ⊢
  rw [← hby] at hb
  have hl := hs.newsLen
  have hlen : (xs ++ news).length = (n + m) * i.size := by rw [List.length_append, hown.1, hl, Nat.add_mul]
  have h63 : n + m ≤ maxLen := by simp only [maxLen]; omega
  have grown : ∀ (old : Nat) (row : Option Nat), old < n + m →
      (w.drew.alloc (.cells ((xs ++ news).toArray ++ Builtin.zeroCells z.cells (grownCap w (n + m) old E - (n + m))) E)).oRow 0 E i.size
        (.slice (some ⟨w.heap.size, 0, none⟩) (n + m) (grownCap w (n + m) old E)) (n + m) (xs ++ news) ∧
      w.grownBy (w.drew.alloc (.cells ((xs ++ news).toArray ++ Builtin.zeroCells z.cells (grownCap w (n + m) old E - (n + m))) E)) row := by
    intro old row ho
    have hge := grownCap_ge w (n + m) old E
    have hcm : grownCap w (n + m) old E ≤ maxLen := grownCap_le_maxLen w (n + m) old E h63
    refine ⟨⟨hlen, .inr ⟨w.heap.size, _, _, _, rfl, Nat.zero_le _, heap_alloc_new w.drew _, hge, hcm, ?_, ?_, .inl rfl⟩⟩, ⟨rfl, rfl, rfl, by simp, fun k hk _ => heap_alloc_old w.drew _ hk⟩⟩
    · simp only [Array.size_append, List.size_toArray, size_zeroCells, hzs, hlen, ← Nat.add_mul]
      congr 1
      omega
    · simp only [Array.toList_append]
      rw [← hlen]
      exact List.take_left
  have hnew : ∀ old, ∀ k, k < w.heap.size → (w.drew.alloc (.cells ((xs ++ news).toArray ++ Builtin.zeroCells z.cells (grownCap w (n + m) old E - (n + m))) E)).heap[k]? = w.heap[k]? := fun old k hk => heap_alloc_old w.drew _ hk
  rcases hown.2 with ⟨hv, hn0⟩ | ⟨g, cap, cur, fz, hv, hbg, hg, hnc, hcm, hcs, htake, hfz⟩
  · subst hn0
    have ha : a = none := by cases a with | none => rfl | some b => simp at hv
    subst ha
    have hc0 : c = 0 := by simpa using hv
    subst hc0
    have hx : xs = [] := List.eq_nil_of_length_eq_zero (by simpa using hown.1)
    subst hx
    rcases Nat.eq_zero_or_pos m with hm | hm
    · subst hm
      have hn : news = [] := List.eq_nil_of_length_eq_zero (by simpa using hl)
      subst hn
      refine ⟨.slice none 0 0, w, ?_, oRow_nil w 0 E i.size, World.grownBy.refl w _, .inl rfl⟩
      have hcl := hs.cells
      rcases hs.kind with ⟨e', hk⟩ | hk <;> simp [Builtin.append_, run_underlying hu, run_underlying hk, sizeOf, typeInfo, hi, hs.len, hcl]
    · have hr := run_append_grow_src (P := P) w T Tx ty E i z hu hi hz none 0 0 [] (by simp [Builtin.firstCells]) x m news hs (by omega) (by omega) (growslice_fits (by omega) hb)
      obtain ⟨g1, g2⟩ := grown 0 (Value.ownBlock (.slice none 0 0)) (by omega)
      exact ⟨_, _, hr, g1, g2, .inr ⟨hm, _, rfl, by simp, hnew 0⟩⟩
  · have ha : a = some g ∧ cap = c := by
      cases a with
      | none => simp at hv
      | some b => simp at hv; exact ⟨by rw [hv.1], hv.2.symm⟩
    obtain ⟨rfl, rfl⟩ := ha
    rcases Nat.lt_or_ge cap (n + m) with hroom | hroom
    · have holds : (Builtin.firstCells i.size n (.slice (some ⟨g, 0, none⟩) n cap)).run P w.drew = .ok xs.toArray w.drew :=
        run_firstCells_some w.drew i.size n ⟨g, 0, none⟩ n cap xs hown.1 (fun j u hj => by simpa using oRow_cells hown (g := g) rfl j u hj)
      have hr := run_append_grow_src (P := P) w T Tx ty E i z hu hi hz (some ⟨g, 0, none⟩) n cap xs holds x m news hs hroom (by omega) (growslice_fits hroom hb)
      obtain ⟨g1, g2⟩ := grown cap (Value.ownBlock (.slice (some ⟨g, 0, none⟩) n cap)) hroom
      exact ⟨_, _, hr, g1, g2, .inr ⟨by omega, _, rfl, by simp, hnew cap⟩⟩
    · have hfit : n * i.size + news.length ≤ cur.size := by rw [hl, hcs, ← Nat.add_mul]; exact Nat.mul_le_mul_right _ hroom
      have hcell : ∀ j, j < news.length → (w.cell? ⟨g, 0 + n * i.size + j, none⟩).isSome = true := fun j hj => by
        rw [cell_of_row w g _ cur E fz hg]
        simp; omega
      have hr := run_append_room_src (P := P) w T Tx ty E i hu hi g 0 n cap x m news hs hroom hcell (fun j hj => frozen_oRow hg (hfz.imp id And.left) (by omega))
      have hw : w.setCells g (0 + n * i.size) news = w.setRow g (cur.toList.take (n * i.size) ++ news ++ cur.toList.drop (n * i.size + news.length)).toArray := by
        have r1 := Lf.run_storeCells_free (P := P) g (n * i.size) E fz news 0 cur w hg (hfz.imp id And.left) (by simpa using hfit) hs.one
        have r2 := run_storeCells_cells (P := P) g (n * i.size) news 0 w (fun j hj => by simpa using hcell j hj) (fun j hj => frozen_oRow hg (hfz.imp id And.left) (by omega)) hs.one
        rw [r1] at r2
        simp only [Nat.add_zero] at r2
        rw [Nat.zero_add]
        exact ((Result.ok.inj r2).2).symm
      rw [hw] at hr
      refine ⟨_, _, hr, ⟨hlen, .inr ⟨g, cap, _, _, rfl, hbg, setRow_heap w g cur _ E _ hg, hroom, hcm, ?_, ?_, hfz.imp id fun h => ⟨?_, h.2⟩⟩⟩, ⟨rfl, rfl, rfl, by simp, fun k _ hk => setRow_other w g k _ (fun e => hk (by simp [Value.ownBlock, e]))⟩, .inl rfl⟩
      · simp only [List.size_toArray, List.length_append, List.length_take, List.length_drop, Array.length_toList]
        omega
      · rw [htake, ← hlen]
        exact List.take_left
      · simp only [List.size_toArray, List.length_append, List.length_take, List.length_drop, Array.length_toList]
        omega
theorem run_app0 {T Tx E : Nat} {ei : TI} (hu : P.underlying T = some (.slice E)) (hE : TIok P E ei) (_ : 0 < ei.size) {ad : Option Addr} {m : Nat} {news : List Value} {x : Value} {ty : Nat} {w : World}
    (hs : Src P ei.size Tx x m news w) (hmax : m ≤ 140737488355328) (hb : m * ei.bytes ≤ 140737488355328) :
    ∃ v' w', (Builtin.append_ #[T, Tx] ty #[.slice ad 0 0, x]).run P w = .ok v' w' ∧ ((m = 0 ∧ v' = .slice ad 0 0 ∧ w' = w) ∨ (0 < m ∧ w'.oRow 0 E ei.size v' (0 + m) ([] ++ news) ∧ w.grownBy w' none ∧
      ∃ c', v' = .slice (some ⟨w.heap.size, 0, none⟩) (0 + m) c' ∧ w.heap.size < w'.heap.size ∧ ∀ k, k < w.heap.size → w'.heap[k]? = w.heap[k]?)) := by
  obtain ⟨i, hi, hsz, hby, z, hz, _, hzs, _⟩ := hE.info
  rw [← hsz] at hs hzs ⊢
  rw [← hby] at hb
  have hl := hs.newsLen
  have h63 : 0 + m ≤ maxLen := by simp only [maxLen]; omega
  rcases Nat.eq_zero_or_pos m with hm | hm
  · subst hm
    have hn : news = [] := List.eq_nil_of_length_eq_zero (by simpa using hl)
    subst hn
    refine ⟨.slice ad 0 0, w, ?_, .inl ⟨rfl, rfl, rfl⟩⟩
    have hcl := hs.cells
    rcases hs.kind with ⟨e', hk⟩ | hk <;> cases ad <;> simp [Builtin.append_, run_underlying hu, run_underlying hk, sizeOf, typeInfo, hi, hs.len, hcl, storeCells]
  · have hfc : (Builtin.firstCells i.size 0 (.slice ad 0 0)).run P w.drew = .ok #[] w.drew := by
      cases ad with
      | none => simp [Builtin.firstCells]
      | some ad => exact run_firstCells_some w.drew i.size 0 ad 0 0 [] (by simp) (fun j u hj => by simp at hj)
    have hr := run_append_grow_src (P := P) w T Tx ty E i z hu hi hz ad 0 0 [] hfc x m news hs (by omega) (by omega) (growslice_fits (by omega) (by rw [Nat.zero_add]; exact hb))
    have hge := grownCap_ge w (0 + m) 0 E
    have hcm : grownCap w (0 + m) 0 E ≤ maxLen := grownCap_le_maxLen w (0 + m) 0 E h63
    have hlen : ([] ++ news).length = (0 + m) * i.size := by simp [hl]
    refine ⟨_, _, hr, .inr ⟨hm, ⟨hlen, .inr ⟨w.heap.size, _, _, _, rfl, Nat.zero_le _, heap_alloc_new w.drew _, hge, hcm, ?_, ?_, .inl rfl⟩⟩, ⟨rfl, rfl, rfl, by simp, fun k hk _ => heap_alloc_old w.drew _ hk⟩, _, rfl, by simp, fun k hk => heap_alloc_old w.drew _ hk⟩⟩
    · simp only [Array.size_append, List.size_toArray, size_zeroCells, hzs, hlen, ← Nat.add_mul]
      congr 1
      omega
    · simp only [Array.toList_append]
      rw [← hlen]
      exact List.take_left
theorem Rep.row {g : Gh} {w : World} {i sz n c : Nat} {a : Option Nat} {es : List V} (hn : es.length = n) (hp : 0 < sz) (hg : g.rw i = some (a, n, c)) {E : Nat} {zs : List Value} (hown : w.oRow 0 E sz (.slice (a.map fun b => ⟨b, 0, none⟩) n c) n zs)
  (hst : ∀ b, a = some b → b < w.heap.size ∧ ∀ o, o < n * sz → g.S b o) (hs : ∀ e ∈ es, e.cells.length = sz ∧ ∀ u ∈ e.cells, u.one = true) (hr : ∀ (j : Nat) u z, (es.flatMap V.cells)[j]? = some u → zs[j]? = some z → Rep w g.bare u z) :
  Rep w g (.s (some i) es) (.slice (a.map fun b => ⟨b, 0, none⟩) n c) := by
 have hfl := flat_len fun e he => (hs e he).1
 subst hn
 cases a with
 | none =>
  obtain ⟨hl, hx⟩ := hown
  rcases hx with ⟨hv, hn⟩ | ⟨g', cap, cur, _, hv, _⟩
  ·have : es = [] := List.eq_nil_of_length_eq_zero hn
   subst this
   have hc0 : c = 0 := by simpa using hv
   subst hc0
   exact .s0 fun r hr' => by cases hr'; exact ⟨none, 0, 0, hg, Nat.le_refl _, fun _ => .inl rfl⟩
  ·simp at hv
 | some b =>
  have hzl := hown.1
  have hcap : es.length ≤ c ∧ c ≤ maxLen := by
   rcases hown.2 with ⟨hv, _⟩ | ⟨g', cap, cur, _, hv, _, _, h1, h2, _⟩
   ·simp at hv
   ·simp at hv; obtain ⟨_, rfl⟩ := hv; exact ⟨h1, h2⟩
  obtain ⟨hb, hSt⟩ := hst b rfl
  refine .s (fun j => zs.getD j undef) hcap.1 hcap.2 hp hs (fun j u hj => ?_) (fun j u hj => ?_) (fun r hr' => by cases hr'; exact ⟨some b, es.length, c, hg, Nat.le_refl _, fun _ => .inl rfl⟩)
  ·have hjl := (List.getElem?_eq_some_iff.1 hj).1
   have hjz : j < zs.length := by omega
   rw [Nat.zero_add]
   refine ⟨hb, hSt j (by omega), ?_⟩
   rw [own_cell hown hjz]
   simp [hjz]
  ·have hjl := (List.getElem?_eq_some_iff.1 hj).1
   have hjz : j < zs.length := by omega
   exact hr j u _ hj (by simp [hjz])
theorem rep_tip {F : Fr0} {g : Gh} {w : World} {mem : Mem} {i E sz : Nat} {es : List V} {x : Value} (hm : RelM F g mem w) (hr : Rep w g (.s (some i) es) x) (hi : aget mem i = some (.r E sz es.length)) (hs : ∀ e ∈ es, e.cells.length = sz) :
  (∃ a c zs, g.rw i = some (a, es.length, c) ∧ x = .slice (a.map fun b => ⟨b, 0, none⟩) es.length c ∧ w.oRow 0 E sz (.slice (a.map fun b => ⟨b, 0, none⟩) es.length c) es.length zs ∧ 0 < sz ∧ (∀ e ∈ es, ∀ u ∈ e.cells, u.one = true) ∧
   ∀ (j : Nat) u z, (es.flatMap V.cells)[j]? = some u → zs[j]? = some z → Rep w g.bare u z) ∨ (es = [] ∧ g.rw i = some (none, 0, 0) ∧ 0 < sz ∧ ∃ ad, x = .slice ad 0 0) := by
 obtain ⟨a, c, e1, hR⟩ := hm.row hi
 obtain ⟨zs, hown⟩ := hR.own
 cases hr with
 | s0 ht =>
  obtain ⟨a', l', c', h1, h2, h3⟩ := ht i rfl
  rw [e1] at h1; cases h1
  rcases h3 rfl with h3 | ⟨rfl, _, rfl, _⟩
  ·exact .inl ⟨a, c, zs, e1, h3, hown, hR.pos, by simp, by simp⟩
  ·exact .inr ⟨rfl, e1, hR.pos, none, rfl⟩
 | se ad ht =>
  obtain ⟨a', l', c', h1, h2, h3⟩ := ht i rfl
  rw [e1] at h1; cases h1
  rcases h3 rfl with h3 | ⟨rfl, _, rfl, _⟩
  ·exact .inl ⟨a, c, zs, e1, h3, hown, hR.pos, by simp, by simp⟩
  ·exact .inr ⟨rfl, e1, hR.pos, some ad, rfl⟩
 | @s _ _ _ b off cap size xs hn hmx hp hsz hx hc ht =>
  obtain ⟨a', l', c', h1, h2, h3⟩ := ht i rfl
  rw [e1] at h1; cases h1
  rcases h3 rfl with h4 | ⟨rfl, hl0, rfl, _⟩
  case inr =>
   rename_i h5
   obtain ⟨ad, h5⟩ := h5
   simp only [Value.slice.injEq] at h5
   exact .inr ⟨List.eq_nil_of_length_eq_zero hl0, by rw [hl0] at e1; exact e1, hR.pos, _, by rw [h5.2.2, hl0]⟩
  refine .inl ⟨a, c, zs, e1, h4, hown, hR.pos, fun e he => (hsz e he).2, fun j u z hj hz => ?_⟩
  cases a with
  | none => simp at h4
  | some b' =>
   simp at h4
   obtain ⟨⟨rfl, rfl⟩, rfl⟩ := h4
   have hjz := (List.getElem?_eq_some_iff.1 hz).1
   have hcz := own_cell hown hjz
   have h5 := (hx j u hj).2.2
   rw [Nat.zero_add, hcz] at h5
   have : z = xs j := by rw [List.getElem?_eq_getElem hjz] at hz; cases hz; exact Option.some.inj h5
   rw [this]
   exact hc j u hj
theorem Does.app {T Tx E Ex i sz : Nat} {x y : Operand} {t : Option Nat} {es ys : List V} {mem0 : Mem} (X : TOk P) {ti xi ei : TI} (ho : o.op = .call { callee := .builtin .append, args := #[x, y], argTypes := #[T, Tx] }) (hx : evo env x = some (.s (some i) es)) (hy : evo env y = some (.s t ys))
  (_hm : aget mem0 i = some (.r E sz es.length)) (hT : aget X.tab T = some ti) (hd : ti.d = .sl E) (hE : aget X.tab E = some ei) (hsz : ei.size = sz) (hX : aget X.tab Tx = some xi) (hdx : xi.d = .sl Ex)
  (hes : ∀ e ∈ es, e.cells.length = sz) (hys : ∀ e ∈ ys, e.cells.length = sz) {n : Nat} (hn : es.length + ys.length = n) (hmax : n ≤ 140737488355328) (hb : n * ei.bytes ≤ 140737488355328) :
  Does P o env (.s (some i) (es ++ ys)) [(i, some (.r E sz es.length), some (.r E sz n))] := by
 refine ⟨fun F g a w mem h1 h2 h3 h4 _ K Q hK => ?_⟩
 subst hn
 have hi := h4 _ _ _ mem_one
 have hrx := h1 x (by simp [ho, Op.operands, Call.operands]) _ hx
 have hry := h1 y (by simp [ho, Op.operands, Call.operands]) _ hy
 obtain ⟨news, hsrc, hone2, hfl, hrep2⟩ := rep_src (P := P) ((X.get hX).sl hdx) hry hys
 subst hsz
 rcases rep_tip h2 hrx hi hes with ⟨ao, c, zs, e1, e2, hown, hp, hone, hrep⟩ | ⟨rfl, e1, hp, ad, e2⟩
 case inr =>
  simp only [List.length_nil, Nat.zero_add, List.nil_append] at hmax hb hi hK ⊢
  obtain ⟨v', w', hrun, hres⟩ := run_app0 (P := P) (ty := o.type) (ad := ad) ((X.get hT).sl hd) (X.get hE) hp hsrc hmax hb
  have hrun' : (execOp a.eval o).run P w = .ok (.value v') w' := by
   simp [execOp, ho, resolve, invoke, builtin, e2, hrun]
  unfold Oper.wp
  rw [hrun']
  rcases hres with ⟨hm0, rfl, rfl⟩ | ⟨hm0, hown', hg, hv⟩
  ·have : ys = [] := List.eq_nil_of_length_eq_zero hm0
   subst this
   refine hK _ g _ (Ev.refl g _) (h2.congr fun j => ?_) h3 ?_
   ·simp only [tset, aget_cons]
    split
    ·rename_i e; subst e; exact hi
    ·rfl
   ·rw [← e2]; exact hrx
  ·have hg0 : Value.ownBlock (.slice (Option.map (fun b => (⟨b, 0, none⟩ : Addr)) none) 0 0) = none := rfl
   obtain ⟨g', a', c', rfl, k1, k2, k3, k4, k5⟩ := h2.grow (n := 0) (m := ys.length) (a := none) (c := 0) (xs := []) h3 hi e1 (oRow_nil w 0 E ei.size) hown' (by rw [hg0]; exact hg) (.inr ⟨hm0, hv⟩)
   rw [Nat.zero_add] at k1 k3 k5
   refine hK _ g' w' k2 (by simpa [tset] using k3) k4 ?_
   rw [Nat.zero_add] at hown' ⊢
   exact Rep.row rfl hp k1 hown' k5 (fun e he => ⟨hys e he, hone2 e he⟩) (fun j u z hj hz => (hrep2 j u z hj (by simpa using hz)).mono k2.bare)
 obtain ⟨v', w', hrun, hown', hg, hv⟩ := run_app (P := P) (ty := o.type) ((X.get hT).sl hd) (X.get hE) hp hown hsrc hmax hb
 obtain ⟨g', a', c', rfl, k1, k2, k3, k4, k5⟩ := h2.grow h3 hi e1 hown hown' hg hv
 unfold Oper.wp
 have hrun' : (execOp a.eval o).run P w = .ok (.value (.slice (Option.map (fun b => ⟨b, 0, none⟩) a') (es.length + ys.length) c')) w' := by
  rw [← e2] at hrun
  simp [execOp, ho, resolve, invoke, builtin, hrun]
 rw [hrun']
 refine hK _ g' w' k2 k3 k4 (Rep.row (by simp) hp k1 hown' k5 (fun e he => ?_) (fun j u z hj hz => ?_))
 ·rcases List.mem_append.1 he with he | he
  ·exact ⟨hes e he, hone e he⟩
  ·exact ⟨hys e he, hone2 e he⟩
 ·have hfe : (es.flatMap V.cells).length = zs.length := by rw [flat_len hes, hown.1]
  rw [List.flatMap_append] at hj
  rcases Nat.lt_or_ge j zs.length with hlt | hge
  ·rw [List.getElem?_append_left (by omega)] at hj
   rw [List.getElem?_append_left hlt] at hz
   exact (hrep j u z hj hz).mono k2.bare
  ·rw [List.getElem?_append_right (by omega)] at hj
   rw [List.getElem?_append_right hge, ← hfe] at hz
   exact (hrep2 _ u z hj hz).mono k2.bare
end
end Lf
end Go.Proofs.YtpaafpmofhajfaaGreatDoor

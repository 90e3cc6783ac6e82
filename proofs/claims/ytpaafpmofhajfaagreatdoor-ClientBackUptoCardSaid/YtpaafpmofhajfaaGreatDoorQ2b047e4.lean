/- A part of the proof: texts joined. -/
import Derived.Scope
import Derived.OrdersIn
import Derived.TacticsIn
import Derived.LoopNIn
import Derived.RangeFuncRecord
import Derived.RangeFuncSeq
import Derived.Great.BuildSlice
import Derived.LoopN
import Derived.Laws.Externs
import Derived.Lib.Hide
import Derived.Laws.Bits64b
import Derived.Laws.StructEq
import Derived.Test.YtpaafpmofhajfaaGreatDoorQ1023d0c
set_option linter.unusedVariables false
set_option linter.unusedSimpArgs false
namespace Go.Proofs.YtpaafpmofhajfaaGreatDoor
open Go.RowKit Rg
namespace Lf
inductive LE where
 | normal | exit (id : Nat) | goto (l : Nat) | ret | pan (v : V)
def LE.At (w : World) (g : Gh) : LE → Exit → Prop
 | .normal, e => e = .normal
 | .exit id, e => e = .exit id
 | .goto l, e => e = .goto l
 | .ret, e => e = .ret
 | .pan v, e => ∃ x, e = .panic [{ v := x, recovered := false }] ∧ Rep w g v x
abbrev LQ := LE → Env → Mem → Prop
def markD (D : Nat) : Deferred := { target := .collected D, args := #[] }
structure Fr0.Ext (F F' : Fr0) : Prop where
 same : F.lm = false → F' = F
 lm : F'.lm = F.lm
 ro : F'.ro = F.ro
 bx : F'.bx0 = F.bx0
 rw : F'.rw0 = F.rw0
 wr : ∀ b o, F'.wr b o → F.wr b o
 sz : F.w0.heap.size ≤ F'.w0.heap.size
 loc : ∀ g, LocOk F' g → LocOk F g
 kept : ∀ g w, Kept F' g w → Kept F g w
 D : ∃ ms : List Nat, F'.D = ms.map markD ++ F.D ∧ ms.Nodup ∧ ∀ D ∈ ms, F.w0.heap.size ≤ D ∧ D < F'.w0.heap.size ∧ (∀ o, ¬ F'.wr D o) ∧ F'.w0.heap[D]? = some (.deferred (some []))
theorem Fr0.Ext.refl (F : Fr0) : F.Ext F := ⟨fun _ => rfl, rfl, rfl, rfl, rfl, fun _ _ h => h, Nat.le_refl _, fun _ h => h, fun _ _ h => h, [], rfl, .nil, fun _ h => by cases h⟩
theorem Fr0.Ext.trans {F F' F'' : Fr0} (h : F.Ext F') (k : F'.Ext F'') : F.Ext F'' := by
 obtain ⟨ms, e1, n1, h1⟩ := h.D
 obtain ⟨ns, e2, n2, h2⟩ := k.D
 refine ⟨fun e => (k.same (h.lm.trans e)).trans (h.same e), k.lm.trans h.lm, k.ro.trans h.ro, k.bx.trans h.bx, k.rw.trans h.rw, fun b o hb => h.wr b o (k.wr b o hb), Nat.le_trans h.sz k.sz, fun g hg => h.loc g (k.loc g hg), fun g w hg => h.kept g w (k.kept g w hg), ns ++ ms, ?_, ?_, fun D hD => ?_⟩
 ·rw [e2, e1]; simp
 ·refine List.nodup_append.2 ⟨n2, n1, fun a ha b hb e => ?_⟩
  subst e
  have := (h2 a ha).1
  have := (h1 a hb).2.1
  omega
 ·rcases List.mem_append.1 hD with hD | hD
  ·obtain ⟨a1, a2, a3, a4⟩ := h2 D hD
   exact ⟨Nat.le_trans h.sz a1, a2, a3, a4⟩
  ·obtain ⟨a1, a2, a3, a4⟩ := h1 D hD
   refine ⟨a1, Nat.lt_of_lt_of_le a2 k.sz, fun o ho => a3 o (k.wr D o ho), ?_⟩
   have hk : Kept F' ⟨F''.S0, F''.bx0, F''.rw0⟩ F''.w0 := k.kept _ _ ⟨rfl, rfl, rfl, Nat.le_refl _, fun _ _ _ => rfl, fun _ _ _ _ => ⟨rfl, rfl⟩, fun _ _ _ _ h => h, fun _ _ _ h => h, fun _ _ _ _ => rfl⟩
   rw [hk.blk D a2 fun o ho => a3 o (.inr ho)]
   exact a4
theorem Fr0.Ext.fz {F F' : Fr0} (h : F.Ext F') : F'.fz = F.fz := by unfold Fr0.fz; rw [h.ro]
theorem Fr0.Ext.relM {F F' : Fr0} (h : F.Ext F') {g : Gh} {mem : Mem} {w : World} (hm : RelM F' g mem w) : RelM F g mem w :=
 ⟨hm.ob, fun i m b o hi hp => h.wr b o (hm.wr i m b o hi hp), hm.dj, hm.nbx, hm.nrw, hm.fut, h.loc g hm.loc⟩
def liftQ (F : Fr0) (N : Nat) (Q : LQ) : Exit → Act → World → Prop := fun e a w => ∃ F1, F.Ext F1 ∧ ∃ env mem g le, Rel F1 N g env mem a w ∧ le.At w g e ∧ Q le env mem
theorem liftQ_ext {F F' : Fr0} (h : F.Ext F') {N : Nat} {Q : LQ} {e : Exit} {a : Act} {w : World} (hq : liftQ F' N Q e a w) : liftQ F N Q e a w := by
 obtain ⟨F1, h1, r⟩ := hq
 exact ⟨F1, h.trans h1, r⟩
structure LC (P : Program) (F : Fr0) (N : Nat) (c : Code) (Q : LQ) (env : Env) (mem : Mem) : Prop where
 go : ∀ F0, F.Ext F0 → ∀ g a w, Rel F0 N g env mem a w → c.wpIn F0.fz 0 P (liftQ F0 N Q) a w
structure LS (P : Program) (F : Fr0) (N : Nat) (ops : Array Oper) (l : List Oper) (Q : LQ) (env : Env) (mem : Mem) : Prop where
 go : ∀ F0, F.Ext F0 → ∀ g a w, Rel F0 N g env mem a w → wpListIn F0.fz 0 P ops (liftQ F0 N Q) l a w
theorem LC.run {P : Program} {F F0 F1 : Fr0} {N : Nat} {c : Code} {Q : LQ} {env : Env} {mem : Mem} (h : LC P F N c Q env mem) (hx : F.Ext F0) (hy : F0.Ext F1) {g : Gh} {a : Act} {w : World} (hr : Rel F1 N g env mem a w) : c.wpIn F0.fz 0 P (liftQ F0 N Q) a w := by
 rw [← hy.fz]
 exact wpIn_mono (h.go F1 (hx.trans hy) g a w hr) fun _ _ _ hq => liftQ_ext hy hq
def LThen (next : Env → Mem → Prop) (Q : LQ) : LQ
 | .normal, env, mem => next env mem
 | e, env, mem => Q e env mem
def LBlk (id : Nat) (Q : LQ) : LQ
 | .exit id', env, mem => cond (Nat.beq id' id) (Q .normal env mem) (Q (.exit id') env mem)
 | e, env, mem => Q e env mem
def LNoGoto (Q : LQ) : LQ
 | .goto _, _, _ => False
 | e, env, mem => Q e env mem
def bind (d : Option Nat) (v : V) (env : Env) : Env :=
 match d with
 | some d => (d, v) :: env
 | none => env
def dok (d : Option Nat) (N : Nat) : Bool :=
 match d with
 | some d => Nat.blt d N
 | none => true
def gd (ops : Array Oper) (env : Env) (o : Oper) : Option Bool :=
 match o.guard with
 | none => some true
 | some (j, want) =>
  match (ops[j]?).bind (·.dst) with
  | some d =>
   match aget env d with
   | some (.k (.bool b)) => some (b == want)
   | some (.k (.tuple _)) => some false
   | _ => none
  | none => none
theorem gd_wanted {F : Fr0} {N : Nat} {g : Gh} {env : Env} {mem : Mem} {a : Act} {w : World} {ops : Array Oper} {o : Oper} {b : Bool} (h : Rel F N g env mem a w) (hg : gd ops env o = some b) : Region.wanted o (yielded ops a.tmps) = b := by
 unfold gd at hg
 unfold Region.wanted
 split at hg
 ·rename_i hn; rw [hn]; cases hg; rfl
 ·rename_i j want hn
  rw [hn]
  simp only
  unfold yielded
  split at hg
  ·rename_i d hd
   rw [hd]
   simp only [Option.bind_some]
   split at hg
   ·rename_i c hc
    cases hg
    obtain ⟨x, h1, h2⟩ := h.env d _ hc
    rw [h1, rep_k h2]
    cases c <;> cases want <;> rfl
   ·rename_i c hc
    cases hg
    obtain ⟨x, h1, h2⟩ := h.env d _ hc
    rw [h1, rep_k h2]
    rfl
   ·cases hg
  ·cases hg
theorem rows_in {F : Fr0} {n : Nat} {P : Program} {row : String} {args : Array Value} {w : World} {R : Value → World → Prop} (h : Rows P row args w R) : RowsIn F.fz n P row args w R :=
 fun c cs _ => let ⟨v, w', r, s⟩ := h c cs; ⟨v, w', r, (stepsIn_wide (P := P)).2 s⟩
theorem calls_in {F : Fr0} {n : Nat} {P : Program} {f : FuncId} {args : Array Value} {w : World} {R : Ending → World → Prop} (h : Calls P f args w R) : CallsIn F.fz n P f args w R := (callsIn_wide (n := n)).2 h
theorem op_in {F : Fr0} {P : Program} {o : Oper} {a : Act} {w : World} {K : Act → World → Prop} {Q : Exit → Act → World → Prop} (h : o.wp P a w K Q) (hd : ∀ c, o.op ≠ .defer c) : o.wpIn F.fz 0 P a w K Q := by
 refine ⟨fun _ _ => trivial, ?_⟩
 rw [Oper.semAt_eq _ _ _ hd]
 unfold Oper.wp at h
 generalize (execOp a.eval o).run P w = r at *
 cases r with
 | ok n w' =>
  cases n <;> simp only [Oper.upon] at h <;> simp only [Oper.uponIn]
  case value v => exact h
  case skip => exact h
  case defer d => exact h
  case enter f args => exact ⟨fun h => (by cases h), calls_in (Calls.mono h fun e w'' he => (by cases e <;> exact he))⟩
  case row row args => exact ⟨fun h => (by cases h), rows_in h⟩
 | halt x w' =>
  cases x <;> simp only [Oper.upon] at h <;> simp only [Oper.uponIn]
  case panic v => exact h
theorem exec_defer {P : Program} {o : Oper} {c : Call} (ho : o.op = .defer c) (ρ : Operand → Value) (w : World) : (∃ d w', (execOp ρ o).run P w = .ok (.defer d) w') ∨ ∃ x w', (execOp ρ o).run P w = .halt x w' := by
 simp only [execOp, ho, Sem.run_bind]
 cases (resolve ρ c o.type).run P w with
 | ok d w' => exact .inl ⟨d, w', by simp [Result.andThen]⟩
 | halt x w' => exact .inr ⟨x, w', by simp [Result.andThen]⟩
section
variable {P : Program} {F : Fence} {n : Nat} {b : Frame} {a : Act} {k : List Item} {cs : List Frame} {w : World} {Q : Exit → Act → World → Prop}
theorem stepR_scope {c : Code} : step P (lone (b.atR a (.code (.scope c) :: k)) cs w) = .next (lone (b.atR a (.code c :: .inScope c :: k)) cs w) :=
 step_lone_go (by simp [stepG, stepG.exec, Frame.atR])
theorem stepR_inScope {c : Code} : step P (lone (b.atR a (.inScope c :: k)) cs w) = .next (lone (b.atR a k) cs w) :=
 step_lone_go (by simp [stepG, stepG.exec, Frame.atR])
theorem wpIn_scope_straight {c : Code} (h : c.wpIn F n P (Exit.noGoto Q) a w) : (Code.scope c).wpIn F n P Q a w := by
 intro b k cs hro hb hr
 have h0 : (lone (b.atR a (.code (.scope c) :: k)) cs w).fenced P F := fenced_calm hb hr rfl
 obtain ⟨e, a₁, w₁, hq, harr⟩ := h b (.inScope c :: k) cs hro hb hr
 cases e with
 | normal => exact ⟨.normal, a₁, w₁, hq, .head h0 stepR_scope (StepsIn.trans harr (.one (fenced_calm hb hr rfl) stepR_inScope))⟩
 | exit id =>
  have hx : exitTo id (.inScope c :: k) = exitTo id k := by simp [exitTo]
  exact ⟨.exit id, a₁, w₁, hq, fun k' hk => .head h0 stepR_scope (harr.1 k' (by rw [hx]; exact hk)),
   fun hr' hk => let ⟨k₁, h1, h2⟩ := harr.2 hr' (by rw [hx]; exact hk); ⟨k₁, h1, .head h0 stepR_scope h2⟩⟩
 | goto l => exact hq.elim
 | ret => exact ⟨_, a₁, w₁, hq, .of_steps (.one h0 stepR_scope) harr⟩
 | panic ch => exact ⟨_, a₁, w₁, hq, .of_steps (.one h0 stepR_scope) harr⟩
 | outgrown => exact ⟨_, a₁, w₁, hq, .of_steps (.one h0 stepR_scope) harr⟩
end
section
variable {P : Program} {F : Fr0} {N : Nat} {Q : LQ} {env : Env} {mem : Mem}
theorem LC.mono {c : Code} {Q' : LQ} (h : LC P F N c Q env mem) (hq : ∀ e env mem, Q e env mem → Q' e env mem) : LC P F N c Q' env mem := ⟨fun F0 hx g a w hr =>
 wpIn_mono (h.go F0 hx g a w hr) fun _ _ _ ⟨F1, hy, en, me, g', le, h1, h3, h2⟩ => ⟨F1, hy, en, me, g', le, h1, h3, hq _ _ _ h2⟩⟩
theorem LC.skip (h : Q .normal env mem) : LC P F N .skip Q env mem := ⟨fun F0 _hx g _ _ hr => wpIn_skip ⟨F0, .refl _, env, mem, g, .normal, hr, rfl, h⟩⟩
theorem LC.label {l : Nat} (h : Q .normal env mem) : LC P F N (.label l) Q env mem := ⟨fun F0 _hx g _ _ hr => wpIn_label ⟨F0, .refl _, env, mem, g, .normal, hr, rfl, h⟩⟩
theorem LC.exit {id : Nat} (h : Q (.exit id) env mem) : LC P F N (.exit id) Q env mem := ⟨fun F0 _hx g _ _ hr => wpIn_exit ⟨F0, .refl _, env, mem, g, .exit id, hr, rfl, h⟩⟩
theorem LC.ret (h : Q .ret env mem) : LC P F N .ret Q env mem := ⟨fun F0 _hx g _ _ hr => wpIn_ret ⟨F0, .refl _, env, mem, g, .ret, hr, rfl, h⟩⟩
theorem LC.seq {x y : Code} (h : LC P F N x (LThen (fun env mem => LC P F N y Q env mem) Q) env mem) : LC P F N (.seq x y) Q env mem := ⟨fun F0 hx g a w hr =>
 wpIn_seq (wpIn_mono (h.go F0 hx g a w hr) fun e a' w' ⟨F1, hy, en, me, g', le, h1, h3, h2⟩ => by
  cases le with
  | normal => cases h3; exact LC.run h2 hx hy h1
  | pan v => obtain ⟨x, rfl, hx⟩ := h3; exact ⟨F1, hy, en, me, g', .pan v, h1, ⟨x, rfl, hx⟩, h2⟩
  | exit id => cases h3; exact ⟨F1, hy, en, me, g', .exit id, h1, rfl, h2⟩
  | goto id => cases h3; exact ⟨F1, hy, en, me, g', .goto id, h1, rfl, h2⟩
  | ret => cases h3; exact ⟨F1, hy, en, me, g', .ret, h1, rfl, h2⟩)⟩
theorem LC.cond {c : Operand} {x y : Code} {b : Bool} (hc : evo env c = some (.k (.bool b))) (h1 : b = true → LC P F N x Q env mem) (h2 : b = false → LC P F N y Q env mem) : LC P F N (.cond c x y) Q env mem := ⟨fun F0 hx g a w hr =>
 wpIn_cond_split (rep_k (hr.evo hc)) (fun hb => (h1 hb).go F0 hx g a w hr) (fun hb => (h2 hb).go F0 hx g a w hr)⟩
theorem LC.condT {c : Operand} {x y : Code} (hc : evo env c = some (.k (.bool true))) (h1 : LC P F N x Q env mem) : LC P F N (.cond c x y) Q env mem := .cond hc (fun _ => h1) (fun h => by cases h)
theorem LC.condF {c : Operand} {x y : Code} (hc : evo env c = some (.k (.bool false))) (h1 : LC P F N y Q env mem) : LC P F N (.cond c x y) Q env mem := .cond hc (fun h => by cases h) (fun _ => h1)
theorem LC.block {id : Nat} {c : Code} (h : LC P F N c (LBlk id Q) env mem) : LC P F N (.block id c) Q env mem := ⟨fun F0 hx g a w hr =>
 wpIn_block (wpIn_mono (h.go F0 hx g a w hr) fun e a' w' ⟨F1, hy, en, me, g', le, h1, h3, h2⟩ => by
  cases le with
  | exit id' =>
   cases h3
   simp only [LBlk] at h2
   simp only [Exit.inBlock]
   cases hb : Nat.beq id' id
   ·rw [hb] at h2
    have : ¬ id' = id := fun e => by subst e; rw [Nat.beq_refl] at hb; cases hb
    rw [if_neg this]
    exact ⟨F1, hy, en, me, g', .exit id', h1, rfl, h2⟩
   ·rw [hb] at h2
    rw [if_pos (Nat.eq_of_beq_eq_true hb)]
    exact ⟨F1, hy, en, me, g', .normal, h1, rfl, h2⟩
  | normal => cases h3; exact ⟨F1, hy, en, me, g', .normal, h1, rfl, h2⟩
  | pan v => obtain ⟨x, rfl, hx⟩ := h3; exact ⟨F1, hy, en, me, g', .pan v, h1, ⟨x, rfl, hx⟩, h2⟩
  | goto id => cases h3; exact ⟨F1, hy, en, me, g', .goto id, h1, rfl, h2⟩
  | ret => cases h3; exact ⟨F1, hy, en, me, g', .ret, h1, rfl, h2⟩)⟩
theorem LC.scope {c : Code} (h : LC P F N c (LNoGoto Q) env mem) : LC P F N (.scope c) Q env mem := ⟨fun F0 hx g a w hr =>
 wpIn_scope_straight (wpIn_mono (h.go F0 hx g a w hr) fun e a' w' ⟨F1, hy, en, me, g', le, h1, h3, h2⟩ => by
  cases le with
  | goto l => exact h2.elim
  | normal => cases h3; exact ⟨F1, hy, en, me, g', .normal, h1, rfl, h2⟩
  | pan v => obtain ⟨x, rfl, hx⟩ := h3; exact ⟨F1, hy, en, me, g', .pan v, h1, ⟨x, rfl, hx⟩, h2⟩
  | exit id => cases h3; exact ⟨F1, hy, en, me, g', .exit id, h1, rfl, h2⟩
  | ret => cases h3; exact ⟨F1, hy, en, me, g', .ret, h1, rfl, h2⟩)⟩
theorem LC.region {id : Nat} {l : List Oper} (h : LS P F N l.toArray l Q env mem) : LC P F N (.region id l.toArray false) Q env mem := ⟨fun F0 hx g a w hr => wpIn_region_lit (h.go F0 hx g a w hr)⟩
theorem LS.nil {ops : Array Oper} (h : Q .normal env mem) : LS P F N ops [] Q env mem := ⟨fun F0 _hx g _ _ hr => ⟨F0, .refl _, env, mem, g, .normal, hr, rfl, h⟩⟩
theorem Rel.put {g g' : Gh} {a : Act} {w w' : World} {mem' : Mem} {d : Option Nat} {v : V} {x : Value} (h : Rel F N g env mem a w) (he : Ev g w g' w') (hm : RelM F g' mem' w') (hk : Kept F g' w') (hr : Rep w' g' v x) (hd : dok d N = true) : Rel F N g' (bind d v env) mem' (a.put d x) w' := by
 cases d with
 | none =>
  exact ⟨fun t u hu => by obtain ⟨y, h1, h2⟩ := h.env t u hu; exact ⟨y, h1, h2.mono he⟩, hm, hk, h.defers, h.size, h.big⟩
 | some d =>
  have hdN : d < N := Nat.le_of_ble_eq_true hd
  refine ⟨fun t u hu => ?_, hm, hk, h.defers, by simp [Act.put, h.size], h.big⟩
  simp only [bind, aget_cons] at hu
  split at hu
  ·rename_i e; subst e; cases hu
   exact ⟨x, by simp [Act.put, h.size, hdN], hr⟩
  ·rename_i e
   obtain ⟨y, h1, h2⟩ := h.env t u hu
   exact ⟨y, by simp only [Act.put]; rw [Array.getElem?_setIfInBounds_ne e]; exact h1, h2.mono he⟩
theorem Does.noDefer {o : Oper} {v : V} {t : Tch} (h : Does P o env v t) {g : Gh} {a : Act} {w : World} (hr : Rel F N g env mem a w) (ht : tpre t mem) : ∀ c, o.op ≠ .defer c := by
 intro c ho
 have h1 := h.ex F g a w mem (fun _ _ _ hu => hr.evo hu) hr.mem hr.kept ht hr.defers (fun a' _ => a'.defers = a.defers) (fun _ _ _ => False) fun _ _ _ _ _ _ _ => by cases hd : o.dst <;> simp [Act.put]
 unfold Oper.wp at h1
 rcases exec_defer (P := P) ho a.eval w with ⟨d, w', e⟩ | ⟨x, w', e⟩
 ·rw [e, Oper.upon_defer] at h1
  have h2 : (d :: a.defers) = a.defers := by
   cases hd : o.dst with
   | none => rw [hd] at h1; exact h1
   | some d0 => rw [hd] at h1; exact h1
  exact absurd (congrArg List.length h2) (by simp)
 ·rw [e] at h1
  cases x <;> exact h1.elim
theorem Does.run {o : Oper} {v : V} {t : Tch} (h : Does P o env v t) {g : Gh} {a : Act} {w : World} (hr : Rel F N g env mem a w) (ht : tpre t mem) (hd : dok o.dst N = true) {K : Act → World → Prop} {Q' : Exit → Act → World → Prop}
  (hK : ∀ g' a' w', Rel F N g' (bind o.dst v env) (tset t mem) a' w' → K a' w') : o.wpIn F.fz 0 P a w K Q' :=
 op_in (h.ex F g a w mem (fun _ _ _ hu => hr.evo hu) hr.mem hr.kept ht hr.defers K Q' fun _ _ _ he hm hk hx => hK _ _ _ (hr.put he hm hk hx hd)) (h.noDefer hr ht)
structure DoesF (P : Program) (F : Fr0) (o : Oper) (env : Env) (v : V) (t : Tch) : Prop where
 ex : ∀ F0, F.Ext F0 → ∀ (g : Gh) (a : Act) (w : World) (mem : Mem), (∀ x ∈ o.op.operands.toList, ∀ u, evo env x = some u → Rep w g u (a.eval x)) → RelM F0 g mem w → Kept F0 g w → tpre t mem → a.defers = F0.D →
  ∀ (K : Act → World → Prop) (Q : Exit → Act → World → Prop), (∀ x g' w', Ev g w g' w' → RelM F0 g' (tset t mem) w' → Kept F0 g' w' → Rep w' g' v x → K (a.put o.dst x) w') → o.wpIn F0.fz 0 P a w K Q
theorem Does.toF {o : Oper} {v : V} {t : Tch} (h : Does P o env v t) : DoesF P F o env v t := by
 refine ⟨fun F0 _ g a w mem h1 h2 h3 h4 h5 K Q hK => op_in (h.ex F0 g a w mem h1 h2 h3 h4 h5 K Q hK) ?_⟩
 intro c ho
 have h6 := h.ex F0 g a w mem h1 h2 h3 h4 h5 (fun a' _ => a'.defers = a.defers) (fun _ _ _ => False) fun _ _ _ _ _ _ _ => by cases hd : o.dst <;> simp [Act.put]
 unfold Oper.wp at h6
 rcases exec_defer (P := P) ho a.eval w with ⟨d, w', e⟩ | ⟨x, w', e⟩
 ·rw [e, Oper.upon_defer] at h6
  have h7 : (d :: a.defers) = a.defers := by
   cases hd : o.dst with
   | none => rw [hd] at h6; exact h6
   | some d0 => rw [hd] at h6; exact h6
  exact absurd (congrArg List.length h7) (by simp)
 ·rw [e] at h6
  cases x <;> exact h6.elim
theorem DoesF.run {o : Oper} {v : V} {t : Tch} (h : DoesF P F o env v t) {F0 : Fr0} (hx : F.Ext F0) {g : Gh} {a : Act} {w : World} (hr : Rel F0 N g env mem a w) (ht : tpre t mem) (hd : dok o.dst N = true) {K : Act → World → Prop} {Q' : Exit → Act → World → Prop}
  (hK : ∀ g' a' w', Rel F0 N g' (bind o.dst v env) (tset t mem) a' w' → K a' w') : o.wpIn F0.fz 0 P a w K Q' :=
 h.ex F0 hx g a w mem (fun _ _ _ hu => hr.evo hu) hr.mem hr.kept ht hr.defers K Q' fun _ _ _ he hm hk hx => hK _ _ _ (hr.put he hm hk hx hd)
theorem LS.step {ops : Array Oper} {o : Oper} {r : List Oper} {v : V} {t : Tch} (hg : gd ops env o = some true) (h : Does P o env v t) (ht : tpre t mem) (hd : dok o.dst N = true) (hK : LS P F N ops r Q (bind o.dst v env) (tset t mem)) : LS P F N ops (o :: r) Q env mem := ⟨fun F0 hx g a w hr =>
 wpListIn_step fun _ hK' => by
  rw [gd_wanted hr hg, if_pos rfl]
  exact h.run hr ht hd fun g' a' w' hr' => hK' a' w' (hK.go F0 hx g' a' w' hr')⟩
theorem LS.pass {ops : Array Oper} {o : Oper} {r : List Oper} (hg : gd ops env o = some false) (hd : dok o.dst N = true) (hK : LS P F N ops r Q (bind o.dst (.k undef) env) mem) : LS P F N ops (o :: r) Q env mem := ⟨fun F0 hx g a w hr =>
 wpListIn_step fun _ hK' => by
  rw [gd_wanted hr hg]
  exact ⟨fun _ _ => trivial, hK' _ _ (hK.go F0 hx g _ w (hr.put (Ev.refl g w) hr.mem hr.kept (.k undef) hd))⟩⟩
theorem LS.stepF {ops : Array Oper} {o : Oper} {r : List Oper} {v : V} {t : Tch} (hg : gd ops env o = some true) (h : DoesF P F o env v t) (ht : tpre t mem) (hd : dok o.dst N = true) (hK : LS P F N ops r Q (bind o.dst v env) (tset t mem)) : LS P F N ops (o :: r) Q env mem := ⟨fun F0 hx g a w hr =>
 wpListIn_step fun _ hK' => by
  rw [gd_wanted hr hg, if_pos rfl]
  exact h.run hx hr ht hd fun g' a' w' hr' => hK' a' w' (hK.go F0 hx g' a' w' hr')⟩
theorem tpre_nil : tpre [] mem := fun _ _ _ h => by cases h
theorem tpre_one {i : Nat} {m m' : Option M} (h : aget mem i = m) : tpre [(i, m, m')] mem := fun j n n' hj => by
 rw [List.mem_singleton] at hj; cases hj; exact h
theorem tpre_two {i i2 : Nat} {m m' n n' : Option M} (h : aget mem i = m) (h2 : aget mem i2 = n) : tpre [(i, m, m'), (i2, n, n')] mem := fun j _ _ hj => by
 simp only [List.mem_cons, List.not_mem_nil, or_false] at hj
 rcases hj with hj | hj <;> cases hj
 ·exact h
 ·exact h2
def SubE (env : Env) : Env → Prop
 | [] => True
 | (t, v) :: r => aget env t = some v ∧ SubE env r
def SubM (mem : Mem) : Mem → Prop
 | [] => True
 | (i, m) :: r => aget mem i = some m ∧ SubM mem r
theorem SubE.get {env' : Env} (h : SubE env env') {t : Nat} {v : V} (ht : aget env' t = some v) : aget env t = some v := by
 induction env' with
 | nil => cases ht
 | cons x r ih =>
  obtain ⟨n, u⟩ := x
  rw [aget_cons] at ht
  split at ht
  ·rename_i e; subst e; cases ht; exact h.1
  ·exact ih h.2 ht
theorem SubM.get {mem' : Mem} (h : SubM mem mem') {t : Nat} {v : M} (ht : aget mem' t = some v) : aget mem t = some v := by
 induction mem' with
 | nil => cases ht
 | cons x r ih =>
  obtain ⟨n, u⟩ := x
  rw [aget_cons] at ht
  split at ht
  ·rename_i e; subst e; cases ht; exact h.1
  ·exact ih h.2 ht
def V.refs (mem : Mem) : V → Bool
 | .k _ => true
 | .a cs => go mem cs
 | .t cs => go mem cs
 | .s none _ => true
 | .s (some r) _ => (aget mem r).isSome
 | .nil => true
 | .p j _ => (aget mem j).isSome
 | .sb j _ _ _ => (aget mem j).isSome
 | .q _ => true
 | .f _ xs ys => go mem xs && go mem ys
 | .i _ v => v.refs mem
 | .w j _ _ _ _ => (aget mem j).isSome
 | .pw j _ _ => (aget mem j).isSome
 | .mp j => (aget mem j).isSome
 | .y j => (aget mem j).isSome
where go (mem : Mem) : List V → Bool
 | [] => true
 | v :: r => v.refs mem && go mem r
def refsE (mem : Mem) : Env → Bool
 | [] => true
 | (_, v) :: r => v.refs mem && refsE mem r
def refsM (mem : Mem) : Mem → Bool
 | [] => true
 | (_, .b cs) :: r => V.refs.go mem cs && refsM mem r
 | (_, .it m _ _) :: r => (aget mem m).isSome && refsM mem r
 | _ :: r => refsM mem r
theorem refs_go {mem : Mem} {cs : List V} (h : V.refs.go mem cs = true) : ∀ u ∈ cs, u.refs mem = true := by
 induction cs with
 | nil => simp
 | cons x r ih =>
  simp only [V.refs.go, Bool.and_eq_true] at h
  intro u hu
  rcases List.mem_cons.1 hu with rfl | hu
  ·exact h.1
  ·exact ih h.2 u hu
theorem refs_of_all {mem : Mem} {cs : List V} (h : ∀ u ∈ cs, u.refs mem = true) : V.refs.go mem cs = true := by
 induction cs with
 | nil => rfl
 | cons x r ih => simp only [V.refs.go, Bool.and_eq_true]; exact ⟨h x (by simp), ih fun u hu => h u (by simp [hu])⟩
def Gh.only (g : Gh) (mem : Mem) : Gh := ⟨g.S, fun i => if (aget mem i).isSome then g.bx i else none, fun i => if (aget mem i).isSome then g.rw i else none⟩
theorem Rep.only {g : Gh} {w : World} {v : V} {x : Value} (h : Rep w g v x) (hv : v.refs mem = true) : Rep w (g.only mem) v x := by
 induction h with
 | k v => exact .k v
 | a hl h1 _ ih => exact .a hl h1 fun j u x h h' => ih j u x h h' (refs_go (by simpa [V.refs] using hv) u (List.mem_of_getElem? h))
 | t hl _ ih => exact .t hl fun j u x h h' => ih j u x h h' (refs_go (by simpa [V.refs] using hv) u (List.mem_of_getElem? h))
 | nil => exact .nil
 | se a ht =>
  refine .se a fun r hr => ?_
  subst hr
  obtain ⟨a, l, c, h1, h2⟩ := ht r rfl
  exact ⟨a, l, c, by simp only [Gh.only]; rw [if_pos (by simpa [V.refs] using hv)]; exact h1, h2⟩
 | s0 ht =>
  refine .s0 fun r hr => ?_
  subst hr
  obtain ⟨a, l, c, h1, h2⟩ := ht r rfl
  exact ⟨a, l, c, by simp only [Gh.only]; rw [if_pos (by simpa [V.refs] using hv)]; exact h1, h2⟩
 | s xs hn hm hp hs hx hc ht _ =>
  refine .s xs hn hm hp hs hx hc fun r hr => ?_
  subst hr
  obtain ⟨a, l, c, h1, h2⟩ := ht r rfl
  exact ⟨a, l, c, by simp only [Gh.only]; rw [if_pos (by simpa [V.refs] using hv)]; exact h1, h2⟩
 | p h => exact .p (by simp only [Gh.only]; rw [if_pos (by simpa [V.refs] using hv)]; exact h)
 | sb h => exact .sb (by simp only [Gh.only]; rw [if_pos (by simpa [V.refs] using hv)]; exact h)
 | q xs h1 hx hc _ => exact .q xs h1 hx hc
 | f h1 h2 _ _ ih1 ih2 =>
  simp only [V.refs, Bool.and_eq_true] at hv
  exact .f h1 h2 (fun j u x h h' => ih1 j u x h h' (refs_go hv.1 u (List.mem_of_getElem? h))) (fun j u x h h' => ih2 j u x h h' (refs_go hv.2 u (List.mem_of_getElem? h)))
 | i _ ih => exact .i (ih (by simpa [V.refs] using hv))
 | w h =>
  obtain ⟨a, l, c, h1, h2⟩ := h
  exact .w ⟨a, l, c, by simp only [Gh.only]; rw [if_pos (by simpa [V.refs] using hv)]; exact h1, h2⟩
 | pw h =>
  obtain ⟨a, l, c, h1, h2⟩ := h
  exact .pw ⟨a, l, c, by simp only [Gh.only]; rw [if_pos (by simpa [V.refs] using hv)]; exact h1, h2⟩
 | mp h => exact .mp (by simp only [Gh.only]; rw [if_pos (by simpa [V.refs] using hv)]; exact h)
 | y h => exact .y (by simp only [Gh.only]; rw [if_pos (by simpa [V.refs] using hv)]; exact h)
theorem refsM_get {mem0 mem' : Mem} (h : refsM mem0 mem' = true) {i : Nat} {cs : List V} (hi : aget mem' i = some (.b cs)) : V.refs.go mem0 cs = true := by
 induction mem' with
 | nil => cases hi
 | cons x r ih =>
  obtain ⟨n, m⟩ := x
  rw [aget_cons] at hi
  split at hi
  ·cases hi
   simp only [refsM, Bool.and_eq_true] at h
   exact h.1
  ·refine ih ?_ hi
   cases m with
   | b ds => simp only [refsM, Bool.and_eq_true] at h; exact h.2
   | it m c s => simp only [refsM, Bool.and_eq_true] at h; exact h.2
   | _ => simpa [refsM] using h
theorem refsM_it {mem0 mem' : Mem} (h : refsM mem0 mem' = true) {i m c : Nat} {s : List Nat} (hi : aget mem' i = some (.it m c s)) : (aget mem0 m).isSome = true := by
 induction mem' with
 | nil => cases hi
 | cons x r ih =>
  obtain ⟨n, q⟩ := x
  rw [aget_cons] at hi
  split at hi
  ·cases hi
   simp only [refsM, Bool.and_eq_true] at h
   exact h.1
  ·refine ih ?_ hi
   cases q with
   | b ds => simp only [refsM, Bool.and_eq_true] at h; exact h.2
   | it m c s => simp only [refsM, Bool.and_eq_true] at h; exact h.2
   | _ => simpa [refsM] using h
theorem refsE_get {env' : Env} (h : refsE mem env' = true) {t : Nat} {v : V} (ht : aget env' t = some v) : v.refs mem = true := by
 induction env' with
 | nil => cases ht
 | cons x r ih =>
  obtain ⟨n, m⟩ := x
  simp only [refsE, Bool.and_eq_true] at h
  rw [aget_cons] at ht
  split at ht
  ·cases ht; exact h.1
  ·exact ih h.2 ht
structure Sub (env : Env) (mem : Mem) (env' : Env) (mem' : Mem) : Prop where
 e : SubE env env'
 m : SubM mem mem'
 r : (refsE mem' env' && (refsM mem' mem' && mem.all fun x => Nat.blt x.1 1000 || (aget mem' x.1).isSome)) = true
theorem only_at {g : Gh} {mem : Mem} {i : Nat} {m : M} (hi : aget mem i = some m) : (g.only mem).bx i = g.bx i ∧ (g.only mem).rw i = g.rw i := by simp [Gh.only, hi]
theorem ObjAt.only {g : Gh} {w : World} {mem : Mem} {i : Nat} {m : M} (h : ObjAt g w i m) (hi : aget mem i = some m) (hR : refsM mem mem = true) : ObjAt (g.only mem) w i m := by
  obtain ⟨e1, e2⟩ := only_at (g := g) hi
  cases h with
  | b hg hb h => exact .b (e1.trans hg) hb ⟨h.one, fun j u hj => by
      obtain ⟨a1, a3, x, a4, a5⟩ := h.at_ j u hj
      exact ⟨a1, a3, x, a4, a5.only (refs_go (refsM_get hR hi) u (List.mem_of_getElem? hj))⟩⟩
  | r hg h => exact .r (e2.trans hg) ⟨h.pos, h.own, h.free⟩
  | w hg h => exact .w (e2.trans hg) ⟨h.pos, h.cells, h.own, h.free⟩
  | m hg h => exact .m (e1.trans hg) ⟨h.own, h.free⟩
  | d hg h => exact .d (e1.trans hg) ⟨h.own, h.free⟩
  | it hg hm h hS => exact .it (e1.trans hg) (by simp only [Gh.only]; rw [if_pos (refsM_it hR hi)]; exact hm) h hS
  | o hg h hS => exact .o (e1.trans hg) h hS
  | x => exact .x
theorem RelM.sub {F' : Fr0} {g : Gh} {w : World} {mem mem' : Mem} (h : RelM F g mem w) (hM : ∀ i m, aget mem' i = some m → aget mem i = some m) (hR : refsM mem' mem' = true) (hL : LocOk F' (g.only mem')) (hw : ∀ i m b o, aget mem' i = some m → fp g i m b o → F'.wr b o) : RelM F' (g.only mem') mem' w :=
 ⟨fun i m hi => (h.ob i m (hM i m hi)).only hi hR, fun i m b o hi hp => hw i m b o hi ((fp_congr (only_at hi).1 (only_at hi).2).1 hp),
  fun i j m n b o hij hi hj hp hq => h.dj i j m n b o hij (hM _ _ hi) (hM _ _ hj) ((fp_congr (only_at hi).1 (only_at hi).2).1 hp) ((fp_congr (only_at hj).1 (only_at hj).2).1 hq),
  fun i hi => by simp [Gh.only, hi], fun i hi => by simp [Gh.only, hi], h.fut, hL⟩
theorem loc_only {F : Fr0} {g : Gh} {mem mem' : Mem} (h : LocOk F g) (hb : F.Big) (h1 : ∀ i, aget mem i = none → g.bx i = none) (h2 : ∀ i, aget mem i = none → g.rw i = none) (hk : (mem.all fun x => Nat.blt x.1 1000 || (aget mem' x.1).isSome) = true) : LocOk F (g.only mem') := by
 have key : ∀ i, 1000 ≤ i → aget mem i ≠ none → (aget mem' i).isSome = true := fun i hi hn => by
  obtain ⟨m, hm⟩ := Option.ne_none_iff_exists'.1 hn
  have := List.all_eq_true.1 hk _ (aget_mem hm)
  simp only [Bool.or_eq_true] at this
  rcases this with h | h
  ·have := Nat.le_of_ble_eq_true h; omega
  ·exact h
 refine ⟨h.tab, fun i z hz => ?_, fun i a l c hr => ?_⟩
 ·have hi : 1000 ≤ i := Nat.le_of_not_lt fun hlt => by rw [(hb i hlt).1] at hz; cases hz
  have hg := h.bx i z hz
  have := key i hi fun e => by rw [h1 i e] at hg; cases hg
  simp only [Gh.only]; rw [if_pos this]; exact hg
 ·have hi : 1000 ≤ i := Nat.le_of_not_lt fun hlt => by rw [(hb i hlt).2] at hr; cases hr
  obtain ⟨a', l', c', k1, k2⟩ := h.rw i a l c hr
  have := key i hi fun e => by rw [h2 i e] at k1; cases k1
  exact ⟨a', l', c', by simp only [Gh.only]; rw [if_pos this]; exact k1, k2⟩
theorem Rel.sub {g : Gh} {a : Act} {w : World} {env' : Env} {mem' : Mem} (h : Rel F N g env mem a w) (hs : Sub env mem env' mem') : Rel F N (g.only mem') env' mem' a w := by
 obtain ⟨hE, hM, hR⟩ := hs
 simp only [Bool.and_eq_true] at hR
 refine ⟨fun t v ht => ?_, h.mem.sub (fun i m hi => hM.get hi) hR.2.1 (loc_only h.mem.loc h.big h.mem.nbx h.mem.nrw hR.2.2) fun i m b o hi hp => h.mem.wr i m b o (hM.get hi) hp, ⟨h.kept.os, h.kept.tape, h.kept.output, h.kept.size, h.kept.blk, h.kept.cell, h.kept.S1, h.kept.S2, h.kept.cellS⟩, h.defers, h.size, h.big⟩
 obtain ⟨x, h1, h2⟩ := h.env t v (hE.get ht)
 exact ⟨x, h1, h2.only (refsE_get hR.1 ht)⟩
theorem LC.weak {c : Code} {env' : Env} {mem' : Mem} (hs : Sub env mem env' mem') (h : LC P F N c Q env' mem') : LC P F N c Q env mem := ⟨fun F0 hx _ a w hr => h.go F0 hx _ a w (hr.sub hs)⟩
theorem LS.weak {ops : Array Oper} {l : List Oper} {env' : Env} {mem' : Mem} (hs : Sub env mem env' mem') (h : LS P F N ops l Q env' mem') : LS P F N ops l Q env mem := ⟨fun F0 hx _ a w hr => h.go F0 hx _ a w (hr.sub hs)⟩
theorem LC.loop {α : Type} {c : Code} (I : α → Env) (J : α → Mem) (ok : α → Prop) (μ : α → Nat) (x0 : α) (h0 : ok x0) (hs : Sub env mem (I x0) (J x0))
    (round : ∀ x, ok x → LC P F N c (LThen (fun env' mem' => ∃ y, ok y ∧ μ y < μ x ∧ Sub env' mem' (I y) (J y)) Q) (I x) (J x)) : LC P F N (.loop c) Q env mem := by
  refine ⟨fun F0 hx0 g a w hr b k cs hro hb hrm => ?_⟩
  have key : ∀ n x, μ x = n → ok x → ∀ F1, F0.Ext F1 → ∀ g a w, Rel F1 N g (I x) (J x) a w → ∀ (b : Frame) (k : List Item) (cs : List Frame), b.roundOf = F0.fz.round → F0.fz.fn b.fn → F0.fz.room (cs.length + 1 + 0) →
      ∃ e a' w', liftQ F0 N Q e a' w' ∧ ArrivesIn (Machine.fenced P F0.fz) P (lone (b.atR a (.code c :: .inLoop c :: k)) cs w) b k cs e a' w' := by
    intro n
    induction n using Nat.strongRecOn with
    | _ n ih =>
      intro x hn hx F1 hF1 g a w hr b k cs hro hb hrm
      obtain ⟨e, a1, w1, hq, harr⟩ := (round x hx).run hx0 hF1 hr b (.inLoop c :: k) cs hro hb hrm
      obtain ⟨F2, hF2, en, me, g1, le, h1, h3, h2⟩ := hq
      cases le with
      | normal =>
        cases h3
        obtain ⟨y, hy, hlt, hsub⟩ := h2
        obtain ⟨e2, a2, w2, hq2, harr2⟩ := ih (μ y) (hn ▸ hlt) y rfl hy F2 hF2 _ a1 w1 (h1.sub hsub) b k cs hro hb hrm
        exact ⟨e2, a2, w2, hq2, .of_steps (StepsIn.trans harr (.one (fenced_calm hb hrm rfl) stepR_inLoop)) harr2⟩
      | exit id => cases h3; exact ⟨_, a1, w1, ⟨F2, hF2, en, me, g1, .exit id, h1, rfl, h2⟩, .pass (x := .inLoop c) rfl (fun _ _ => .inl (by simp)) harr⟩
      | goto l => cases h3; exact ⟨_, a1, w1, ⟨F2, hF2, en, me, g1, .goto l, h1, rfl, h2⟩, .pass (x := .inLoop c) rfl (fun _ _ => .inl (by simp)) harr⟩
      | ret => cases h3; exact ⟨_, a1, w1, ⟨F2, hF2, en, me, g1, .ret, h1, rfl, h2⟩, .pass (x := .inLoop c) rfl (fun _ _ => .inl (by simp)) harr⟩
      | pan v => obtain ⟨x, rfl, hx⟩ := h3; exact ⟨_, a1, w1, ⟨F2, hF2, en, me, g1, .pan v, h1, ⟨x, rfl, hx⟩, h2⟩, .pass (x := .inLoop c) rfl (fun _ _ => .inl (by simp)) harr⟩
  obtain ⟨e, a', w', hq, harr⟩ := key _ x0 rfl h0 F0 (.refl _) _ a w (hr.sub hs) b k cs hro hb hrm
  exact ⟨e, a', w', hq, .of_steps (.one (fenced_calm hb hrm rfl) stepR_loop) harr⟩
def callOk (P : Program) (f : Nat) : Bool :=
 match P.funcs[f]? with
 | some fn => !(fn.name == "runtime.NumGoroutine") && fn.body.isSome
 | none => false
inductive Out where
 | ret (v : V)
 | pan (v : V)
def Out.At (w : World) (g : Gh) : Out → Ending → Prop
 | .ret v, e => ∃ x, e = .returned x ∧ Rep w g v x
 | .pan v, e => ∃ x, e = .panicked [{ v := x, recovered := false }] ∧ Rep w g v x
def lentF (g : Gh) (mi : Mem) (w : World) : Fr0 := ⟨w, g.S, fun b o => ∃ i m, aget mi i = some m ∧ fp g i m b o, g.bx, g.rw, [], none, false⟩
structure LM (P : Program) (f : Nat) (args : List V) (mi : Mem) (R : Out → Mem → Prop) : Prop where
 ok : callOk P f = true
 go : ∀ (g : Gh) (w : World) (vals : Array Value), RelM (lentF g mi w) g mi w → args.length = vals.size → (∀ (j : Nat) u x, args[j]? = some u → vals[j]? = some x → Rep w g u x) →
  Calls P f vals w fun e w' => ∃ o mo g', R o mo ∧ Ev g w g' w' ∧ RelM (lentF g mi w) g' mo w' ∧ Kept (lentF g mi w) g' w' ∧ o.At w' g' e
theorem LM.mono {f : Nat} {args : List V} {mi : Mem} {R R' : Out → Mem → Prop} (h : LM P f args mi R) (hR : ∀ o m, R o m → R' o m) : LM P f args mi R' :=
 ⟨h.ok, fun g w vals h1 h2 h3 => Calls.mono (h.go g w vals h1 h2 h3) fun _ _ ⟨o, mo, g', k, r⟩ => ⟨o, mo, g', hR _ _ k, r⟩⟩
abbrev LF (P : Program) (f : Nat) (args : List V) (out : Option Nat → V) (_row : Option (Nat × Nat × Nat)) : Prop := LM P f args [] fun o m => o = .ret (out none) ∧ m = []
end
end Lf
open Go.RowKit Rg
namespace Lf
section
variable {P : Program}
def res1 (tab : Tab) (env : Env) (mem : Mem) : ResultVar → Option V
 | .tmp t => aget env t
 | .cell t T =>
  match aget env t, aget tab T with
  | some (.p i off), some ti =>
   match aget mem i with
   | some (.b cs) => ti.part cs off
   | _ => none
  | _, _ => none
def resL (tab : Tab) (env : Env) (mem : Mem) : List ResultVar → Option (List V)
 | [] => some []
 | r :: rs => match res1 tab env mem r, resL tab env mem rs with
  | some v, some vs => some (v :: vs)
  | _, _ => none
def resV (tab : Tab) (env : Env) (mem : Mem) : List ResultVar → Option V
 | [r] => res1 tab env mem r
 | rs => (resL tab env mem rs).map .t
def V.cv (keep : Nat → Bool) (nn : Bool) : V → V
 | .a cs => .a (go keep nn cs)
 | .t cs => .t (go keep nn cs)
 | .s (some r) es => .s (cond (keep r) (some r) none) es
 | .nil => cond nn (.s none []) .nil
 | .i T v => .i T (v.cv keep nn)
 | v => v
where go (keep : Nat → Bool) (nn : Bool) : List V → List V
 | [] => []
 | v :: r => v.cv keep nn :: go keep nn r
theorem cv_go {keep : Nat → Bool} {nn : Bool} (cs : List V) : V.cv.go keep nn cs = cs.map (V.cv keep nn) := by
 induction cs with
 | nil => rfl
 | cons v r ih => rw [V.cv.go, ih, List.map_cons]
theorem cv_one {keep : Nat → Bool} {nn : Bool} {v : V} : (v.cv keep nn).one = v.one := by
 cases v with
 | s o es => cases o with
  | none => rfl
  | some r => rfl
 | nil => cases nn <;> rfl
 | _ => rfl
theorem Rep.cv {g : Gh} {w : World} {keep : Nat → Bool} {nn : Bool} {v : V} {x : Value} (h : Rep w g v x) : Rep w g (v.cv keep nn) x := by
 induction h with
 | k v => exact .k v
 | a hl h1 _ ih =>
  simp only [V.cv, cv_go]
  refine .a (by simpa using hl) (fun u hu => ?_) fun j u x hj hx => ?_
  ·obtain ⟨u0, hu0, rfl⟩ := List.mem_map.1 hu; rw [cv_one]; exact h1 u0 hu0
  ·rw [List.getElem?_map] at hj
   obtain ⟨u0, hu0, rfl⟩ := Option.map_eq_some_iff.1 hj
   exact ih j u0 x hu0 hx
 | t hl _ ih =>
  simp only [V.cv, cv_go]
  refine .t (by simpa using hl) fun j u x hj hx => ?_
  rw [List.getElem?_map] at hj
  obtain ⟨u0, hu0, rfl⟩ := Option.map_eq_some_iff.1 hj
  exact ih j u0 x hu0 hx
 | nil =>
  cases nn
  ·exact .nil
  ·exact .s0 fun _ h => by cases h
 | @se g o a ht =>
  cases o with
  | none => exact .se a ht
  | some r =>
   simp only [V.cv]
   cases keep r
   ·exact .se a fun _ h => by cases h
   ·exact .se a ht
 | @s0 g o ht =>
  cases o with
  | none => exact .s0 ht
  | some r =>
   simp only [V.cv]
   cases keep r
   ·exact .s0 fun _ h => by cases h
   ·exact .s0 ht
 | @s g o es b off cap size xs hn hm hp hs hx hc ht _ =>
  cases o with
  | none => exact .s xs hn hm hp hs hx hc ht
  | some r =>
   simp only [V.cv]
   cases keep r
   ·exact .s xs hn hm hp hs hx hc fun _ h => by cases h
   ·exact .s xs hn hm hp hs hx hc ht
 | p h => exact .p h
 | sb h => exact .sb h
 | q xs h1 hx hc _ => exact .q xs h1 hx hc
 | f h1 h2 hf hc => exact .f h1 h2 hf hc
 | i _ ih => exact .i ih
 | w h => exact .w h
 | pw h => exact .pw h
 | mp h => exact .mp h
 | y h => exact .y h
structure Tells (mem : Mem) (v v' : V) (mo : Mem) : Prop where
 v : ∃ keep nn, v.cv keep nn = v'
 m : SubM mem mo
 r : (v'.refs mo && refsM mo mo) = true
def LFin (X : TOk P) (rs : List ResultVar) (R : Out → Mem → Prop) (env : Env) (mem : Mem) : Prop := ∃ v v' mo, resV X.tab env mem rs = some v ∧ Tells mem v v' mo ∧ R (.ret v') mo
theorem cv_same (v : V) : V.cv (fun _ => true) false v = v := by
 induction v using V.rec (motive_2 := fun l => V.cv.go (fun _ => true) false l = l) with
 | k v => rfl
 | a cs ih => simp only [V.cv, ih]
 | t cs ih => simp only [V.cv, ih]
 | s o es => cases o <;> rfl
 | nil => rfl
 | p => rfl
 | sb => rfl
 | q => rfl
 | f => rfl
 | i T v ih => simp only [V.cv, ih]
 | w => rfl
 | pw => rfl
 | mp => rfl
 | y => rfl
 | cons v l h1 h2 => simp only [V.cv.go, h1, h2]
 | _ => rfl
theorem LFin.same {X : TOk P} {rs : List ResultVar} {R : Out → Mem → Prop} {env : Env} {mem mo : Mem} {v : V} (h : resV X.tab env mem rs = some v) (hm : SubM mem mo) (hr : (v.refs mo && refsM mo mo) = true) (hR : R (.ret v) mo) : LFin X rs R env mem := ⟨v, v, mo, h, ⟨⟨_, _, cv_same v⟩, hm, hr⟩, hR⟩
theorem LFin.eq {X : TOk P} {rs : List ResultVar} {env : Env} {mem : Mem} {v : V} (h : resV X.tab env mem rs = some v) (hr : v.refs [] = true) : LFin X rs (fun o m => o = .ret v ∧ m = []) env mem := ⟨v, v, [], h, ⟨⟨_, _, cv_same v⟩, trivial, by rw [hr]; rfl⟩, rfl, rfl⟩
theorem LFin.bare {X : TOk P} {rs : List ResultVar} {env : Env} {mem : Mem} {u v : V} (nn : Bool) (h : resV X.tab env mem rs = some u) (hv : u.cv (fun _ => false) nn = v) (hr : v.refs [] = true) : LFin X rs (fun o m => o = .ret v ∧ m = []) env mem := ⟨u, v, [], h, ⟨⟨_, nn, hv⟩, trivial, by rw [hr]; rfl⟩, rfl, rfl⟩
theorem LFin.eqV {X : TOk P} {rs : List ResultVar} {env : Env} {mem : Mem} {u v : V} (h : resV X.tab env mem rs = some u) (hr : u.refs [] = true) (hv : u = v) : LFin X rs (fun o m => o = .ret v ∧ m = []) env mem := by subst hv; exact LFin.eq h hr
theorem LFin.cvV {X : TOk P} {rs : List ResultVar} {env : Env} {mem : Mem} {u v : V} (nn : Bool) (h : resV X.tab env mem rs = some u) (hr : (u.cv (fun _ => false) nn).refs [] = true) (hv : u.cv (fun _ => false) nn = v) : LFin X rs (fun o m => o = .ret v ∧ m = []) env mem := by subst hv; exact LFin.bare nn h rfl hr
theorem LFin.memV {X : TOk P} {rs : List ResultVar} {env : Env} {mem mo : Mem} {u v : V} (h : resV X.tab env mem rs = some u) (hm : SubM mem mo) (hr : (u.refs mo && refsM mo mo) = true) (hv : u = v) : LFin X rs (fun o m => o = .ret v ∧ m = mo) env mem := by subst hv; exact LFin.same h hm hr ⟨rfl, rfl⟩
theorem LFin.memC {X : TOk P} {rs : List ResultVar} {env : Env} {mem mo : Mem} {u v : V} (keep : Nat → Bool) (nn : Bool) (h : resV X.tab env mem rs = some u) (hm : SubM mem mo) (hr : ((u.cv keep nn).refs mo && refsM mo mo) = true) (hv : u.cv keep nn = v) : LFin X rs (fun o m => o = .ret v ∧ m = mo) env mem := by subst hv; exact ⟨u, _, mo, h, ⟨⟨keep, nn, rfl⟩, hm, hr⟩, rfl, rfl⟩
def LPan (R : Out → Mem → Prop) (v : V) (mem : Mem) : Prop := ∃ v' mo, Tells mem v v' mo ∧ R (.pan v') mo
def LRet (X : TOk P) (rs : List ResultVar) (R : Out → Mem → Prop) : LQ
 | .normal, env, mem => LFin X rs R env mem
 | .ret, env, mem => LFin X rs R env mem
 | .pan v, _, mem => LPan R v mem
 | _, _, _ => False
def params : Nat → List V → Env
 | _, [] => []
 | k, v :: r => (k, v) :: params (k + 1) r
theorem params_get {args : List V} : ∀ {k t : Nat} {v : V}, aget (params k args) t = some v → k ≤ t ∧ args[t - k]? = some v := by
 induction args with
 | nil => intro k t v h; cases h
 | cons u r ih =>
  intro k t v h
  simp only [params, aget_cons] at h
  split at h
  ·rename_i e; subst e; cases h; simp
  ·obtain ⟨h1, h2⟩ := ih h
   refine ⟨by omega, ?_⟩
   rw [show t - k = (t - (k + 1)) + 1 from by omega, List.getElem?_cons_succ]
   exact h2
def rsem (tmps : Array Value) : ResultVar → Sem Value
 | .tmp t => pure (tmps.getD t undef)
 | .cell a t => do loadVar t (← asAddr (tmps.getD a undef))
theorem results_eq (fn : Func) (tmps : Array Value) : results fn tmps = (do let vs ← fn.results.mapM (rsem tmps); pure (if h : vs.size = 1 then vs[0] else .tuple vs)) := by
 unfold results
 congr
theorem res1_run {F : Fr0} {N : Nat} {g : Gh} {env : Env} {mem : Mem} {a : Act} {w : World} (X : TOk P) (h : Rel F N g env mem a w) {r : ResultVar} {v : V} (hv : res1 X.tab env mem r = some v) :
  ∃ x, (rsem a.tmps r).run P w = .ok x w ∧ Rep w g v x := by
 cases r with
 | tmp t =>
  obtain ⟨x, h1, h2⟩ := h.env t v hv
  exact ⟨x, by simp [rsem, h1], h2⟩
 | cell t T =>
  simp only [res1] at hv
  split at hv
  ·rename_i i off ti he hT
   split at hv
   ·rename_i cs hm
    obtain ⟨x, h1, h2⟩ := h.env t _ he
    obtain ⟨b, bo, e1, _, hB⟩ := h.mem.box hm
    obtain ⟨xs, hl, hrange, hrep⟩ := hB.vals
    obtain ⟨y, hrun, hrep'⟩ := rep_part (X.get hT) hv hB.one hl hrange hrep
    cases h2 with
    | p hp =>
     rw [e1] at hp; cases hp
     refine ⟨y, ?_, hrep'⟩
     simp only [Instr.loadAt, Instr.sureAddr, Sem.run_bind, Sem.run_pure, Result.andThen_ok] at hrun
     simp [rsem, h1, asAddr, hrun]
   ·cases hv
  ·cases hv
theorem resV_run {F : Fr0} {N : Nat} {g : Gh} {env : Env} {mem : Mem} {a : Act} {w : World} (X : TOk P) (h : Rel F N g env mem a w) {fn : Func} {rs : List ResultVar} (hrs : fn.results = rs.toArray) (hlen : rs.length ≤ 3) {v : V} (hv : resV X.tab env mem rs = some v) :
  ∃ x, (results fn a.tmps).run P w = .ok x w ∧ Rep w g v x := by
 match rs, hlen with
 | [], _ =>
  simp [resV, resL] at hv; subst hv
  exact ⟨.tuple #[], by simp [results_eq, hrs], .t rfl (by simp)⟩
 | [r], _ =>
  obtain ⟨x, h1, h2⟩ := res1_run X h hv
  refine ⟨x, ?_, h2⟩
  simp [results_eq, hrs, h1]
 | [r, s], _ =>
  simp only [resV, resL] at hv
  obtain ⟨vs, hvs, rfl⟩ := Option.map_eq_some_iff.1 hv
  cases hr1 : res1 X.tab env mem r with
  | none => simp [hr1] at hvs
  | some v1 =>
   cases hr2 : res1 X.tab env mem s with
   | none => simp [hr1, hr2] at hvs
   | some v2 =>
    simp [hr1, hr2] at hvs; subst hvs
    obtain ⟨x1, h1, k1⟩ := res1_run X h hr1
    obtain ⟨x2, h2, k2⟩ := res1_run X h hr2
    refine ⟨.tuple #[x1, x2], ?_, .t rfl fun j u x hu hx => ?_⟩
    ·simp [results_eq, hrs, h1, h2]
    ·match j with
     | 0 => simp at hu hx; subst hu; subst hx; exact k1
     | 1 => simp at hu hx; subst hu; subst hx; exact k2
     | j + 2 => simp at hu
 | [r, s, t], _ =>
  simp only [resV, resL] at hv
  obtain ⟨vs, hvs, rfl⟩ := Option.map_eq_some_iff.1 hv
  cases hr1 : res1 X.tab env mem r with
  | none => simp [hr1] at hvs
  | some v1 =>
   cases hr2 : res1 X.tab env mem s with
   | none => simp [hr1, hr2] at hvs
   | some v2 =>
    cases hr3 : res1 X.tab env mem t with
    | none => simp [hr1, hr2, hr3] at hvs
    | some v3 =>
     simp [hr1, hr2, hr3] at hvs; subst hvs
     obtain ⟨x1, h1, k1⟩ := res1_run X h hr1
     obtain ⟨x2, h2, k2⟩ := res1_run X h hr2
     obtain ⟨x3, h3, k3⟩ := res1_run X h hr3
     refine ⟨.tuple #[x1, x2, x3], ?_, .t rfl fun j u x hu hx => ?_⟩
     ·simp [results_eq, hrs, h1, h2, h3]
     ·match j with
      | 0 => simp at hu hx; subst hu; subst hx; exact k1
      | 1 => simp at hu hx; subst hu; subst hx; exact k2
      | 2 => simp at hu hx; subst hu; subst hx; exact k3
      | j + 3 => simp at hu
 | _ :: _ :: _ :: _ :: _, h4 => simp at h4
def keysOk (mi mo : Mem) : Bool := mi.all fun x => (aget mo x.1).isSome
theorem keysOk_spec {mi mo : Mem} (h : keysOk mi mo = true) {i : Nat} {m : M} (hi : aget mi i = some m) : (aget mo i).isSome = true := List.all_eq_true.1 h _ (aget_mem hi)
theorem Tells.rep {F : Fr0} {g g0 : Gh} {w0 w : World} {mi mem mo : Mem} {v v' : V} {x : Value} (hF : F = lentF g0 mi w0) (h : Tells mem v v' mo) (hko : keysOk mi mo = true) (h0 : RelM F g0 mi w0) (hr : Rep w g v x) (hm : RelM F g mem w) (hk : Kept F g w) :
  Rep w (g.only mo) v' x ∧ RelM F (g.only mo) mo w ∧ Kept F (g.only mo) w ∧ Ev g0 w0 (g.only mo) w := by
 subst hF
 obtain ⟨⟨keep, nn, rfl⟩, h2, h3⟩ := h
 simp only [Bool.and_eq_true] at h3
 have hin : ∀ i, aget mi i ≠ none → (aget mo i).isSome = true := fun i hn => by
  obtain ⟨m, hm⟩ := Option.ne_none_iff_exists'.1 hn
  exact keysOk_spec hko hm
 have hL : LocOk (lentF g0 mi w0) (g.only mo) := by
  refine ⟨h0.loc.tab, fun i z hz => ?_, fun i a l c hr => ?_⟩
  ·have := hin i fun e => by have := h0.nbx i e; simp only [lentF] at hz; rw [this] at hz; cases hz
   simp only [Gh.only]; rw [if_pos this]; exact hm.loc.bx i z hz
  ·have := hin i fun e => by have := h0.nrw i e; simp only [lentF] at hr; rw [this] at hr; cases hr
   obtain ⟨a', l', c', k1, k2⟩ := hm.loc.rw i a l c hr
   exact ⟨a', l', c', by simp only [Gh.only]; rw [if_pos this]; exact k1, k2⟩
 exact ⟨(hr.cv).only h3.1, hm.sub (fun i m hi => h2.get hi) h3.2 hL fun i m b o hi hp => hm.wr i m b o (h2.get hi) hp, ⟨hk.os, hk.tape, hk.output, hk.size, hk.blk, hk.cell, hk.S1, hk.S2, hk.cellS⟩,
  ⟨hk.size, fun b o hb hs => ⟨hk.S2 b o hb hs, hk.cellS b o hb hs⟩, fun i z hz => hL.bx i z hz, fun r a l c hr => hL.rw r a l c hr⟩⟩
structure Shut (ms : List Nat) (w w' : World) : Prop where
 os : w'.os = w.os
 tape : w'.tape = w.tape
 output : w'.output = w.output
 size : w'.heap.size = w.heap.size
 blk : ∀ b, b ∉ ms → w'.heap[b]? = w.heap[b]?
 mkd : ∀ b ∈ ms, w'.heap[b]? = some (.deferred none) ∧ w.heap[b]? = some (.deferred (some []))
theorem Shut.cell {ms : List Nat} {w w' : World} (h : Shut ms w w') (b o : Nat) : w'.cell? ⟨b, o, none⟩ = w.cell? ⟨b, o, none⟩ ∧ w'.frozen? ⟨b, o, none⟩ = w.frozen? ⟨b, o, none⟩ := by
 by_cases hb : b ∈ ms
 ·obtain ⟨e1, e2⟩ := h.mkd b hb
  exact ⟨by simp only [World.cell?, e1, e2], by simp only [World.frozen?, e1, e2]⟩
 ·have e := h.blk b hb
  exact ⟨by simp only [World.cell?, e], by simp only [World.frozen?, e]⟩
theorem leave_marks {fn : Func} {tmps : Array Value} {R : Ending → World → Prop} : ∀ (ms : List Nat) (u : FrameMode) (w : World), u ≠ .run → ms.Nodup → (∀ D ∈ ms, w.heap[D]? = some (.deferred (some []))) →
  (∀ w', Shut ms w w' → LeavesIn Fence.wide 0 P fn tmps R [] u w') → LeavesInM Fence.wide 0 P fn tmps R (ms.map markD) u w
 | [], u, w, _, _, _, h => h w ⟨rfl, rfl, rfl, rfl, fun _ _ => rfl, fun _ hb => by cases hb⟩
 | D :: ms, u, w, hu, hn, hD, h => by
  have h0 := hD D (by simp)
  have hlt := (Array.getElem?_eq_some_iff.1 h0).1
  obtain ⟨n1, n2⟩ := List.nodup_cons.1 hn
  refine ⟨hu, .inl ⟨D, w.putObj D (.deferred none), rfl, run_takeDeferred h0, leave_marks ms u _ hu n2 (fun D' hD' => ?_) fun w' hw' => h w' ⟨hw'.os, hw'.tape, hw'.output, hw'.size.trans World.putObj_size, fun b hb => ?_, fun b hb => ?_⟩⟩⟩
  ·rw [World.putObj_heap_other (fun e => n1 (by rw [← e]; exact hD'))]; exact hD D' (by simp [hD'])
  ·rw [hw'.blk b (fun hb' => hb (by simp [hb']))]; exact World.putObj_heap_other (fun e => hb (by simp [e]))
  ·rcases List.mem_cons.1 hb with rfl | hb
   ·exact ⟨(hw'.blk b n1).trans (World.putObj_heap_same hlt), h0⟩
   ·exact ⟨(hw'.mkd b hb).1, hD b (by simp [hb])⟩
theorem RelM.shut {F : Fr0} {g : Gh} {mem : Mem} {w w' : World} {ms : List Nat} (hm : RelM F g mem w) (hk : Kept F g w) (hD : ∀ D ∈ ms, F.w0.heap.size ≤ D ∧ ∀ i m o, aget mem i = some m → ¬ fp g i m D o) (hs : Shut ms w w') : Ev g w g w' ∧ RelM F g mem w' ∧ Kept F g w' := by
 have hev : Ev g w g w' := ⟨Nat.le_of_eq hs.size.symm, fun b o _ hS => ⟨hS, (hs.cell b o).1⟩, fun _ _ h => h, fun _ a l c h => ⟨a, l, c, h, Nat.le_refl _, fun _ => ⟨rfl, rfl⟩⟩⟩
 refine ⟨hev, ⟨fun i m hi => (hm.ob i m hi).mono hev rfl rfl (fun b o _ => ⟨(hs.cell b o).1, (hs.cell b o).2, fun h => h⟩) fun b hp => hs.blk b fun hb => (hD b hb).2 i m 0 hi (hp 0), hm.wr, hm.dj, hm.nbx, hm.nrw, fun b o hb => hm.fut b o (by rw [← hs.size]; exact hb), hm.loc⟩, ?_⟩
 have hlt : ∀ b, b < F.w0.heap.size → b ∉ ms := fun b hb hm => by have := (hD b hm).1; omega
 exact ⟨hs.os.trans hk.os, hs.tape.trans hk.tape, hs.output.trans hk.output, by rw [hs.size]; exact hk.size, fun b hb hB => (hs.blk b (hlt b hb)).trans (hk.blk b hb hB), fun b o hb hB => ⟨(hs.cell b o).1.trans (hk.cell b o hb hB).1, (hs.cell b o).2.trans (hk.cell b o hb hB).2⟩, hk.S1, hk.S2, fun b o hb hS => (hs.cell b o).1.trans (hk.cellS b o hb hS)⟩
theorem enter_core (X : TOk P) {f N : Nat} {fn : Func} {c : Code} {args : List V} {rs : List ResultVar} {mi : Mem} {R : Out → Mem → Prop} (hf : P.funcs[f]? = some fn) (hb : fn.body = some c) (hN : fn.ntmps = N) (hrs : fn.results = rs.toArray)
  (hle : Nat.ble args.length N = true) (hrl : Nat.ble rs.length 3 = true) (hbig : (mi.all fun x => Nat.ble 1000 x.1) = true) (hks : ∀ o mo, R o mo → keysOk mi mo = true) {g : Gh} {w : World} {vals : Array Value} (hm : RelM (lentF g mi w) g mi w) (hl : args.length = vals.size) (hr : ∀ (j : Nat) u x, args[j]? = some u → vals[j]? = some x → Rep w g u x)
  (mk : Bool) (h : LC P { lentF g mi w with lm := mk } N c (LRet X rs R) (params 0 args) mi) : Calls P f vals w fun e w' => ∃ o mo g', R o mo ∧ Ev g w g' w' ∧ RelM (lentF g mi w) g' mo w' ∧ Kept (lentF g mi w) g' w' ∧ o.At w' g' e := by
 have hle' := Nat.le_of_ble_eq_true hle
 refine (callsIn_wide (n := 0)).1 (callsIn_of_wp_marks hf hb trivial ?_)
 have hbg : ({ lentF g mi w with lm := mk } : Fr0).Big := fun i hi => by
  have : aget mi i = none := by
   cases hg : aget mi i with
   | none => rfl
   | some m =>
    have h1 := Nat.le_of_ble_eq_true (List.all_eq_true.1 hbig _ (aget_mem hg))
    exact absurd h1 (by simp; omega)
  exact ⟨hm.nbx i this, hm.nrw i this⟩
 have hrel : Rel { lentF g mi w with lm := mk } N g (params 0 args) mi { tmps := vals ++ Array.replicate (fn.ntmps - vals.size) undef, defers := [] } w := by
  refine ⟨fun t v ht => ?_, ⟨hm.ob, hm.wr, hm.dj, hm.nbx, hm.nrw, hm.fut, ⟨hm.loc.tab, hm.loc.bx, hm.loc.rw⟩⟩, ⟨rfl, rfl, rfl, Nat.le_refl _, fun _ _ _ => rfl, fun _ _ _ _ => ⟨rfl, rfl⟩, fun _ _ _ _ h => h, fun _ _ _ h => h, fun _ _ _ _ => rfl⟩, rfl, by simp; omega, hbg⟩
  obtain ⟨_, h2⟩ := params_get ht
  rw [Nat.sub_zero] at h2
  have hlt := (List.getElem?_eq_some_iff.1 h2).1
  have hx : vals[t]? = some vals[t] := Array.getElem?_eq_getElem (by omega)
  exact ⟨vals[t], by rw [Array.getElem?_append_left (by omega)]; exact hx, hr t v _ h2 hx⟩
 refine wpIn_mono (h.go _ (.refl _) _ _ _ hrel) fun e a' w' ⟨F1, hx, env, mem, g', le, h1, h3, h2⟩ => ?_
 obtain ⟨ms, eD, nd, hD⟩ := hx.D
 have hdf : a'.defers = ms.map markD := by
  have := h1.defers
  rw [eD] at this
  simpa [lentF] using this
 have hblk : ∀ D ∈ ms, w'.heap[D]? = some (.deferred (some [])) := fun D hm => by
  obtain ⟨_, a2, a3, a4⟩ := hD D hm
  rw [h1.kept.blk D a2 fun o ho => a3 o (.inr ho)]
  exact a4
 have hout : ∀ D ∈ ms, ({ lentF g mi w with lm := mk } : Fr0).w0.heap.size ≤ D ∧ ∀ i m o, aget mem i = some m → ¬ fp g' i m D o := fun D hm => by
  obtain ⟨a1, a2, a3, a4⟩ := hD D hm
  exact ⟨a1, fun i m o hi hp => a3 o (h1.mem.wr i m D o hi hp)⟩
 have key : LFin X rs R env mem → LeavesInM Fence.wide 0 P fn a'.tmps (fun e w' => ∃ o mo g', R o mo ∧ Ev g w g' w' ∧ RelM (lentF g mi w) g' mo w' ∧ Kept (lentF g mi w) g' w' ∧ o.At w' g' e) a'.defers .returning w' := by
  rintro ⟨v, v', mo, hv, ht, hR⟩
  rw [hdf]
  refine leave_marks ms .returning w' (by intro e; cases e) nd hblk fun w2 hw2 => ?_
  obtain ⟨v1, m1, k1⟩ := RelM.shut (hx.relM h1.mem) (hx.kept _ _ h1.kept) hout hw2
  have hr2 : Rel { lentF g mi w with lm := mk } N g' env mem { tmps := a'.tmps, defers := [] } w2 := ⟨fun t u hu => by obtain ⟨y, e1, e2⟩ := h1.env t u hu; exact ⟨y, e1, e2.mono v1⟩, m1, k1, rfl, h1.size, hbg⟩
  obtain ⟨x, hx', hrep⟩ := resV_run X hr2 hrs (Nat.le_of_ble_eq_true hrl) hv
  obtain ⟨r1, r2, r3, r4⟩ := ht.rep rfl (hks _ _ hR) hm hrep ⟨m1.ob, m1.wr, m1.dj, m1.nbx, m1.nrw, m1.fut, ⟨m1.loc.tab, m1.loc.bx, m1.loc.rw⟩⟩ ⟨k1.os, k1.tape, k1.output, k1.size, k1.blk, k1.cell, k1.S1, k1.S2, k1.cellS⟩
  exact ⟨x, hx', .ret v', mo, _, hR, r4, r2, r3, x, rfl, r1⟩
 cases le with
 | normal => cases h3; exact key h2
 | ret => cases h3; exact key h2
 | exit _ => exact h2.elim
 | goto _ => exact h2.elim
 | pan v =>
  obtain ⟨x, rfl, hx'⟩ := h3
  obtain ⟨v', mo, ht, hR⟩ := h2
  show LeavesInM Fence.wide 0 P fn a'.tmps _ a'.defers (.panicking _) w'
  rw [hdf]
  refine leave_marks ms _ w' (by intro e; cases e) nd hblk fun w2 hw2 => ?_
  obtain ⟨v1, m1, k1⟩ := RelM.shut (hx.relM h1.mem) (hx.kept _ _ h1.kept) hout hw2
  obtain ⟨r1, r2, r3, r4⟩ := ht.rep rfl (hks _ _ hR) hm (hx'.mono v1) ⟨m1.ob, m1.wr, m1.dj, m1.nbx, m1.nrw, m1.fut, ⟨m1.loc.tab, m1.loc.bx, m1.loc.rw⟩⟩ ⟨k1.os, k1.tape, k1.output, k1.size, k1.blk, k1.cell, k1.S1, k1.S2, k1.cellS⟩
  exact ⟨.pan v', mo, _, hR, r4, r2, r3, x, rfl, r1⟩
theorem LM.enter (X : TOk P) {f N : Nat} {fn : Func} {c : Code} {args : List V} {rs : List ResultVar} {mi : Mem} {R : Out → Mem → Prop} (hf : P.funcs[f]? = some fn) (hb : fn.body = some c) (hN : fn.ntmps = N) (hrs : fn.results = rs.toArray) (hok : callOk P f = true)
  (hle : Nat.ble args.length N = true) (hrl : Nat.ble rs.length 3 = true) (hbig : (mi.all fun x => Nat.ble 1000 x.1) = true) (hks : ∀ o mo, R o mo → keysOk mi mo = true) (h : ∀ F, F.D = [] → LC P F N c (LRet X rs R) (params 0 args) mi) : LM P f args mi R :=
 ⟨hok, fun _ _ _ hm hl hr => enter_core X hf hb hN hrs hle hrl hbig hks hm hl hr false (h _ rfl)⟩
theorem LFx.mk' (X : TOk P) {f N : Nat} {fn : Func} {c : Code} {args : List V} {rs : List ResultVar} {R : Out → Mem → Prop} (hf : P.funcs[f]? = some fn) (hb : fn.body = some c) (hN : fn.ntmps = N) (hrs : fn.results = rs.toArray) (hok : callOk P f = true)
  (hle : Nat.ble args.length N = true) (hrl : Nat.ble rs.length 3 = true) (h : ∀ F : Fr0, LC P F N c (LRet X rs R) (params 0 args) []) : LM P f args [] R :=
 LM.enter X hf hb hN hrs hok hle hrl rfl (fun _ _ _ => rfl) fun F _ => h F
def evs (env : Env) : List Operand → Option (List V)
 | [] => some []
 | x :: r => match evo env x, evs env r with
  | some v, some vs => some (v :: vs)
  | _, _ => none
theorem evs_get {env : Env} : ∀ {xs : List Operand} {us : List V}, evs env xs = some us → xs.length = us.length ∧ ∀ (j : Nat) u, us[j]? = some u → ∃ x, xs[j]? = some x ∧ evo env x = some u
 | [], us, h => by simp [evs] at h; subst h; simp
 | x :: r, us, h => by
  simp only [evs] at h
  split at h
  ·rename_i v vs hv hvs
   cases h
   obtain ⟨h1, h2⟩ := evs_get hvs
   refine ⟨by simp [h1], fun j u hj => ?_⟩
   cases j with
   | zero => simp at hj; subst hj; exact ⟨x, by simp, hv⟩
   | succ j => simp at hj; obtain ⟨y, hy, hu⟩ := h2 j u hj; exact ⟨y, by simpa using hy, hu⟩
  ·cases h
inductive Fits : List V → List V → Prop
 | same (us) : Fits us us
 | cv {us args : List V} (keep nn) (h : V.cv.go keep nn us = args) : Fits us args
theorem fits_rep {g : Gh} {w : World} {us args : List V} (h : Fits us args) : us.length = args.length ∧ ∀ {j : Nat} {v}, args[j]? = some v → ∃ u, us[j]? = some u ∧ ∀ x, Rep w g u x → Rep w g v x := by
 cases h with
 | same => exact ⟨rfl, fun h => ⟨_, h, fun _ h => h⟩⟩
 | cv keep nn h =>
  subst h
  rw [cv_go]
  refine ⟨by simp, fun {j v} hj => ?_⟩
  rw [List.getElem?_map] at hj
  obtain ⟨u, hu, rfl⟩ := Option.map_eq_some_iff.1 hj
  exact ⟨u, hu, fun _ h => h.cv⟩
theorem exec_call {o : Oper} {fx : Nat} {xs : List Operand} {ts : Array Nat} (ho : o.op = .call { callee := .value (.func fx), args := xs.toArray, argTypes := ts }) (hok : callOk P fx = true) (a : Act) (w : World) :
  (execOp a.eval o).run P w = .ok (.enter fx (xs.map a.eval).toArray) w := by
 unfold callOk at hok
 split at hok
 ·rename_i fn hfn
  simp only [Bool.and_eq_true, Bool.not_eq_true'] at hok
  have hn : ¬ fn.body = none := by cases hb : fn.body <;> simp_all
  have hm : ¬ fn.name = "runtime.NumGoroutine" := by simpa using hok.1
  simp [execOp, ho, resolve, Act.eval, Deferred.ofValue, invoke, callFunc, hfn, hm, hn]
 ·cases hok
def callT (mi mo : Mem) : Tch := mo.map fun x => (x.1, aget mi x.1, some x.2)
theorem tset_call (mi mo mem : Mem) : tset (callT mi mo) mem = mo ++ mem := by
 induction mo with
 | nil => rfl
 | cons x r ih =>
  obtain ⟨i, m⟩ := x
  simp only [callT, List.map_cons, tset, List.cons_append]
  exact congrArg _ ih
theorem aget_append {α : Type} (l r : List (Nat × α)) (i : Nat) : aget (l ++ r) i = (aget l i).or (aget r i) := by
 induction l with
 | nil => simp [aget]
 | cons x l ih =>
  obtain ⟨n, v⟩ := x
  rw [List.cons_append, aget_cons, aget_cons]
  split
  ·rfl
  ·exact ih
theorem tpre_call {mi mo mem : Mem} (h : tpre (callT mi mo) mem) (hko : keysOk mi mo = true) : (∀ i m, aget mi i = some m → aget mem i = some m) ∧ ∀ i m, aget mo i = some m → aget mi i = none → aget mem i = none := by
 have key : ∀ i m, aget mo i = some m → aget mem i = aget mi i := fun i m hi => h i _ (some m) (List.mem_map.2 ⟨(i, m), aget_mem hi, rfl⟩)
 refine ⟨fun i m hi => ?_, fun i m hi hn => (key i m hi).trans hn⟩
 obtain ⟨m', hm'⟩ := Option.isSome_iff_exists.1 (keysOk_spec hko hi)
 exact (key i m' hm').trans hi
theorem call_state {F : Fr0} {g gc' : Gh} {w w' : World} {mem mi mo : Mem} (h2 : RelM F g mem w) (h3 : Kept F g w) (hM : ∀ i m, aget mi i = some m → aget mem i = some m) (hko : keysOk mi mo = true) (hnew : ∀ i m, aget mo i = some m → aget mi i = none → aget mem i = none)
    (he : Ev (g.only mi) w gc' w') (hm : RelM (lentF (g.only mi) mi w) gc' mo w') (hk : Kept (lentF (g.only mi) mi w) gc' w') :
    ∃ g2, Ev g w g2 w' ∧ RelM F g2 (mo ++ mem) w' ∧ Kept F g2 w' ∧ ∀ v x, Rep w' gc' v x → Rep w' g2 v x := by
  have hin : ∀ i m, aget mi i = some m → (aget mo i).isSome = true := fun i m hi => keysOk_spec hko hi
  have hag : ∀ i, aget (mo ++ mem) i = (aget mo i).or (aget mem i) := fun i => aget_append mo mem i
  have hB : ∀ b o, (lentF (g.only mi) mi w).B b o ↔ ∃ i m, aget mi i = some m ∧ fp g i m b o := fun b o => by
    constructor
    · rintro ⟨i, m, h, hp⟩; exact ⟨i, m, h, (fp_congr (only_at h).1 (only_at h).2).1 hp⟩
    · rintro ⟨i, m, h, hp⟩; exact ⟨i, m, h, (fp_congr (only_at h).1 (only_at h).2).2 hp⟩
  let g2 : Gh := ⟨gc'.S, fun i => if (aget mo i).isSome then gc'.bx i else g.bx i, fun i => if (aget mo i).isSome then gc'.rw i else g.rw i⟩
  have g2in : ∀ i m, aget mo i = some m → g2.bx i = gc'.bx i ∧ g2.rw i = gc'.rw i := fun i m h => by simp [g2, h]
  have g2out : ∀ i, aget mo i = none → g2.bx i = g.bx i ∧ g2.rw i = g.rw i := fun i h => by simp [g2, h]
  have hlift : Ev gc' w' g2 w' := by
    refine ⟨Nat.le_refl _, fun b o _ hs => ⟨hs, rfl⟩, fun i z hz => ?_, fun i a l c hr => ?_⟩
    · cases hmo : aget mo i with
      | none => rw [hm.nbx i hmo] at hz; cases hz
      | some m => rw [(g2in i m hmo).1]; exact hz
    · cases hmo : aget mo i with
      | none => rw [hm.nrw i hmo] at hr; cases hr
      | some m => exact ⟨a, l, c, by rw [(g2in i m hmo).2]; exact hr, Nat.le_refl _, fun _ => ⟨rfl, rfl⟩⟩
  have hev : Ev g w g2 w' := by
    refine ⟨he.size, fun b o hb hs => he.st b o hb hs, fun i z hz => ?_, fun i a l c hr => ?_⟩
    · cases hmo : aget mo i with
      | none => rw [(g2out i hmo).1]; exact hz
      | some m =>
        rw [(g2in i m hmo).1]
        cases hmi : aget mi i with
        | none => have := h2.nbx i (hnew i m hmo hmi); rw [this] at hz; cases hz
        | some m' => exact he.bx i z (by rw [(only_at hmi).1]; exact hz)
    · cases hmo : aget mo i with
      | none => exact ⟨a, l, c, by rw [(g2out i hmo).2]; exact hr, Nat.le_refl _, fun _ => ⟨rfl, rfl⟩⟩
      | some m =>
        rw [(g2in i m hmo).2]
        cases hmi : aget mi i with
        | none => have := h2.nrw i (hnew i m hmo hmi); rw [this] at hr; cases hr
        | some m' => exact he.rw i a l c (by rw [(only_at hmi).2]; exact hr)
  have hget : ∀ i m, aget (mo ++ mem) i = some m → aget mo i = some m ∨ (aget mo i = none ∧ aget mi i = none ∧ aget mem i = some m) := fun i m h => by
    rw [hag] at h
    cases hmo : aget mo i with
    | some m' => rw [hmo] at h; simp at h; subst h; exact .inl rfl
    | none =>
      rw [hmo] at h; simp at h
      cases hmi : aget mi i with
      | none => exact .inr ⟨rfl, rfl, h⟩
      | some m' => have := hin i m' hmi; rw [hmo] at this; cases this
  have hno : ∀ i m b o, aget mi i = none → aget mem i = some m → fp g i m b o → ¬ (lentF (g.only mi) mi w).B b o := fun i m b o hmi hme hp hBb => by
    obtain ⟨k, n, hk1, hk2⟩ := (hB b o).1 hBb
    exact h2.dj i k m n b o (fun e => by subst e; rw [hmi] at hk1; cases hk1) hme (hM k n hk1) hp hk2
  have hwr : ∀ b o, (lentF (g.only mi) mi w).B b o → F.wr b o := fun b o hBb => by
    obtain ⟨k, n, hk1, hk2⟩ := (hB b o).1 hBb
    exact h2.wr k n b o (hM k n hk1) hk2
  have hfin : ∀ i m b o, aget mo i = some m → fp g2 i m b o → (w.heap.size ≤ b ∨ (lentF (g.only mi) mi w).B b o) := fun i m b o hmo hp => hm.wr i m b o hmo ((fp_congr (g2in i m hmo).1 (g2in i m hmo).2).1 hp)
  have hfout : ∀ i m b o, aget mo i = none → fp g2 i m b o → fp g i m b o := fun i m b o hmo hp => (fp_congr (g2out i hmo).1 (g2out i hmo).2).1 hp
  refine ⟨g2, hev, ⟨fun i m hi => ?_, fun i m b o hi hp => ?_, fun i j m n b o hij hi hj hp hq => ?_, fun i hi => ?_, fun i hi => ?_, hm.fut, h2.loc.ev hev⟩, ⟨hk.os.trans h3.os, hk.tape.trans h3.tape, hk.output.trans h3.output, Nat.le_trans h3.size hk.size, fun b hlt hBF => ?_, fun b o hlt hBF => ?_, fun b o hlt hBF hs => ?_, fun b o hlt hs => ?_, fun b o hlt hs => ?_⟩, fun v x h => h.mono hlift⟩
  · rcases hget i m hi with hmo | ⟨hmo, hmi, hme⟩
    · exact (hm.ob i m hmo).mono hlift (g2in i m hmo).1 (g2in i m hmo).2 (fun _ _ _ => ⟨rfl, rfl, fun h => h⟩) fun _ _ => rfl
    · refine (h2.ob i m hme).mono hev (g2out i hmo).1 (g2out i hmo).2 (fun b o hp => ?_) fun b hp => ?_
      · have hlt := (h2.ob i m hme).lt hp
        obtain ⟨k1, k2⟩ := hk.cell b o hlt (hno i m b o hmi hme hp)
        exact ⟨k1, k2, hk.S1 b o hlt (hno i m b o hmi hme hp)⟩
      · exact hk.blk b ((h2.ob i m hme).lt (hp 0)) fun o => hno i m b o hmi hme (hp o)
  · rcases hget i m hi with hmo | ⟨hmo, hmi, hme⟩
    · rcases hfin i m b o hmo hp with h | h
      · exact .inl (Nat.le_trans h3.size h)
      · exact hwr b o h
    · exact h2.wr i m b o hme (hfout i m b o hmo hp)
  · have key : ∀ i m j n, aget mo i = some m → aget mo j = none → aget mi j = none → aget mem j = some n → fp g2 i m b o → fp g2 j n b o → False := fun i m j n hmo hmo' hmi hme hp hq => by
      have hq' := hfout j n b o hmo' hq
      rcases hfin i m b o hmo hp with h | h
      · have := (h2.ob j n hme).lt hq'; omega
      · exact hno j n b o hmi hme hq' h
    rcases hget i m hi with hmo | ⟨hmo, hmi, hme⟩ <;> rcases hget j n hj with hmo' | ⟨hmo', hmi', hme'⟩
    · exact hm.dj i j m n b o hij hmo hmo' ((fp_congr (g2in i m hmo).1 (g2in i m hmo).2).1 hp) ((fp_congr (g2in j n hmo').1 (g2in j n hmo').2).1 hq)
    · exact key i m j n hmo hmo' hmi' hme' hp hq
    · exact key j n i m hmo' hmo hmi hme hq hp
    · exact h2.dj i j m n b o hij hme hme' (hfout i m b o hmo hp) (hfout j n b o hmo' hq)
  · rw [hag] at hi
    cases hmo : aget mo i with
    | some m => rw [hmo] at hi; simp at hi
    | none => rw [hmo] at hi; simp at hi; rw [(g2out i hmo).1]; exact h2.nbx i hi
  · rw [hag] at hi
    cases hmo : aget mo i with
    | some m => rw [hmo] at hi; simp at hi
    | none => rw [hmo] at hi; simp at hi; rw [(g2out i hmo).2]; exact h2.nrw i hi
  · refine (hk.blk b (Nat.lt_of_lt_of_le hlt h3.size) fun o hBb => ?_).trans (h3.blk b hlt hBF)
    rcases hwr b o hBb with h | h
    · omega
    · exact hBF o h
  · have hnB : ¬ (lentF (g.only mi) mi w).B b o := fun hBb => (hwr b o hBb).elim (fun h => by omega) hBF
    obtain ⟨k1, k2⟩ := hk.cell b o (Nat.lt_of_lt_of_le hlt h3.size) hnB
    obtain ⟨l1, l2⟩ := h3.cell b o hlt hBF
    exact ⟨k1.trans l1, k2.trans l2⟩
  · have hnB : ¬ (lentF (g.only mi) mi w).B b o := fun hBb => (hwr b o hBb).elim (fun h => by omega) hBF
    exact h3.S1 b o hlt hBF (hk.S1 b o (Nat.lt_of_lt_of_le hlt h3.size) hnB hs)
  · exact hk.S2 b o (Nat.lt_of_lt_of_le hlt h3.size) (h3.S2 b o hlt hs)
  · exact (hk.cellS b o (Nat.lt_of_lt_of_le hlt h3.size) (h3.S2 b o hlt hs)).trans (h3.cellS b o hlt hs)
theorem call_ends {F : Fr0} {g : Gh} {w : World} {mem mi : Mem} {fx : Nat} {args : List V} {R : Out → Mem → Prop} (hc : LM P fx args mi R) (h2 : RelM F g mem w) (h3 : Kept F g w) (hR : refsM mi mi = true) (hra : V.refs.go mi args = true) (hM : ∀ i m, aget mi i = some m → aget mem i = some m)
  {vals : Array Value} (hl : args.length = vals.size) (hr : ∀ (j : Nat) u x, args[j]? = some u → vals[j]? = some x → Rep w g u x) :
  Calls P fx vals w fun e w' => ∃ o mo, R o mo ∧ (keysOk mi mo = true → (∀ i m, aget mo i = some m → aget mi i = none → aget mem i = none) → ∃ g2, Ev g w g2 w' ∧ RelM F g2 (mo ++ mem) w' ∧ Kept F g2 w' ∧ o.At w' g2 e) := by
 have hrel : RelM (lentF (g.only mi) mi w) (g.only mi) mi w := h2.sub hM hR ⟨(show TabAt w g.S from h2.loc.tab.kept h3), fun _ _ h => h, fun _ a l c h => ⟨a, l, c, h, Nat.le_refl _, fun _ => ⟨rfl, rfl⟩⟩⟩ fun i m b o hi hp => .inr ⟨i, m, hi, (fp_congr (only_at hi).1 (only_at hi).2).2 hp⟩
 refine Calls.mono (hc.go (g.only mi) w vals hrel hl fun j u x hj hx => (hr j u x hj hx).only (refs_go hra u (List.mem_of_getElem? hj))) ?_
 rintro e w' ⟨o, mo, g', hRo, he, hm, hk, hat⟩
 refine ⟨o, mo, hRo, fun hko hnew => ?_⟩
 obtain ⟨g2, k1, k2, k3, k4⟩ := call_state h2 h3 hM hko hnew he hm hk
 refine ⟨g2, k1, k2, k3, ?_⟩
 cases o with
 | ret v => obtain ⟨x, e1, e2⟩ := hat; exact ⟨x, e1, k4 v x e2⟩
 | pan v => obtain ⟨x, e1, e2⟩ := hat; exact ⟨x, e1, k4 v x e2⟩
theorem args_rep {env : Env} {g : Gh} {a : Act} {w : World} {xs : List Operand} {us args : List V} (h1 : ∀ x ∈ xs, ∀ u, evo env x = some u → Rep w g u (a.eval x)) (hx : evs env xs = some us) (hu : Fits us args) :
  args.length = ((xs.map a.eval).toArray).size ∧ ∀ (j : Nat) u x, args[j]? = some u → (xs.map a.eval).toArray[j]? = some x → Rep w g u x := by
 obtain ⟨e1, e2⟩ := evs_get hx
 obtain ⟨f1, f2⟩ := fits_rep (w := w) (g := g) hu
 refine ⟨by simp; omega, fun j u x hj hxj => ?_⟩
 obtain ⟨u0, hu0, hb⟩ := f2 hj
 obtain ⟨y, hy, hev⟩ := e2 j u0 hu0
 have : x = a.eval y := by simp [hy] at hxj; exact hxj.symm
 subst this
 exact hb _ (h1 y (List.mem_of_getElem? hy) u0 hev)
theorem Does.callM {o : Oper} {env : Env} {fx : Nat} {xs : List Operand} {ts : Array Nat} {us args : List V} {mi mo : Mem} {v : V} (hc : LM P fx args mi fun o m => o = .ret v ∧ m = mo) (ho : o.op = .call { callee := .value (.func fx), args := xs.toArray, argTypes := ts }) (hx : evs env xs = some us) (hu : Fits us args) (hr : (V.refs.go mi args && (refsM mi mi && keysOk mi mo)) = true) :
  Does P o env v (callT mi mo) := by
 refine ⟨fun F g a w mem h1 h2 h3 h4 _ K Q hK => ?_⟩
 simp only [Bool.and_eq_true] at hr
 obtain ⟨l1, l2⟩ := args_rep (fun x hxm u hxu => h1 x (by simp [ho, Op.operands, Call.operands]; exact .inr hxm) u hxu) hx hu
 obtain ⟨t1, t2⟩ := tpre_call h4 hr.2.2
 unfold Oper.wp
 rw [exec_call ho hc.ok]
 refine Calls.mono (call_ends hc h2 h3 hr.2.1 hr.1 t1 l1 l2) ?_
 rintro e w' ⟨o', mo', ⟨rfl, rfl⟩, hq⟩
 obtain ⟨g2, k1, k2, k3, x, rfl, k4⟩ := hq hr.2.2 t2
 exact hK x g2 w' k1 (by rw [tset_call]; exact k2) k3 k4
theorem Does.call {o : Oper} {env : Env} {fx : Nat} {xs : List Operand} {ts : Array Nat} {us args : List V} {out : V} (hc : LM P fx args [] fun o m => o = .ret out ∧ m = []) (ho : o.op = .call { callee := .value (.func fx), args := xs.toArray, argTypes := ts }) (hx : evs env xs = some us) (hu : Fits us args) (hr : V.refs.go [] args = true) :
  Does P o env out [] := Does.callM hc ho hx hu (by rw [hr]; rfl)
structure Pans (P : Program) (o : Oper) (env : Env) (v : V) (t : Tch) : Prop where
 nd : ∀ c, o.op ≠ .defer c
 ex : ∀ (F : Fr0) (g : Gh) (a : Act) (w : World) (mem : Mem), (∀ x ∈ o.op.operands.toList, ∀ u, evo env x = some u → Rep w g u (a.eval x)) → RelM F g mem w → Kept F g w → tpre t mem → a.defers = F.D →
  ∀ (K : Act → World → Prop) (Q : Exit → Act → World → Prop), (∀ x g' w', Ev g w g' w' → RelM F g' (tset t mem) w' → Kept F g' w' → Rep w' g' v x → Q (.panic [{ v := x, recovered := false }]) a w') → o.wp P a w K Q
theorem Pans.callM {o : Oper} {env : Env} {fx : Nat} {xs : List Operand} {ts : Array Nat} {us args : List V} {mi mo : Mem} {v : V} (hc : LM P fx args mi fun o m => o = .pan v ∧ m = mo) (ho : o.op = .call { callee := .value (.func fx), args := xs.toArray, argTypes := ts }) (hx : evs env xs = some us) (hu : Fits us args) (hr : (V.refs.go mi args && (refsM mi mi && keysOk mi mo)) = true) :
  Pans P o env v (callT mi mo) := by
 refine ⟨fun c e => (by rw [ho] at e; cases e), fun F g a w mem h1 h2 h3 h4 _ K Q hK => ?_⟩
 simp only [Bool.and_eq_true] at hr
 obtain ⟨l1, l2⟩ := args_rep (fun x hxm u hxu => h1 x (by simp [ho, Op.operands, Call.operands]; exact .inr hxm) u hxu) hx hu
 obtain ⟨t1, t2⟩ := tpre_call h4 hr.2.2
 unfold Oper.wp
 rw [exec_call ho hc.ok]
 refine Calls.mono (call_ends hc h2 h3 hr.2.1 hr.1 t1 l1 l2) ?_
 rintro e w' ⟨o', mo', ⟨rfl, rfl⟩, hq⟩
 obtain ⟨g2, k1, k2, k3, x, rfl, k4⟩ := hq hr.2.2 t2
 exact hK x g2 w' k1 (by rw [tset_call]; exact k2) k3 k4
theorem Pans.panic {o : Oper} {env : Env} {x : Operand} {T : TypeId} {v : V} (ho : o.op = .panic x) (hx : evo env x = some (.i T v)) : Pans P o env (.i T v) [] := by
 refine ⟨fun c e => (by rw [ho] at e; cases e), fun F g a w mem h1 h2 h3 h4 _ K Q hK => ?_⟩
 have hr := h1 x (by simp [ho, Op.operands]) _ hx
 obtain ⟨y, hy⟩ : ∃ y, a.eval x = .iface T y := by generalize a.eval x = z at hr; cases hr; exact ⟨_, rfl⟩
 rw [hy] at hr
 unfold Oper.wp
 have hrun : (execOp a.eval o).run P w = .halt (.panic (.iface T y)) w := by
  simp [execOp, ho, hy, Instr.panic, goPanic]
 rw [hrun]
 exact hK _ g w (Ev.refl g w) h2 h3 hr
theorem LS.pan {F : Fr0} {N : Nat} {Q : LQ} {env : Env} {mem : Mem} {ops : Array Oper} {o : Oper} {r : List Oper} {v : V} {t : Tch} (hg : gd ops env o = some true) (h : Pans P o env v t) (ht : tpre t mem) (hQ : Q (.pan v) env (tset t mem)) : LS P F N ops (o :: r) Q env mem := ⟨fun F0 hx g a w hr =>
 wpListIn_step fun _ hK' => by
  rw [gd_wanted hr hg, if_pos rfl]
  refine op_in (h.ex F0 g a w mem (fun _ _ _ hu => hr.evo hu) hr.mem hr.kept ht hr.defers _ _ fun x g' w' he hm hk hx => ⟨F0, .refl _, env, _, g', .pan v, ⟨fun t u hu => by obtain ⟨y, h1, h2⟩ := hr.env t u hu; exact ⟨y, h1, h2.mono he⟩, hm, hk, hr.defers, hr.size, hr.big⟩, ⟨x, rfl, hx⟩, hQ⟩) h.nd⟩
end
end Lf
open Go.RowKit Rg
namespace Lf
section
variable {P : Program} {o : Oper} {env : Env} {v : V}
def vfill (place : Nat → Option (Nat × Nat)) : List V → List (Nat × V) → Option (List V)
 | cells, [] => some cells
 | cells, (i, v) :: r =>
  match place i with
  | some (off, size) => cond (v.ok && (Nat.beq v.cells.length size && Nat.ble (off + v.cells.length) cells.length)) (vfill place (splice cells off v.cells) r) none
  | none => none
def evp (env : Env) : List (Nat × Operand) → Option (List (Nat × V))
 | [] => some []
 | (i, x) :: r => match evo env x, evp env r with
  | some v, some vs => some ((i, v) :: vs)
  | _, _ => none
def places (tab : Tab) : List (Nat × Nat) → Option (List (Nat × Nat))
 | [] => some []
 | (off, t) :: r => match aget tab t, places tab r with
  | some ti, some ps => some ((off, ti.size) :: ps)
  | _, _ => none
def PR (w : World) (g : Gh) : List (Nat × V) → List (Nat × Value) → Prop
 | [], [] => True
 | (i, v) :: r, (j, x) :: s => i = j ∧ Rep w g v x ∧ PR w g r s
 | _, _ => False
theorem evp_rep {w : World} {g : Gh} {a : Act} : ∀ {ps : List (Nat × Operand)} {vs : List (Nat × V)}, evp env ps = some vs → (∀ x ∈ ps.map (·.2), ∀ u, evo env x = some u → Rep w g u (a.eval x)) → PR w g vs (ps.map fun (i, x) => (i, a.eval x))
 | [], vs, h, _ => by simp [evp] at h; subst h; trivial
 | (i, x) :: r, vs, h, hr => by
  simp only [evp] at h
  split at h
  ·rename_i v vs' hv hvs
   cases h
   exact ⟨rfl, hr x (by simp) v hv, evp_rep hvs fun y hy => hr y (by simp only [List.map_cons, List.mem_cons]; exact .inr hy)⟩
  ·cases h
theorem fill_rep {w : World} {g : Gh} {place : Nat → Option (Nat × Nat)} : ∀ {ps : List (Nat × V)} {qs : List (Nat × Value)} {cs cs' : List V} {xs : Array Value}, PR w g ps qs → vfill place cs ps = some cs' → cs.length = xs.size → (∀ u ∈ cs, u.one = true) →
    (∀ (j : Nat) u x, cs[j]? = some u → xs[j]? = some x → Rep w g u x) → ∃ xs', Instr.fill place xs qs = some xs' ∧ cs'.length = xs'.size ∧ (∀ u ∈ cs', u.one = true) ∧ ∀ (j : Nat) u x, cs'[j]? = some u → xs'[j]? = some x → Rep w g u x
  | [], [], cs, cs', xs, _, h, hl, h1, hr => by simp [vfill] at h; subst h; exact ⟨xs, rfl, hl, h1, hr⟩
  | (i, v) :: r, (j, x) :: s, cs, cs', xs, hp, h, hl, h1, hr => by
    obtain ⟨rfl, hvx, hp'⟩ := hp
    simp only [vfill] at h
    split at h
    · rename_i off size hpl
      cases hc : (v.ok && (Nat.beq v.cells.length size && Nat.ble (off + v.cells.length) cs.length))
      · rw [hc] at h; cases h
      · rw [hc] at h
        simp only [Bool.and_eq_true] at hc
        obtain ⟨c1, c2, c3⟩ := hc
        have e2 := Nat.eq_of_beq_eq_true c2
        have e3 := Nat.le_of_ble_eq_true c3
        obtain ⟨q1, q2, q3⟩ := rep_cells hvx c1
        obtain ⟨f1, f2⟩ := Great.foldl_set off x.cells.toList 0 xs
        have hsz : (x.cells.zipIdx.foldl (fun cs (x : Value × Nat) => cs.setIfInBounds (off + x.2) x.1) xs) = ((x.cells.toList.zipIdx 0).foldl (fun cs (x : Value × Nat) => cs.setIfInBounds (off + x.2) x.1) xs) := by
          rw [← Array.foldl_toList, Array.toList_zipIdx]
        obtain ⟨xs', g1, g2, g3, g4⟩ := fill_rep (place := place) (cs := splice cs off v.cells) (xs := (x.cells.toList.zipIdx 0).foldl (fun cs (x : Value × Nat) => cs.setIfInBounds (off + x.2) x.1) xs) hp' h (by rw [splice_len e3, f1, hl]) (fun u hu => by
            obtain ⟨k, hk⟩ := List.getElem?_of_mem hu
            rw [splice_get e3] at hk
            split at hk
            · exact q2 u (List.mem_of_getElem? hk)
            · exact h1 u (List.mem_of_getElem? hk)) (fun k u y hk hy => by
            rw [splice_get e3] at hk
            rw [f2 k] at hy
            have hkl : k < cs.length := by
              split at hk
              · omega
              · exact (List.getElem?_eq_some_iff.1 hk).1
            simp only [Nat.add_zero, Array.length_toList] at hy
            split at hk
            · rename_i hin
              rw [if_pos ⟨hin.1, by omega, by omega⟩] at hy
              exact q3 _ u y hk (by simpa using hy)
            · rename_i hin
              rw [if_neg (by omega)] at hy
              exact hr k u y hk hy)
        refine ⟨xs', ?_, g2, g3, g4⟩
        unfold Instr.fill
        rw [hpl]
        simp only []
        rw [if_neg (by simp; omega), hsz]
        exact g1
    · cases h
  | [], _ :: _, _, _, _, hp, _, _, _, _ => hp.elim
  | _ :: _, [], _, _, _, hp, _, _, _, _ => hp.elim
theorem places_spec {X : TOk P} : ∀ {fs : List Field} {pl : List (Nat × Nat)}, places X.tab (fs.map fun f => (f.offset, f.type)) = some pl → fs.mapM (fun f => (P.info? f.type).map fun i => (f.offset, i.size)) = some pl
 | [], pl, h => by simp [places] at h; subst h; rfl
 | f :: r, pl, h => by
  simp only [List.map_cons, places] at h
  split at h
  ·rename_i ti ps ht hps
   cases h
   have h1 := (X.get ht).size
   have h2 := places_spec hps
   simp only [List.mapM_cons, h2]
   cases hi : P.info? f.type with
   | none => simp [hi] at h1
   | some i => simp [hi] at h1; simp [h1]
  ·cases h
theorem zero_rep {w : World} {g : Gh} {zs : List Z} {z : Value} (hzz : ∀ (j : Nat) zz, zs[j]? = some zz → ∃ x, z.cells.toList[j]? = some x ∧ zz.is x = true) : (∀ u ∈ zs.map Z.v, u.one = true) ∧ ∀ (j : Nat) u x, (zs.map Z.v)[j]? = some u → z.cells[j]? = some x → Rep w g u x := by
 refine ⟨fun u hu => by obtain ⟨q, _, rfl⟩ := List.mem_map.1 hu; exact q.one, fun j u x hj hx => ?_⟩
 rw [List.getElem?_map] at hj
 obtain ⟨q, hq, rfl⟩ := Option.map_eq_some_iff.1 hj
 obtain ⟨x', hx', hi'⟩ := hzz j q hq
 have : x = x' := by simpa [hx] using hx'
 subst this
 exact Z.rep hi'
theorem ops_parts {a : Act} {ps : List (Nat × Operand)} : (ps.toArray.map fun (i, x) => (i, a.eval x)).toList = ps.map fun (i, x) => (i, a.eval x) := by simp
theorem Does.buildSt {T : Nat} {ps : List (Nat × Operand)} {fs pl : List (Nat × Nat)} {vs : List (Nat × V)} {cs : List V} (X : TOk P) {ti : TI} (ho : o.op = .build T ps.toArray) (hT : aget X.tab T = some ti) (hd : ti.d = .st fs) (hpl : places X.tab fs = some pl) (hv : evp env ps = some vs) (hc : vfill (fun i => pl[i]?) (ti.zero.map Z.v) vs = some cs) : Does P o env (.a cs) [] :=
 .pure fun F g a w mem hr _ => by
  have hp := evp_rep (w := w) (g := g) (a := a) hv (fun x hx u hu => hr x (by simpa [ho, Op.operands] using hx) u hu)
  obtain ⟨i, hi, hs, hb, z, hz, hl, hl', hzz, _⟩ := (X.get hT).info
  obtain ⟨z1, z2⟩ := zero_rep (w := w) (g := g) hzz
  obtain ⟨xs, f1, f2, f3, f4⟩ := fill_rep hp hc (xs := z.cells) (by simpa using hl) z1 z2
  obtain ⟨gs, hu, hg⟩ := (X.get hT).st hd
  rw [← hg] at hpl
  have hb : P.built T (ps.toArray.map fun (i, x) => (i, a.eval x)).toList = some xs := by
   unfold Program.built
   simp only [hi, hu, hz, places_spec hpl, ops_parts]
   rw [← f1]
   congr 1
   funext k
   simp
  refine ⟨.agg xs, ?_, .a f2 f3 f4⟩
  simp only [execOp, ho, Sem.run_bind, run_build w T _ _ hb]
  rfl
theorem Does.buildArr {T n e : Nat} {ps : List (Nat × Operand)} {vs : List (Nat × V)} {cs : List V} (X : TOk P) {ti ei : TI} (ho : o.op = .build T ps.toArray) (hT : aget X.tab T = some ti) (hd : ti.d = .arr n e) (hE : aget X.tab e = some ei) (hv : evp env ps = some vs) (hc : vfill (fun i => some (i * ei.size, ei.size)) (ti.zero.map Z.v) vs = some cs) : Does P o env (.a cs) [] :=
 .pure fun F g a w mem hr _ => by
  have hp := evp_rep (w := w) (g := g) (a := a) hv (fun x hx u hu => hr x (by simpa [ho, Op.operands] using hx) u hu)
  obtain ⟨i, hi, hs, hb, z, hz, hl, hl', hzz, _⟩ := (X.get hT).info
  obtain ⟨ie, hie, hse, _⟩ := (X.get hE).info
  obtain ⟨z1, z2⟩ := zero_rep (w := w) (g := g) hzz
  obtain ⟨xs, f1, f2, f3, f4⟩ := fill_rep hp hc (xs := z.cells) (by simpa using hl) z1 z2
  have hb : P.built T (ps.toArray.map fun (i, x) => (i, a.eval x)).toList = some xs := by
   unfold Program.built
   simp only [hi, (X.get hT).arr hd, hz, hie, ops_parts, hse]
   exact f1
  refine ⟨.agg xs, ?_, .a f2 f3 f4⟩
  simp only [execOp, ho, Sem.run_bind, run_build w T _ _ hb]
  rfl
theorem RelM.newRow {F : Fr0} {g : Gh} {w : World} {mem : Mem} (h : RelM F g mem w) (hk : Kept F g w) {i E sz c : Nat} {es : List V} {xs : Array Value} (hi : aget mem i = none) (hp : 0 < sz) (hc : es.length ≤ c) (hm : c ≤ maxLen) (hxs : xs.size = c * sz)
  (hs : ∀ e ∈ es, e.cells.length = sz ∧ ∀ u ∈ e.cells, u.one = true) (hr : ∀ (j : Nat) u z, (es.flatMap V.cells)[j]? = some u → xs[j]? = some z → Rep w g.bare u z) :
  ∃ g', Ev g w g' (w.alloc (.cells xs E)) ∧ RelM F g' ((i, .r E sz es.length) :: mem) (w.alloc (.cells xs E)) ∧ Kept F g' (w.alloc (.cells xs E)) ∧ Rep (w.alloc (.cells xs E)) g' (.s (some i) es) (.slice (some ⟨w.heap.size, 0, none⟩) es.length c) := by
 have hfl := flat_len fun e he => (hs e he).1
 have hle : es.length * sz ≤ xs.size := by rw [hxs]; exact Nat.mul_le_mul_right _ hc
 have hown : (w.alloc (.cells xs E)).oRow 0 E sz (.slice (some ⟨w.heap.size, 0, none⟩) es.length c) es.length (xs.toList.take (es.length * sz)) :=
  ⟨by simp; omega, .inr ⟨w.heap.size, c, xs, _, rfl, Nat.zero_le _, heap_alloc_new w _, hc, hm, hxs, rfl, .inl rfl⟩⟩
 have hrw : (g.newR i w.heap.size (es.length * sz) es.length c).rw i = some (some w.heap.size, es.length, c) := by simp [Gh.newR]
 obtain ⟨e1, e2, e3⟩ := h.newR hk (n := es.length * sz) (l := es.length) (c := c) (m' := .r E sz es.length) (o := .cells xs E) hi (.r hrw ⟨hp, ⟨_, hown⟩, fun b hb o ho hS => by cases hb; have := hS.2 rfl; omega⟩) fun b o' ⟨l, c', hp'⟩ => by rw [hrw] at hp'; cases hp'; rfl
 refine ⟨_, e1, e2, e3, Rep.row (a := some w.heap.size) rfl hp hrw hown (fun b hb => ?_) hs (fun j u z hj hz => ?_)⟩
 ·cases hb
  exact ⟨by simp, fun o ho => ⟨h.fut _ o (Nat.le_refl _), fun _ => ho⟩⟩
 ·rw [List.getElem?_take] at hz
  split at hz
  ·exact (hr j u z hj (by simpa using hz)).mono e1.bare
  ·cases hz
def Gh.addRow (g : Gh) (i : Nat) (z : Option Nat × Nat × Nat) : Gh := ⟨g.S, g.bx, fun j => if j = i then some z else g.rw j⟩
theorem RelM.nilRow {F : Fr0} {g : Gh} {w : World} {mem : Mem} (h : RelM F g mem w) (hk : Kept F g w) {i : Nat} {m : M} (hi : aget mem i = none) (ho : ObjAt (g.addRow i (none, 0, 0)) w i m) (hf : ∀ b o, ¬ fp (g.addRow i (none, 0, 0)) i m b o) :
  Ev g w (g.addRow i (none, 0, 0)) w ∧ RelM F (g.addRow i (none, 0, 0)) ((i, m) :: mem) w ∧ Kept F (g.addRow i (none, 0, 0)) w := by
 have he : Ev g w (g.addRow i (none, 0, 0)) w := ⟨Nat.le_refl _, fun _ _ _ hs => ⟨hs, rfl⟩, fun _ _ hz => hz, fun r a l c h' => ⟨a, l, c, by
  simp only [Gh.addRow]
  split
  ·rename_i e; subst e; rw [h.nrw _ hi] at h'; cases h'
  ·exact h', Nat.le_refl _, fun _ => ⟨rfl, rfl⟩⟩⟩
 exact ⟨he, h.step hk he rfl rfl rfl (fun _ _ _ _ => ⟨rfl, rfl, fun hs => hs⟩) (fun _ _ _ => rfl) (fun _ _ => rfl) (fun j hj => by simp [Gh.addRow, hj]) ho (fun b o hp => absurd hp (hf b o)) h.fut⟩
def dense : Nat → List (Nat × V) → Option (List V)
 | _, [] => some []
 | k, (i, v) :: r => match cond (Nat.beq i k) v.bare none, dense (k + 1) r with
  | some v', some vs => some (v' :: vs)
  | _, _ => none
theorem dense_spec {w : World} {g : Gh} : ∀ {k : Nat} {ps : List (Nat × V)} {qs : List (Nat × Value)} {es : List V}, PR w g ps qs → dense k ps = some es → es.length = ps.length ∧ qs.length = ps.length ∧ qs = ((qs.map (·.2)).zipIdx k).map (fun x => (x.2, x.1)) ∧ ∀ (j : Nat) u x, es[j]? = some u → (qs.map (·.2))[j]? = some x → Rep w g.bare u x
 | k, [], [], es, _, h => by simp [dense] at h; subst h; simp
 | k, (i, v) :: r, (j, x) :: s, es, hp, h => by
  obtain ⟨rfl, hvx, hp'⟩ := hp
  simp only [dense] at h
  split at h
  ·rename_i v' vs hv hvs
   cases h
   cases hb : Nat.beq i k
   ·rw [hb] at hv; cases hv
   ·rw [hb] at hv
    obtain rfl := Nat.eq_of_beq_eq_true hb
    obtain ⟨h1, h2, h3, h4⟩ := dense_spec hp' hvs
    refine ⟨by simp [h1], by simp [h2], ?_, fun j u y hj hy => ?_⟩
    ·simp only [List.map_cons, List.zipIdx_cons]
     rw [← h3]
    ·cases j with
     | zero => simp at hj hy; subst hj; subst hy; exact hvx.to_bare hv
     | succ j => simp at hj hy; exact h4 j u y hj (by simpa using hy)
  ·cases h
 | _, [], _ :: _, _, hp, _ => hp.elim
 | _, _ :: _, [], _, hp, _ => hp.elim
theorem flat_split {es : List V} {size j : Nat} (hp : 0 < size) (hs : ∀ e ∈ es, e.cells.length = size) {u : V} (hu : (es.flatMap V.cells)[j]? = some u) : ∃ e, es[j / size]? = some e ∧ e.cells[j % size]? = some u := by
 have hjl := (List.getElem?_eq_some_iff.1 hu).1
 rw [flat_len hs] at hjl
 have hd : j / size < es.length := (Nat.div_lt_iff_lt_mul hp).2 hjl
 refine ⟨es[j / size], List.getElem?_eq_getElem hd, ?_⟩
 have hm : j % size < es[j / size].cells.length := by rw [hs _ (List.getElem_mem hd)]; exact Nat.mod_lt _ hp
 have := flat_get hs (List.getElem?_eq_getElem hd) (List.getElem?_eq_getElem hm)
 rw [show j / size * size + j % size = j from by rw [Nat.mul_comm]; exact Nat.div_add_mod j size, hu] at this
 rw [List.getElem?_eq_getElem hm]
 exact this.symm
theorem Does.buildSlice {T E i len : Nat} {ps : List (Nat × Operand)} {vs : List (Nat × V)} {es : List V} (X : TOk P) {ti ei : TI} (ho : o.op = .buildSlice T len ps.toArray) (hT : aget X.tab T = some ti) (hd : ti.d = .sl E) (hE : aget X.tab E = some ei) (hpos : Nat.blt 0 ei.size = true) (hv : evp env ps = some vs) (hde : dense 0 vs = some es)
    (hlen : Nat.beq es.length len = true) (hsm : Nat.ble (len * ei.size) 16777216 = true) (hs : ∀ e ∈ es, e.cells.length = ei.size) (ho1 : (es.all V.ok) = true) : Does P o env (.s (some i) es) [(i, none, some (.r E ei.size len))] := by
  refine ⟨fun F g a w mem h1 h2 h3 h4 _ K Q hK => ?_⟩
  obtain rfl := (Nat.eq_of_beq_eq_true hlen).symm
  have hp := evp_rep (w := w) (g := g) (a := a) hv (fun x hx u hu => h1 x (by simpa [ho, Op.operands] using hx) u hu)
  obtain ⟨d1, d2, d3, d4⟩ := dense_spec hp hde
  have hpos' : 0 < ei.size := Nat.le_of_ble_eq_true hpos
  have hsm' := Nat.le_of_ble_eq_true hsm
  obtain ⟨ie, hie, hse, _, z, hz, _, hzs, _⟩ := (X.get hE).info
  have hu := (X.get hT).sl hd
  have key : ∃ xs : Array Value, (execOp a.eval o).run P w = .ok (.value (.slice (some ⟨w.heap.size, 0, none⟩) es.length es.length)) (w.alloc (.cells xs E)) ∧ xs.size = es.length * ei.size ∧ (∀ e ∈ es, e.cells.length = ei.size ∧ ∀ u ∈ e.cells, u.one = true) ∧
      ∀ (j : Nat) u y, (es.flatMap V.cells)[j]? = some u → xs[j]? = some y → Rep w g.bare u y := by
    generalize hq : (ps.map fun (i, x) => (i, a.eval x)) = qs at hp d2 d3 d4
    have hone : ∀ (j : Nat) e, es[j]? = some e → ∀ u ∈ e.cells, u.one = true := fun j e hj => by
      have hjl := (List.getElem?_eq_some_iff.1 hj).1
      have hql : j < (qs.map (·.2)).length := by simp; omega
      exact (rep_cells (d4 j e _ hj (List.getElem?_eq_getElem hql)) (List.all_eq_true.1 ho1 e (List.mem_of_getElem? hj))).2.1
    have hone' : ∀ e ∈ es, e.cells.length = ei.size ∧ ∀ u ∈ e.cells, u.one = true := fun e he => by
      obtain ⟨j, hj⟩ := List.getElem?_of_mem he
      exact ⟨hs e he, hone j e hj⟩
    rcases Nat.eq_zero_or_pos es.length with h0 | h0
    · have : es = [] := List.eq_nil_of_length_eq_zero h0
      subst this
      have hps : qs = [] := List.eq_nil_of_length_eq_zero (by simp at d1; omega)
      have hps' : ps = [] := by rw [← List.map_eq_nil_iff, hq]; exact hps
      subst hps'
      refine ⟨#[], ?_, by simp, by simp, by simp⟩
      simp [execOp, ho, Instr.buildSlice, run_underlying hu, (X.get hE).run_size, Instr.fill, newRow]
      congr 2
      exact Array.eq_empty_of_size_eq_zero (by simp)
    · have hcz : ∀ v ∈ qs.map (·.2), v.cells.size = ei.size := fun v hv' => by
        obtain ⟨j, hj⟩ := List.getElem?_of_mem hv'
        have hjl := (List.getElem?_eq_some_iff.1 hj).1
        have hje : j < es.length := by simp at hjl; omega
        have hme := List.getElem_mem hje
        obtain ⟨c1, _, _⟩ := rep_cells (d4 j _ _ (List.getElem?_eq_getElem hje) hj) (List.all_eq_true.1 ho1 _ hme)
        rw [← c1, hs _ hme]
      obtain ⟨r, r1, r2, r3⟩ := Great.fill_dense hpos' (qs.map (·.2)) 0 ((Array.range (es.length * ei.size)).map (z.cells[· % z.cells.size]!)) hcz (by simp; rw [d2, ← d1]; exact Nat.le_refl _)
      rw [← d3] at r1
      refine ⟨r, ?_, by rw [r2]; simp, hone', fun j u y hj hy => ?_⟩
      · have hb := run_buildSlice (P := P) w T E es.length (ps.toArray.map fun (i, x) => (i, a.eval x)) r ie z hu hie hz (by rw [hse]; omega) (by rw [hse]; have := Nat.mul_pos h0 hpos'; omega) (by rw [hse, ops_parts, hq]; exact r1)
        simp only [execOp, ho, Sem.run_bind, hb]
        rfl
      · obtain ⟨e, he, hue⟩ := flat_split hpos' hs hj
        have hjl := (List.getElem?_eq_some_iff.1 hj).1
        rw [flat_len hs] at hjl
        rw [r3 j] at hy
        have hel := (List.getElem?_eq_some_iff.1 he).1
        have hql : j / ei.size < (qs.map (·.2)).length := by simp; omega
        rw [if_pos ⟨by omega, by simp; rw [d2, ← d1]; exact hjl⟩, Nat.sub_zero, List.getElem?_eq_getElem hql] at hy
        exact (rep_cells (d4 _ e _ he (List.getElem?_eq_getElem hql)) (List.all_eq_true.1 ho1 e (List.mem_of_getElem? he))).2.2 _ u y hue (by simpa using hy)
  obtain ⟨xs, hrun, hxs, hs', hrep⟩ := key
  obtain ⟨g', k1, k2, k3, k4⟩ := h2.newRow h3 (i := i) (E := E) (h4 _ _ _ mem_one) hpos' (Nat.le_refl _) (by unfold maxLen; have := Nat.le_mul_of_pos_right es.length hpos'; omega) hxs hs' hrep
  unfold Oper.wp
  rw [hrun]
  exact hK _ g' _ k1 k2 k3 k4
theorem Does.appNil {T Tx E Ex i : Nat} {x y : Operand} {t : Option Nat} {ys : List V} (X : TOk P) {ti xi ei : TI} (ho : o.op = .call { callee := .builtin .append, args := #[x, y], argTypes := #[T, Tx] }) (hx : evo env x = some .nil) (hy : evo env y = some (.s t ys))
  (hT : aget X.tab T = some ti) (hd : ti.d = .sl E) (hE : aget X.tab E = some ei) (hpos : Nat.blt 0 ei.size = true) (hX : aget X.tab Tx = some xi) (hdx : xi.d = .sl Ex)
  (hys : ∀ e ∈ ys, e.cells.length = ei.size) {n : Nat} (hn : ys.length = n) (hmax : n ≤ 140737488355328) (hb : n * ei.bytes ≤ 140737488355328) :
  Does P o env (.s (some i) ys) [(i, none, some (.r E ei.size n))] := by
 refine ⟨fun F g a w mem h1 h2 h3 h4 _ K Q hK => ?_⟩
 subst hn
 have hpos' : 0 < ei.size := Nat.le_of_ble_eq_true hpos
 have hi := h4 _ _ _ mem_one
 have hrx := h1 x (by simp [ho, Op.operands, Call.operands]) _ hx
 have hry := h1 y (by simp [ho, Op.operands, Call.operands]) _ hy
 have hxe : a.eval x = .slice none 0 0 := by generalize a.eval x = z at hrx; cases hrx; rfl
 have hown0 : w.oRow 0 E ei.size (.slice (Option.map (fun b => (⟨b, 0, none⟩ : Addr)) none) 0 0) 0 [] := oRow_nil w 0 E ei.size
 have hgi : (g.addRow i (none, 0, 0)).rw i = some (none, 0, 0) := by simp [Gh.addRow]
 obtain ⟨he0, h2', h3'⟩ := h2.nilRow h3 (m := .r E ei.size 0) hi (.r hgi ⟨hpos', ⟨_, hown0⟩, fun _ h => by cases h⟩) fun b o ⟨l, c, hp⟩ => by rw [hgi] at hp; cases hp
 obtain ⟨news, hsrc, hone2, hfl, hrep2⟩ := rep_src (P := P) ((X.get hX).sl hdx) hry hys
 obtain ⟨v', w', hrun, hown', hg, hv⟩ := run_app (P := P) (ty := o.type) ((X.get hT).sl hd) (X.get hE) hpos' hown0 hsrc (by omega) (by simpa using hb)
 obtain ⟨g', a', c', rfl, k1, k2, k3, k4, k5⟩ := h2'.grow h3' (aget_self ..) hgi hown0 hown' hg hv
 simp only [Nat.zero_add] at *
 unfold Oper.wp
 have hrun' : (execOp a.eval o).run P w = .ok (.value (.slice (Option.map (fun b => ⟨b, 0, none⟩) a') ys.length c')) w' := by
  simp only [Option.map_none] at hrun
  simp [execOp, ho, resolve, invoke, builtin, hxe, hrun]
 rw [hrun']
 have hmem : RelM F g' ((i, .r E ei.size ys.length) :: mem) w' := k3.congr fun j => by
  simp only [aget_cons]
  split <;> rfl
 exact hK _ g' w' (he0.trans k2) hmem k4 (Rep.row rfl hpos' k1 hown' k5 (fun e he => ⟨hys e he, hone2 e he⟩) (fun j u z hj hz => (hrep2 j u z hj (by simpa using hz)).mono (he0.bare.trans k2.bare)))
theorem LC.nilrow {F : Fr0} {N : Nat} {Q : LQ} {mem : Mem} {c : Code} (t i E sz : Nat) (ht : aget env t = some .nil) (hi : aget mem i = none) (hp : Nat.blt 0 sz = true) (h : LC P F N c Q ((t, .s (some i) []) :: env) ((i, .r E sz 0) :: mem)) : LC P F N c Q env mem := ⟨fun F0 hx g a w hr => by
 have hown0 : w.oRow 0 E sz (.slice (Option.map (fun b => (⟨b, 0, none⟩ : Addr)) none) 0 0) 0 [] := oRow_nil w 0 E sz
 have hgi : (g.addRow i (none, 0, 0)).rw i = some (none, 0, 0) := by simp [Gh.addRow]
 obtain ⟨he, h2, h3⟩ := hr.mem.nilRow hr.kept (m := .r E sz 0) hi (.r hgi ⟨Nat.le_of_ble_eq_true hp, ⟨_, hown0⟩, fun _ h => by cases h⟩) fun b o ⟨l, c, hp⟩ => by rw [hgi] at hp; cases hp
 refine h.go F0 hx _ a w ⟨fun t' v hv => ?_, h2, h3, hr.defers, hr.size, hr.big⟩
 rw [aget_cons] at hv
 split at hv
 ·rename_i e; subst e; cases hv
  obtain ⟨x, h1, h2⟩ := hr.env t _ ht
  cases h2
  exact ⟨_, h1, .s0 fun r hr' => by cases hr'; exact ⟨none, 0, 0, hgi, Nat.le_refl _, fun _ => .inl rfl⟩⟩
 ·obtain ⟨x, h1, h2⟩ := hr.env t' v hv
  exact ⟨x, h1, h2.mono he⟩⟩
def bK (x : UInt8) : V := .k (.int .u8 (x.toNat : Int))
theorem Does.toStr {S T E : Nat} {x : Operand} {t : Option Nat} {l : List UInt8} (X : TOk P) {si ti ei : TI} (ho : o.op = .convert S T x) (hx : evo env x = some (.s t (l.map bK))) (hS : aget X.tab S = some si) (hd : si.d = .sl E) (hE : aget X.tab E = some ei) (hdE : ei.d = .int .u8) (hT : aget X.tab T = some ti) (hdT : ti.d = .str) : Does P o env (.k (.string ⟨l.toArray⟩)) [] :=
 .pure fun F g a w mem hr _ => by
  have hr0 := hr x (by simp [ho, Op.operands]) _ hx
  refine ⟨.string ⟨l.toArray⟩, ?_, .k _⟩
  have hcell : ∀ e ∈ l.map bK, e.cells.length = 1 := fun e he => by obtain ⟨z, _, rfl⟩ := List.mem_map.1 he; rfl
  obtain ⟨a0, n0, c0, hy, hS'⟩ : ∃ a0 n0 c0, a.eval x = .slice a0 n0 c0 ∧ Rp.Sl w w.heap.size 1 a0 n0 c0 (l.map Rp.byteV) := by
   generalize hy : a.eval x = y at hr0
   generalize hes : l.map bK = es at hr0
   cases hr0 with
   | s0 =>
    have : l = [] := by simpa using hes
    subst this
    exact ⟨none, 0, 0, rfl, rfl, Nat.le_refl _, by simp [maxLen], fun _ => rfl, fun h => by omega⟩
   | se a1 =>
    have : l = [] := by simpa using hes
    subst this
    exact ⟨some a1, 0, 0, rfl, rfl, Nat.le_refl _, by simp [maxLen], (fun h => by cases h), fun h => by omega⟩
   | @s _ _ _ b off cap size xs hn hm hp hsz hxx hc ht =>
    subst hes
    refine ⟨_, _, cap, rfl, by simp, hn, hm, (fun h => by cases h), fun _ => ⟨b, off, rfl, ?_, fun j u hj => ?_⟩⟩
    ·rename_i hpos
     have : (l.map bK).flatMap V.cells ≠ [] := by
      cases l with
      | nil => simp at hpos
      | cons a r => simp [bK, V.cells]
     obtain ⟨u, r, hur⟩ := List.exists_cons_of_ne_nil this
     exact (hxx 0 u (by rw [hur]; rfl)).1
    ·rw [List.getElem?_map] at hj
     obtain ⟨z, hz, rfl⟩ := Option.map_eq_some_iff.1 hj
     have hf : ((l.map bK).flatMap V.cells)[j]? = some (bK z) := by
      have := flat_get hcell (n := j) (j := 0) (e := bK z) (u := bK z) (by rw [List.getElem?_map, hz]; rfl) rfl
      simpa using this
     rw [(hxx j _ hf).2.2, rep_k (hc j _ hf)]
     rfl
  have := Ops.run_str (P := P) (w := w) ((X.get hS).sl hd) ((X.get hE).int hdE) ((X.get hT).str hdT) hS'
  simp [execOp, ho, hy, this]
end
end Lf
open Go.RowKit Rg
namespace Lf
section
variable {P : Program} {F : Fr0} {N : Nat} {Q : LQ} {env : Env} {mem : Mem} {ops : Array Oper} {o : Oper} {rs : List Oper} {v : V} {d i : Nat} {m : Option M} {m' mm : M}
theorem LS.pp (hg : gd ops env o = some true) (hds : o.dst = some d) (h : Does P o env v []) (hd : Nat.blt d N = true) (hK : LS P F N ops rs Q ((d, v) :: env) mem) : LS P F N ops (o :: rs) Q env mem :=
 LS.step hg h tpre_nil (by rw [hds]; exact hd) (by rw [hds]; exact hK)
theorem LS.rr (hg : gd ops env o = some true) (hds : o.dst = some d) (h : Does P o env v [(i, some mm, none)]) (ht : aget mem i = some mm) (hd : Nat.blt d N = true) (hK : LS P F N ops rs Q ((d, v) :: env) mem) : LS P F N ops (o :: rs) Q env mem :=
 LS.step hg h (tpre_one ht) (by rw [hds]; exact hd) (by rw [hds]; exact hK)
theorem LS.ww (hg : gd ops env o = some true) (hds : o.dst = some d) (h : Does P o env v [(i, m, some m')]) (ht : aget mem i = m) (hd : Nat.blt d N = true) (hK : LS P F N ops rs Q ((d, v) :: env) ((i, m') :: mem)) : LS P F N ops (o :: rs) Q env mem :=
 LS.step hg h (tpre_one ht) (by rw [hds]; exact hd) (by rw [hds]; exact hK)
theorem LS.nn (hg : gd ops env o = some true) (hds : o.dst = some d) (h : Does P o env v [(d, none, some m')]) (ht : aget mem d = none) (hd : Nat.blt d N = true) (hK : LS P F N ops rs Q ((d, v) :: env) ((d, m') :: mem)) : LS P F N ops (o :: rs) Q env mem :=
 LS.step hg h (tpre_one ht) (by rw [hds]; exact hd) (by rw [hds]; exact hK)
theorem LS.ss (hg : gd ops env o = some true) (hds : o.dst = none) (h : Does P o env v [(i, m, some m')]) (ht : aget mem i = m) (hK : LS P F N ops rs Q env ((i, m') :: mem)) : LS P F N ops (o :: rs) Q env mem :=
 LS.step hg h (tpre_one ht) (by rw [hds]; rfl) (by rw [hds]; exact hK)
theorem LS.skip (hg : gd ops env o = some false) (hds : o.dst = some d) (hd : Nat.blt d N = true) (hK : LS P F N ops rs Q ((d, .k undef) :: env) mem) : LS P F N ops (o :: rs) Q env mem :=
 LS.pass hg (by rw [hds]; exact hd) (by rw [hds]; exact hK)
theorem LS.ld {T off : Nat} {x : Operand} {cs : List V} (X : TOk P) {ti : TI} (hg : gd ops env o = some true) (hds : o.dst = some d) (ho : o.op = .load T x) (hx : evo env x = some (.p i off)) (hm : aget mem i = some (.b cs)) (hT : aget X.tab T = some ti) (hv : ti.part cs off = some v) (hd : Nat.blt d N = true) (hK : LS P F N ops rs Q ((d, v) :: env) mem) : LS P F N ops (o :: rs) Q env mem :=
 LS.rr hg hds (Does.load X ho hx hm hT hv) hm hd hK
theorem LS.st {T off : Nat} {x y : Operand} {cs cs' : List V} {u : V} (X : TOk P) {ti : TI} (hg : gd ops env o = some true) (hds : o.dst = none) (ho : o.op = .store T x y) (hx : evo env x = some (.p i off)) (hy : evo env y = some u) (hm : aget mem i = some (.b cs)) (hT : aget X.tab T = some ti) (hu : u.ok = true) (hs : Nat.beq u.cells.length ti.size = true) (hle : Nat.ble (off + u.cells.length) cs.length = true) (hcs : splice cs off u.cells = cs')
  (hK : LS P F N ops rs Q env ((i, .b cs') :: mem)) : LS P F N ops (o :: rs) Q env mem :=
 LS.ss hg hds (Does.store X ho hx hy hm hT hu hs hle hcs) hm hK
theorem LS.ap {T Tx E Ex sz : Nat} {x y : Operand} {t : Option Nat} {es ys : List V} (X : TOk P) {ti xi ei : TI} (hg : gd ops env o = some true) (hds : o.dst = some d) (ho : o.op = .call { callee := .builtin .append, args := #[x, y], argTypes := #[T, Tx] }) (hx : evo env x = some (.s (some i) es)) (hy : evo env y = some (.s t ys))
  {n0 : Nat} (hm : aget mem i = some (.r E sz n0)) (hn0 : es.length = n0) (hT : aget X.tab T = some ti) (hdt : ti.d = .sl E) (hE : aget X.tab E = some ei) (hsz : ei.size = sz) (hX : aget X.tab Tx = some xi) (hdx : xi.d = .sl Ex)
  (hes : ∀ e ∈ es, e.cells.length = sz) (hys : ∀ e ∈ ys, e.cells.length = sz) {n : Nat} (hn : es.length + ys.length = n) (hmax : n ≤ 140737488355328) (hb : n * ei.bytes ≤ 140737488355328) (hd : Nat.blt d N = true) (hK : LS P F N ops rs Q ((d, .s (some i) (es ++ ys)) :: env) ((i, .r E sz n) :: mem)) : LS P F N ops (o :: rs) Q env mem :=
 LS.ww hg hds (Does.app X ho hx hy (by rw [hn0]; exact hm) hT hdt hE hsz hX hdx hes hys hn hmax hb) (by rw [hn0]; exact hm) hd hK
theorem Does.gB {t : Tch} {b : BinOp} {T Y : Nat} {x y : Operand} (ho : o.op = .binOp b T x y Y) (h : Does P o env v t) : Does P o env v t := (fun _ => h) ho
theorem Does.gC {t : Tch} {c : Call} (ho : o.op = .call c) (h : Does P o env v t) : Does P o env v t := (fun _ => h) ho
theorem Does.gI {t : Tch} {T : Nat} {x y : Operand} (ho : o.op = .indexAddr T x y) (h : Does P o env v t) : Does P o env v t := (fun _ => h) ho
theorem Does.gF {t : Tch} {T f : Nat} {x : Operand} (ho : o.op = .fieldAddr T x f) (h : Does P o env v t) : Does P o env v t := (fun _ => h) ho
theorem Does.gU {t : Tch} {T : Nat} {u : UnOp} {x : Operand} (ho : o.op = .unOp u T x) (h : Does P o env v t) : Does P o env v t := (fun _ => h) ho
end
def LRd (P : Program) (F : Fr0) (N : Nat) (c : Code) (Q : LQ) : Nat → Env → Mem → Prop
 | 0, _, _ => False
 | n + 1, env, mem => LC P F N c (LThen (LRd P F N c Q n) Q) env mem
theorem LC.rounds {P : Program} {F : Fr0} {N : Nat} {Q : LQ} {c : Code} (n : Nat) {env : Env} {mem : Mem} (h : LRd P F N c Q n env mem) : LC P F N (.loop c) Q env mem := by
 refine ⟨fun F0 hx g a w hr => wpIn_loop_rounds n ?_⟩
 have key : ∀ (n : Nat) (env : Env) (mem : Mem), LRd P F N c Q n env mem → ∀ F1, F0.Ext F1 → ∀ g a w, Rel F1 N g env mem a w → Code.roundsIn F0.fz 0 P c (liftQ F0 N Q) n a w := by
  intro n
  induction n with
  | zero => intro _ _ h; exact h.elim
  | succ n ih =>
   intro env mem h F1 hF1 g a w hr
   rw [roundsIn_succ]
   refine wpIn_mono (LC.run h hx hF1 hr) fun e a' w' ⟨F2, hF2, en, me, g', le, h1, h3, h2⟩ => ?_
   cases le with
   | normal => cases h3; exact ih _ _ h2 F2 hF2 g' a' w' h1
   | pan v => obtain ⟨x, rfl, hx⟩ := h3; exact ⟨F2, hF2, en, me, g', .pan v, h1, ⟨x, rfl, hx⟩, h2⟩
   | exit id => cases h3; exact ⟨F2, hF2, en, me, g', .exit id, h1, rfl, h2⟩
   | goto id => cases h3; exact ⟨F2, hF2, en, me, g', .goto id, h1, rfl, h2⟩
   | ret => cases h3; exact ⟨F2, hF2, en, me, g', .ret, h1, rfl, h2⟩
 exact key n env mem h F0 (.refl _) g a w hr
theorem wrap_i64 {z : Int} (h : -9223372036854775808 ≤ z ∧ z ≤ 9223372036854775807) : IntKind.i64.wrap z = z := by
 simp only [IntKind.wrap, IntKind.bits, IntKind.signed]
 have e1 : (2 : Int) ^ 64 = 18446744073709551616 := by decide
 have e2 : (2 : Int) ^ (64 - 1) = 9223372036854775808 := by decide
 simp only [e1, e2, Bool.true_and, decide_eq_true_eq]
 split <;> omega
theorem wrap_u64 {z : Int} (h : 0 ≤ z ∧ z ≤ 18446744073709551615) : IntKind.u64.wrap z = z := by
 simp only [IntKind.wrap, IntKind.bits, IntKind.signed]
 have e1 : (2 : Int) ^ 64 = 18446744073709551616 := by decide
 simp only [e1, Bool.false_and, Bool.false_eq_true, if_false]
 omega
theorem wrap_u8 {z : Int} (h : 0 ≤ z ∧ z ≤ 255) : IntKind.u8.wrap z = z := by
 simp only [IntKind.wrap, IntKind.bits, IntKind.signed]
 have e1 : (2 : Int) ^ 8 = 256 := by decide
 simp only [e1, Bool.false_and, Bool.false_eq_true, if_false]
 omega
theorem add_i64 {a b : Nat} (h : a + b ≤ 9223372036854775807) : IntKind.i64.wrap ((a : Int) + (b : Int)) = ((a + b : Nat) : Int) := by rw [wrap_i64 (by omega)]; omega
theorem sub_i64 {a b : Nat} (h : b ≤ a) (h2 : a ≤ 9223372036854775807) : IntKind.i64.wrap ((a : Int) - (b : Int)) = ((a - b : Nat) : Int) := by rw [wrap_i64 (by omega)]; omega
theorem mul_i64 {a b : Nat} (h : a * b ≤ 9223372036854775807) : IntKind.i64.wrap ((a : Int) * (b : Int)) = ((a * b : Nat) : Int) := by
 have : ((a : Int) * (b : Int)) = ((a * b : Nat) : Int) := by simp
 rw [this, wrap_i64 (by omega)]
theorem add_u64 {a b : Nat} (h : a + b ≤ 18446744073709551615) : IntKind.u64.wrap ((a : Int) + (b : Int)) = ((a + b : Nat) : Int) := by rw [wrap_u64 (by omega)]; omega
theorem sub_u64 {a b : Nat} (h : b ≤ a) (h2 : a ≤ 18446744073709551615) : IntKind.u64.wrap ((a : Int) - (b : Int)) = ((a - b : Nat) : Int) := by rw [wrap_u64 (by omega)]; omega
theorem add_i64r {a b : Nat} (h : a + OfNat.ofNat b ≤ 9223372036854775807) : IntKind.i64.wrap ((a : Int) + OfNat.ofNat b) = ((a + OfNat.ofNat b : Nat) : Int) := add_i64 (b := b) h
theorem sub_i64r {a b : Nat} (h : OfNat.ofNat b ≤ a) (h2 : a ≤ 9223372036854775807) : IntKind.i64.wrap ((a : Int) - OfNat.ofNat b) = ((a - OfNat.ofNat b : Nat) : Int) := sub_i64 (b := b) h h2
theorem sub_i64l {a b : Nat} (h : b ≤ OfNat.ofNat a) (h2 : OfNat.ofNat a ≤ 9223372036854775807) : IntKind.i64.wrap ((OfNat.ofNat a : Int) - (b : Int)) = ((OfNat.ofNat a - b : Nat) : Int) := sub_i64 (a := a) h h2
theorem mul_i64r {a b : Nat} (h : a * OfNat.ofNat b ≤ 9223372036854775807) : IntKind.i64.wrap ((a : Int) * OfNat.ofNat b) = ((a * OfNat.ofNat b : Nat) : Int) := mul_i64 (b := b) h
theorem mul_i64l {a b : Nat} (h : OfNat.ofNat a * b ≤ 9223372036854775807) : IntKind.i64.wrap ((OfNat.ofNat a : Int) * (b : Int)) = ((OfNat.ofNat a * b : Nat) : Int) := mul_i64 (a := a) h
theorem mul_u64 {a b : Nat} (h : a * b ≤ 18446744073709551615) : IntKind.u64.wrap ((a : Int) * (b : Int)) = ((a * b : Nat) : Int) := by
 have : ((a : Int) * (b : Int)) = ((a * b : Nat) : Int) := by simp
 rw [this, wrap_u64 (by omega)]
theorem add_u64r {a b : Nat} (h : a + OfNat.ofNat b ≤ 18446744073709551615) : IntKind.u64.wrap ((a : Int) + OfNat.ofNat b) = ((a + OfNat.ofNat b : Nat) : Int) := add_u64 (b := b) h
theorem sub_u64r {a b : Nat} (h : OfNat.ofNat b ≤ a) (h2 : a ≤ 18446744073709551615) : IntKind.u64.wrap ((a : Int) - OfNat.ofNat b) = ((a - OfNat.ofNat b : Nat) : Int) := sub_u64 (b := b) h h2
theorem sub_u64l {a b : Nat} (h : b ≤ OfNat.ofNat a) (h2 : OfNat.ofNat a ≤ 18446744073709551615) : IntKind.u64.wrap ((OfNat.ofNat a : Int) - (b : Int)) = ((OfNat.ofNat a - b : Nat) : Int) := sub_u64 (a := a) h h2
theorem mul_u64r {a b : Nat} (h : a * OfNat.ofNat b ≤ 18446744073709551615) : IntKind.u64.wrap ((a : Int) * OfNat.ofNat b) = ((a * OfNat.ofNat b : Nat) : Int) := mul_u64 (b := b) h
theorem mul_u64l {a b : Nat} (h : OfNat.ofNat a * b ≤ 18446744073709551615) : IntKind.u64.wrap ((OfNat.ofNat a : Int) * (b : Int)) = ((OfNat.ofNat a * b : Nat) : Int) := mul_u64 (a := a) h
end Lf
open Go.RowKit Rg
namespace Lf
structure It where
 i : Nat
 o : Oper
 skip : Bool
 v : V
 t : Tch
def It.tt (x : It) : Tch := cond x.skip [] x.t
def It.vv (x : It) : V := cond x.skip (.k undef) x.v
section
variable {P : Program} {F : Fr0} {N : Nat} {ops : Array Oper}
structure Valid (P : Program) (F : Fr0) (N : Nat) (ops : Array Oper) (x : It) (env : Env) (mem : Mem) : Prop where
 at_ : ops[x.i]? = some x.o
 gdd : gd ops env x.o = some (!x.skip)
 does : x.skip = false → DoesF P F x.o env x.v x.t ∧ tpre x.t mem
 dst : dok x.o.dst N = true
def appE (x : It) (env : Env) : Env := bind x.o.dst x.vv env
def appM (x : It) (mem : Mem) : Mem := tset x.tt mem
def SR (P : Program) (F : Fr0) (N : Nat) (ops : Array Oper) : List It → Env → Mem → Prop
 | [], _, _ => True
 | x :: r, env, mem => Valid P F N ops x env mem ∧ SR P F N ops r (appE x env) (appM x mem)
def finE : List It → Env → Env
 | [], env => env
 | x :: r, env => finE r (appE x env)
def finM : List It → Mem → Mem
 | [], mem => mem
 | x :: r, mem => finM r (appM x mem)
structure Eqv (env : Env) (mem : Mem) (env' : Env) (mem' : Mem) : Prop where
 e : ∀ t, aget env t = aget env' t
 m : ∀ i, aget mem i = aget mem' i
theorem Eqv.refl (env : Env) (mem : Mem) : Eqv env mem env mem := ⟨fun _ => rfl, fun _ => rfl⟩
theorem Eqv.trans {a b c : Env} {x y z : Mem} (h : Eqv a x b y) (k : Eqv b y c z) : Eqv a x c z := ⟨fun t => (h.e t).trans (k.e t), fun i => (h.m i).trans (k.m i)⟩
theorem Eqv.symm {a b : Env} {x y : Mem} (h : Eqv a x b y) : Eqv b y a x := ⟨fun t => (h.e t).symm, fun i => (h.m i).symm⟩
theorem aget_tset {t : Tch} {mem : Mem} {i : Nat} (h : ∀ m m', (i, m, some m') ∉ t) : aget (tset t mem) i = aget mem i := by
 induction t with
 | nil => rfl
 | cons x r ih =>
  obtain ⟨j, m, m'⟩ := x
  cases m' with
  | none => exact ih fun a b hm => h a b (List.mem_cons_of_mem _ hm)
  | some m' =>
   have hne : j ≠ i := fun e => h m m' (by rw [e]; exact List.mem_cons_self)
   simp only [tset]
   rw [aget_ne hne]
   exact ih fun a b hm => h a b (List.mem_cons_of_mem _ hm)
theorem tset_congr {t : Tch} {mem mem' : Mem} (h : ∀ i, aget mem i = aget mem' i) : ∀ i, aget (tset t mem) i = aget (tset t mem') i := by
  induction t with
  | nil => exact h
  | cons x r ih =>
    obtain ⟨j, m, m'⟩ := x
    intro i
    cases m' with
    | none => exact ih i
    | some m' => simp only [tset, aget_cons]; split
                 · rfl
                 · exact ih i
theorem bind_congr {d : Option Nat} {v : V} {env env' : Env} (h : ∀ t, aget env t = aget env' t) : ∀ t, aget (bind d v env) t = aget (bind d v env') t := by
  intro t
  cases d with
  | none => exact h t
  | some d => simp only [bind, aget_cons]; split
              · rfl
              · exact h t
theorem evo_congr {env env' : Env} {x : Operand} (h : ∀ t, x = .tmp t → aget env t = aget env' t) : evo env x = evo env' x := by
 cases x <;> simp only [evo]
 exact h _ rfl
theorem Does.congr {o : Oper} {env env' : Env} {v : V} {t : Tch} (h : Does P o env v t) (he : ∀ x ∈ o.op.operands.toList, evo env x = evo env' x) : Does P o env' v t :=
 ⟨fun F g a w mem h1 => h.ex F g a w mem fun x hx u hu => h1 x hx u (by rw [← he x hx]; exact hu)⟩
theorem DoesF.congr {o : Oper} {env env' : Env} {v : V} {t : Tch} (h : DoesF P F o env v t) (he : ∀ x ∈ o.op.operands.toList, evo env x = evo env' x) : DoesF P F o env' v t :=
 ⟨fun F0 hx0 g a w mem h1 => h.ex F0 hx0 g a w mem fun x hx u hu => h1 x hx u (by rw [← he x hx]; exact hu)⟩
theorem gd_congr {o : Oper} {env env' : Env} (h : ∀ j want d, o.guard = some (j, want) → (ops[j]?).bind (·.dst) = some d → aget env d = aget env' d) : gd ops env o = gd ops env' o := by
 unfold gd
 split
 ·rfl
 ·rename_i j want hn
  split
  ·rename_i d hd
   rw [h j want d hn hd]
  ·rfl
theorem Valid.congr {x : It} {env env' : Env} {mem mem' : Mem} (h : Valid P F N ops x env mem) (he : Eqv env mem env' mem') : Valid P F N ops x env' mem' :=
 ⟨h.at_, by rw [← h.gdd]; exact (gd_congr fun _ _ d _ _ => he.e d).symm, fun hs => ⟨(h.does hs).1.congr fun y _ => evo_congr fun t _ => he.e t, fun i m m' hi => by rw [← he.m i]; exact (h.does hs).2 i m m' hi⟩, h.dst⟩
theorem SR.congr : ∀ {l : List It} {env env' : Env} {mem mem' : Mem}, SR P F N ops l env mem → Eqv env mem env' mem' → SR P F N ops l env' mem'
 | [], _, _, _, _, _, _ => trivial
 | _ :: _, _, _, _, _, h, he => ⟨h.1.congr he, SR.congr h.2 ⟨bind_congr he.e, tset_congr he.m⟩⟩
theorem fin_congr : ∀ {l : List It} {env env' : Env} {mem mem' : Mem}, Eqv env mem env' mem' → Eqv (finE l env) (finM l mem) (finE l env') (finM l mem')
 | [], _, _, _, _, he => he
 | _ :: r, _, _, _, _, he => fin_congr (l := r) ⟨bind_congr he.e, tset_congr he.m⟩
def compat (s t : Tch) : Bool := s.all fun x => t.all fun y => !(Nat.beq x.1 y.1) || (x.2.2.isNone && y.2.2.isNone)
theorem compat_spec {s t : Tch} (h : compat s t = true) {i : Nat} {m n : Option M} {m' n' : Option M} (hs : (i, m, m') ∈ s) (ht : (i, n, n') ∈ t) : m' = none ∧ n' = none := by
 unfold compat at h
 rw [List.all_eq_true] at h
 have h1 := h _ hs
 rw [List.all_eq_true] at h1
 have h2 := h1 _ ht
 simp only [Nat.beq_refl, Bool.not_true, Bool.false_or, Bool.and_eq_true, Option.isNone_iff_eq_none] at h2
 exact h2
structure Indep (ops : Array Oper) (x y : It) : Prop where
 apart : x.o.apart ops y.o = true
 t : compat x.tt y.tt = true
theorem aget_appE {x : It} {env : Env} {t : Nat} (h : x.o.dst ≠ some t) : aget (appE x env) t = aget env t := by
 unfold appE bind
 cases hd : x.o.dst with
 | none => rfl
 | some d => exact aget_ne (fun e => h (by rw [hd, e])) _ _
theorem Valid.move {x y : It} {env : Env} {mem : Mem} (hl : ∀ d, x.o.dst = some d → d ∉ y.o.looksAt ops) (hc : ∀ i m m' n n', (i, m, m') ∈ x.tt → (i, n, n') ∈ y.tt → m' = none ∧ n' = none) : Valid P F N ops y (appE x env) (appM x mem) ↔ Valid P F N ops y env mem := by
 have he : ∀ z ∈ y.o.op.operands.toList, evo (appE x env) z = evo env z := fun z hz => evo_congr fun t ht => aget_appE fun e => hl t e (by
  subst ht
  simp only [Oper.looksAt, List.mem_append, List.mem_filterMap]
  exact .inl ⟨_, hz, rfl⟩)
 have hg : gd ops (appE x env) y.o = gd ops env y.o := gd_congr fun j want d hgd hd => aget_appE fun e => hl d e (by
  simp only [Oper.looksAt, hgd, hd, List.mem_append]
  exact .inr (by simp))
 have hm : y.skip = false → ∀ i n n', (i, n, n') ∈ y.t → aget (appM x mem) i = aget mem i := fun hs i n n' hi => aget_tset fun m m' hx => by
  have := (hc i m (some m') n n' hx (by rw [It.tt, hs]; exact hi)).1
  cases this
 constructor
 ·intro h
  exact ⟨h.at_, by rw [← hg]; exact h.gdd, fun hs => ⟨(h.does hs).1.congr he, fun i n n' hi => by rw [← hm hs i n n' hi]; exact (h.does hs).2 i n n' hi⟩, h.dst⟩
 ·intro h
  exact ⟨h.at_, by rw [hg]; exact h.gdd, fun hs => ⟨(h.does hs).1.congr fun z hz => (he z hz).symm, fun i n n' hi => by rw [hm hs i n n' hi]; exact (h.does hs).2 i n n' hi⟩, h.dst⟩
theorem app_comm {x y : It} (h : Indep ops x y) (env : Env) (mem : Mem) : Eqv (appE y (appE x env)) (appM y (appM x mem)) (appE x (appE y env)) (appM x (appM y mem)) := by
 obtain ⟨p1, p2, p3⟩ := Oper.apart_spec h.apart
 refine ⟨fun t => ?_, fun i => ?_⟩
 ·by_cases hx : x.o.dst = some t
  ·have hy : y.o.dst ≠ some t := fun e => p2 t hx e
   rw [aget_appE hy]
   unfold appE bind
   rw [hx]
   simp only [aget_self]
  ·rw [aget_appE hx]
   by_cases hy : y.o.dst = some t
   ·unfold appE bind
    rw [hy]
    simp only [aget_self]
   ·rw [aget_appE hy, aget_appE hx, aget_appE hy]
 ·by_cases hx : ∃ m m', (i, m, some m') ∈ x.tt
  ·obtain ⟨m, m', hm⟩ := hx
   have hy : ∀ n n', (i, n, some n') ∉ y.tt := fun n n' hn => by have := (compat_spec h.t hm hn).1; cases this
   have e1 : aget (appM y (appM x mem)) i = aget (appM x mem) i := aget_tset hy
   rw [e1]
   have key : ∀ (t : Tch) (m1 m2 : Mem), (∃ m m', (i, m, some m') ∈ t) → aget (tset t m1) i = aget (tset t m2) i := by
    intro t m1 m2 ⟨m, m', hm⟩
    induction t with
    | nil => cases hm
    | cons z r ih =>
     obtain ⟨j, a, b⟩ := z
     cases b with
     | none =>
      simp only [tset]
      rcases List.mem_cons.1 hm with hm | hm
      ·cases hm
      ·exact ih hm
     | some b =>
      simp only [tset, aget_cons]
      split
      ·rfl
      ·rename_i hne
       rcases List.mem_cons.1 hm with hm | hm
       ·cases hm; exact absurd rfl hne
       ·exact ih hm
   exact key x.tt mem (appM y mem) ⟨m, m', hm⟩
  ·have hx' : ∀ m m', (i, m, some m') ∉ x.tt := fun m m' hm => hx ⟨m, m', hm⟩
   have e1 : aget (appM x (appM y mem)) i = aget (appM y mem) i := aget_tset hx'
   rw [e1]
   by_cases hy : ∃ m m', (i, m, some m') ∈ y.tt
   ·obtain ⟨m, m', hm⟩ := hy
    have key : ∀ (t : Tch) (m1 m2 : Mem), (∃ m m', (i, m, some m') ∈ t) → aget (tset t m1) i = aget (tset t m2) i := by
     intro t m1 m2 ⟨m, m', hm⟩
     induction t with
     | nil => cases hm
     | cons z r ih =>
      obtain ⟨j, a, b⟩ := z
      cases b with
      | none =>
       simp only [tset]
       rcases List.mem_cons.1 hm with hm | hm
       ·cases hm
       ·exact ih hm
      | some b =>
       simp only [tset, aget_cons]
       split
       ·rfl
       ·rename_i hne
        rcases List.mem_cons.1 hm with hm | hm
        ·cases hm; exact absurd rfl hne
        ·exact ih hm
    exact key y.tt (appM x mem) mem ⟨m, m', hm⟩
   ·have hy' : ∀ m m', (i, m, some m') ∉ y.tt := fun m m' hm => hy ⟨m, m', hm⟩
    have e2 : aget (appM y (appM x mem)) i = aget (appM x mem) i := aget_tset hy'
    have e3 : aget (appM x mem) i = aget mem i := aget_tset hx'
    have e4 : aget (appM y mem) i = aget mem i := aget_tset hy'
    rw [e2, e3, e4]
theorem SR.first {y : It} : ∀ {pre : List It} {post : List It} {env : Env} {mem : Mem}, SR P F N ops (pre ++ y :: post) env mem → (∀ x ∈ pre, Indep ops x y) →
  SR P F N ops (y :: (pre ++ post)) env mem ∧ Eqv (finE (pre ++ y :: post) env) (finM (pre ++ y :: post) mem) (finE (y :: (pre ++ post)) env) (finM (y :: (pre ++ post)) mem)
 | [], post, env, mem, h, _ => ⟨h, Eqv.refl _ _⟩
 | x :: pre, post, env, mem, h, hi => by
  have hxy := hi x (by simp)
  obtain ⟨p1, p2, p3⟩ := Oper.apart_spec hxy.apart
  obtain ⟨k1, k2⟩ := SR.first (pre := pre) h.2 fun z hz => hi z (by simp [hz])
  have hvy : Valid P F N ops y env mem := (Valid.move p1 fun i m m' n n' h1 h2 => compat_spec hxy.t h1 h2).1 k1.1
  have hvx : Valid P F N ops x (appE y env) (appM y mem) := (Valid.move p3 fun i m m' n n' h1 h2 => (compat_spec hxy.t h2 h1).symm).2 h.1
  have hc := app_comm hxy env mem
  refine ⟨⟨hvy, hvx, k1.2.congr hc⟩, k2.trans ?_⟩
  exact fin_congr (l := pre ++ post) hc
theorem Rel.congr {F : Fr0} {g : Gh} {env env' : Env} {mem mem' : Mem} {a : Act} {w : World} (h : Rel F N g env mem a w) (he : Eqv env mem env' mem') : Rel F N g env' mem' a w :=
 ⟨fun t v ht => h.env t v (by rw [he.e]; exact ht), h.mem.congr he.m, h.kept, h.defers, h.size, h.big⟩
structure Plan (ops : Array Oper) (W : Array Nat) (listed : Array Bool) (its : List It) : Prop where
 mem : ∀ i, i < ops.size → (listed.getD i true = false ↔ ∃ x ∈ its, x.i = i)
 lt : ∀ x ∈ its, x.i < ops.size
 nodup : its.Pairwise fun x y => x.i ≠ y.i
 ext : ∀ pre x post, its = pre ++ x :: post → ∀ o, ops[x.i]? = some o → ∀ e ∈ o.after, Region.binds .any e = true → e.on < ops.size ∧ ∀ y ∈ x :: post, y.i ≠ e.on
 ind : its.Pairwise fun x y => waits W y.i x.i = true ∨ Indep ops x y
 size : listed.size = ops.size
theorem any_run {F0 : Fr0} (hx0 : F.Ext F0) {Q : Exit → Act → World → Prop} {W : Array Nat} (hW : waitsB .any ops W = true) : ∀ (n : Nat) (its : List It) (env : Env) (mem : Mem) (listed : Array Bool) (g : Gh) (a : Act) (w : World), its.length = n → SR P F N ops its env mem → Plan ops W listed its → Closed .any ops listed → Rel F0 N g env mem a w →
    (∀ g a w, Rel F0 N g (finE its env) (finM its mem) a w → Q .normal a w) → wpAnyIn F0.fz 0 P .any ops Q n listed a w
  | 0, its, env, mem, listed, g, a, w, hl, _, hp, _, hr, hQ => by
    have : its = [] := List.eq_nil_of_length_eq_zero hl
    subst this
    refine ⟨?_, hQ g a w hr⟩
    cases hq : Region.ready .any ops listed with
    | nil => rfl
    | cons j r =>
      obtain ⟨h1, o, ho, _⟩ := mem_ready.1 (show j ∈ Region.ready .any ops listed by rw [hq]; simp)
      have hj := (Array.getElem?_eq_some_iff.1 ho).1
      obtain ⟨x, hx, _⟩ := (hp.mem j hj).1 (by simpa using h1)
      cases hx
  | n + 1, its, env, mem, listed, g, a, w, hl, hs, hp, hc, hr, hQ => by
    have hrd : ∀ x pre post, its = pre ++ x :: post → (∀ o, ops[x.i]? = some o → ∀ e ∈ o.after, Region.binds .any e = true → ∀ y ∈ pre, y.i ≠ e.on) → x.i ∈ Region.ready .any ops listed := by
      intro x pre post hits hall
      have hxm : x ∈ its := by rw [hits]; simp
      have hlt := hp.lt x hxm
      refine mem_ready.2 ⟨by simpa using (hp.mem x.i hlt).2 ⟨x, hxm, rfl⟩, ops[x.i], Array.getElem?_eq_getElem hlt, fun e he hb => ?_⟩
      obtain ⟨h1, h2⟩ := hp.ext pre x post hits _ (Array.getElem?_eq_getElem hlt) e he hb
      have hlist : ¬ listed.getD e.on true = false := fun hf => by
        obtain ⟨y, hy, hye⟩ := (hp.mem e.on h1).1 hf
        rw [hits] at hy
        rcases List.mem_append.1 hy with hy | hy
        · exact hall _ (Array.getElem?_eq_getElem hlt) e he hb y hy hye
        · exact h2 y hy hye
      have hsz : e.on < listed.size := by rw [hp.size]; exact h1
      simp only [Array.getD, hsz, dif_pos] at hlist ⊢
      simpa using hlist
    constructor
    · intro h0
      cases its with
      | nil => simp at hl
      | cons x r =>
        have := hrd x [] r rfl fun _ _ _ _ _ _ hy => by cases hy
        rw [h0] at this; cases this
    · intro j hj
      obtain ⟨hun, o, ho, hall⟩ := mem_ready.1 hj
      have hjlt := (Array.getElem?_eq_some_iff.1 ho).1
      obtain ⟨y, hy, hyj⟩ := (hp.mem j hjlt).1 (by simpa using hun)
      subst hyj
      obtain ⟨pre, post, hits⟩ := List.append_of_mem hy
      subst hits
      have hind : ∀ x ∈ pre, Indep ops x y := fun x hx => by
        have h1 := (List.pairwise_append.1 hp.ind).2.2 x hx y (by simp)
        rcases h1 with h1 | h1
        · exfalso
          have hxlt := hp.lt x (by simp [hx])
          have hxl := waits_listed hW hc hxlt y.i y.i o (Nat.le_refl _) ho hall h1
          have hxu := (hp.mem x.i hxlt).2 ⟨x, by simp [hx], rfl⟩
          have hsz : x.i < listed.size := by rw [hp.size]; exact hxlt
          simp only [Array.getD, hsz, dif_pos] at hxl hxu
          rw [hxl] at hxu; cases hxu
        · exact h1
      obtain ⟨k1, k2⟩ := hs.first hind
      obtain ⟨hv, hrest⟩ := k1
      have hov : y.o = o := by have := hv.at_; rw [ho] at this; exact (Option.some.inj this).symm
      subst hov
      have hp' : Plan ops W (listed.setIfInBounds y.i true) (pre ++ post) := by
        have hnd := List.pairwise_append.1 hp.nodup
        have hnd2 := List.pairwise_cons.1 hnd.2.1
        have hne : ∀ z ∈ pre ++ post, z.i ≠ y.i := fun z hz => by
          rcases List.mem_append.1 hz with hz | hz
          · exact hnd.2.2 z hz y (by simp)
          · exact (hnd2.1 z hz).symm
        refine ⟨fun i hi => ?_, fun x hx => hp.lt x (by rcases List.mem_append.1 hx with h | h <;> simp [h]), ?_, fun pre' x post' hits o' ho' e he hb => ?_, ?_, by simp [hp.size]⟩
        · by_cases hiy : y.i = i
          · subst hiy
            have hsz : y.i < listed.size := by rw [hp.size]; exact hi
            simp only [Array.getD, Array.size_setIfInBounds, hsz, dif_pos]
            constructor
            · intro h; simp at h
            · rintro ⟨x, hx, hxi⟩; exact absurd hxi (hne x hx)
          · rw [getD_set_ne true hiy, hp.mem i hi]
            constructor
            · rintro ⟨x, hx, hxi⟩
              rcases List.mem_append.1 hx with h | h
              · exact ⟨x, by simp [h], hxi⟩
              · rcases List.mem_cons.1 h with rfl | h
                · exact absurd hxi hiy
                · exact ⟨x, by simp [h], hxi⟩
            · rintro ⟨x, hx, hxi⟩
              exact ⟨x, by rcases List.mem_append.1 hx with h | h <;> simp [h], hxi⟩
        · exact List.pairwise_append.2 ⟨hnd.1, hnd2.2, fun a ha b hb => hnd.2.2 a ha b (by simp [hb])⟩
        · have hsub : ∃ pre'' post'', pre ++ y :: post = pre'' ++ x :: post'' ∧ ∀ z ∈ x :: post', z ∈ x :: post'' := by
            rcases List.append_eq_append_iff.1 hits with ⟨us, h1, h2⟩ | ⟨bs, h1, h2⟩
            · refine ⟨pre ++ y :: us, post', by rw [h2]; simp, fun z hz => hz⟩
            · cases bs with
              | nil =>
                simp at h1 h2
                subst h1
                refine ⟨pre ++ [y], post', by rw [← h2]; simp, fun z hz => hz⟩
              | cons b bs =>
                simp at h2
                obtain ⟨rfl, h2⟩ := h2
                refine ⟨pre', bs ++ y :: post, by rw [h1]; simp, fun z hz => ?_⟩
                rcases List.mem_cons.1 hz with rfl | hz
                · simp
                · rw [h2] at hz
                  rcases List.mem_append.1 hz with h | h <;> simp [h]
          obtain ⟨pre'', post'', h1, h2⟩ := hsub
          obtain ⟨h3, h4⟩ := hp.ext pre'' x post'' h1 o' ho' e he hb
          exact ⟨h3, fun z hz => h4 z (h2 z hz)⟩
        · have hpi := List.pairwise_append.1 hp.ind
          exact List.pairwise_append.2 ⟨hpi.1, (List.pairwise_cons.1 hpi.2.1).2, fun a ha b hb => hpi.2.2 a ha b (by simp [hb])⟩
      have next : ∀ g' a' w', Rel F0 N g' (appE y env) (appM y mem) a' w' → wpAnyIn F0.fz 0 P .any ops Q n (listed.setIfInBounds y.i true) a' w' := fun g' a' w' hr' =>
        any_run hx0 hW n (pre ++ post) _ _ _ g' a' w' (by simp at hl ⊢; omega) hrest hp' (hc.step hj) hr' fun g2 a2 w2 hr2 => hQ g2 a2 w2 (hr2.congr k2.symm)
      unfold wpOpIn
      rw [ho]
      simp only
      have hwant := gd_wanted hr hv.gdd
      rw [hwant]
      cases hsk : y.skip
      · simp only [Bool.not_false, if_true]
        refine ((hv.does hsk).1.run hx0 hr (hv.does hsk).2 hv.dst fun g' a' w' hr' => next g' a' w' ?_)
        simpa [appE, appM, It.vv, It.tt, hsk] using hr'
      · simp only [Bool.not_true, Bool.false_eq_true, if_false]
        refine ⟨fun _ _ => trivial, next g _ w ?_⟩
        have := hr.put (d := y.o.dst) (v := .k undef) (x := undef) (Ev.refl g w) hr.mem hr.kept (.k undef) hv.dst
        simpa [appE, appM, It.vv, It.tt, hsk, tset] using this
end
end Lf
open Go.RowKit Rg
namespace Lf
def pickI (l : List Oper) : List Nat → List (Nat × Oper)
 | [] => []
 | i :: r => (i, nth l i) :: pickI l r
def extOk (ops : Array Oper) : List Nat → List Nat → Bool
 | _, [] => true
 | done, i :: r => (match ops[i]? with | some o => o.after.toList.all fun e => !Region.binds .any e || done.contains e.on | none => false) && extOk ops (i :: done) r
def apOk (ops : Array Oper) (W : Array Nat) : List Nat → Bool
 | [] => true
 | i :: r => (r.all fun j => !Nat.beq i j && (waits W j i || (match ops[i]?, ops[j]? with | some a, some b => a.apart ops b | _, _ => false))) && apOk ops W r
def planOk (ops : Array Oper) (W : Array Nat) (plan : List Nat) : Bool := plan.all (fun i => Nat.blt i ops.size) && ((List.range ops.size).all (fun i => plan.contains i) && (extOk ops [] plan && (apOk ops W plan && Nat.beq plan.length ops.size)))
def chkT (W : Array Nat) : List (Nat × Tch) → Bool
 | [] => true
 | x :: r => (r.all fun y => compat x.2 y.2 || waits W y.1 x.1) && chkT W r
inductive DR (P : Program) (F : Fr0) (N : Nat) (ops : Array Oper) (chk : List (Nat × Tch) → Bool) (K : Env → Mem → Prop) : List (Nat × Oper) → List (Nat × Tch) → Env → Mem → Prop
 | nl {acc env mem} (hc : chk acc.reverse = true) (h : K env mem) : DR P F N ops chk K [] acc env mem
 | run {i o r acc env mem v t} (hd : dok o.dst N = true) (hg : gd ops env o = some true) (h : DoesF P F o env v t) (ht : tpre t mem) (hK : DR P F N ops chk K r ((i, t) :: acc) (bind o.dst v env) (tset t mem)) : DR P F N ops chk K ((i, o) :: r) acc env mem
 | pass {i o r acc env mem} (hd : dok o.dst N = true) (hg : gd ops env o = some false) (hK : DR P F N ops chk K r ((i, []) :: acc) (bind o.dst (.k undef) env) mem) : DR P F N ops chk K ((i, o) :: r) acc env mem
section
variable {P : Program} {F : Fr0} {N : Nat} {ops : Array Oper} {chk : List (Nat × Tch) → Bool}
theorem DR.script {K : Env → Mem → Prop} {l : List (Nat × Oper)} {acc : List (Nat × Tch)} {env : Env} {mem : Mem} (h : DR P F N ops chk K l acc env mem) : (∀ x ∈ l, ops[x.1]? = some x.2) →
  ∃ its, SR P F N ops its env mem ∧ its.map (·.i) = l.map (·.1) ∧ chk (acc.reverse ++ its.map fun x => (x.i, x.tt)) = true ∧ K (finE its env) (finM its mem) := by
 induction h with
 | nl hc h => exact fun _ => ⟨[], trivial, rfl, by simpa using hc, h⟩
 | @run i o r acc env mem v t hd hg hv ht _ ih =>
  intro hl
  have ho : ops[i]? = some o := hl (i, o) (by simp)
  obtain ⟨its, k1, k2, k3, k4⟩ := ih fun x hx => hl x (by simp [hx])
  exact ⟨⟨i, o, false, v, t⟩ :: its, ⟨⟨ho, hg, fun _ => ⟨hv, ht⟩, hd⟩, k1⟩, by simp [k2], by simpa [It.tt] using k3, k4⟩
 | @pass i o r acc env mem hd hg _ ih =>
  intro hl
  have ho : ops[i]? = some o := hl (i, o) (by simp)
  obtain ⟨its, k1, k2, k3, k4⟩ := ih fun x hx => hl x (by simp [hx])
  exact ⟨⟨i, o, true, .k undef, []⟩ :: its, ⟨⟨ho, hg, fun h => (by cases h), hd⟩, k1⟩, by simp [k2], by simpa [It.tt] using k3, k4⟩
theorem extOk_spec : ∀ {plan done : List Nat}, extOk ops done plan = true → ∀ pre i post, plan = pre ++ i :: post → ∀ o, ops[i]? = some o → ∀ e ∈ o.after, Region.binds .any e = true → e.on ∈ done ∨ e.on ∈ pre
 | [], _, _, pre, i, post, h, _, _, _, _, _ => by simp at h
 | j :: r, done, hx, [], i, post, h, o, ho, e, he, hb => by
  simp only [List.nil_append, List.cons.injEq] at h
  obtain ⟨rfl, rfl⟩ := h
  simp only [extOk, ho, Bool.and_eq_true, List.all_eq_true] at hx
  have := hx.1 e (by simpa using he)
  simp [hb] at this
  exact .inl this
 | j :: r, done, hx, k :: pre, i, post, h, o, ho, e, he, hb => by
  simp only [List.cons_append, List.cons.injEq] at h
  obtain ⟨rfl, h⟩ := h
  simp only [extOk, Bool.and_eq_true] at hx
  rcases extOk_spec hx.2 pre i post h o ho e he hb with h1 | h1
  ·rcases List.mem_cons.1 h1 with h1 | h1
   ·exact .inr (by simp [h1])
   ·exact .inl h1
  ·exact .inr (by simp [h1])
theorem apOk_spec {W : Array Nat} : ∀ {plan : List Nat}, apOk ops W plan = true → plan.Pairwise fun i j => i ≠ j ∧ (waits W j i = true ∨ ∃ a b, ops[i]? = some a ∧ ops[j]? = some b ∧ a.apart ops b = true)
 | [], _ => .nil
 | i :: r, h => by
  simp only [apOk, Bool.and_eq_true, List.all_eq_true] at h
  refine .cons (fun j hj => ?_) (apOk_spec h.2)
  have h1 := h.1 j hj
  simp only [Bool.not_eq_true', Bool.or_eq_true] at h1
  refine ⟨fun e => ?_, ?_⟩
  ·subst e; rw [Nat.beq_refl] at h1; exact absurd h1.1 (by simp)
  ·rcases h1.2 with h2 | h2
   ·exact .inl h2
   ·split at h2
    ·rename_i a b ha hb; exact .inr ⟨a, b, ha, hb, h2⟩
    ·cases h2
theorem chkT_spec {W : Array Nat} : ∀ {l : List (Nat × Tch)}, chkT W l = true → l.Pairwise fun x y => compat x.2 y.2 = true ∨ waits W y.1 x.1 = true
 | [], _ => .nil
 | x :: r, h => by
  simp only [chkT, Bool.and_eq_true, List.all_eq_true] at h
  exact .cons (fun y hy => by have := h.1 y hy; simpa using this) (chkT_spec h.2)
def enumI : Nat → List Oper → List (Nat × Oper)
 | _, [] => []
 | k, o :: r => (k, o) :: enumI (k + 1) r
theorem enumI_fst : ∀ (k : Nat) (l : List Oper), (enumI k l).map (·.1) = List.range' k l.length
 | _, [] => rfl
 | k, o :: r => by simp [enumI, enumI_fst (k + 1) r, List.range'_succ]
theorem enumI_mem : ∀ (k : Nat) (l : List Oper), ∀ x ∈ enumI k l, k ≤ x.1 ∧ l[x.1 - k]? = some x.2
 | _, [], x, h => by simp [enumI] at h
 | k, o :: r, x, h => by
  simp only [enumI, List.mem_cons] at h
  rcases h with rfl | h
  ·simp
  ·obtain ⟨h1, h2⟩ := enumI_mem (k + 1) r x h
   refine ⟨by omega, ?_⟩
   rw [show x.1 - k = (x.1 - (k + 1)) + 1 from by omega, List.getElem?_cons_succ]
   exact h2
theorem pickI_fst (l : List Oper) (plan : List Nat) : (pickI l plan).map (·.1) = plan := by
 induction plan with
 | nil => rfl
 | cons i r ih => simp [pickI, ih]
theorem pickI_mem {l : List Oper} {plan : List Nat} (h : ∀ i ∈ plan, i < l.length) : ∀ x ∈ pickI l plan, l.toArray[x.1]? = some x.2 := by
 induction plan with
 | nil => simp [pickI]
 | cons i r ih =>
  intro x hx
  simp only [pickI, List.mem_cons] at hx
  rcases hx with rfl | hx
  ·have hi := h i (by simp)
   have : l[i]? = some l[i] := List.getElem?_eq_getElem hi
   rw [nth_of this]
   simp
  ·exact ih (fun j hj => h j (by simp [hj])) x hx
theorem LC.drawG {F : Fr0} {Q : LQ} {env : Env} {mem : Mem} {id : Nat} {l : List Oper} (plan : List Nat) (pk : List (Nat × Oper)) (hpk : pk.map (·.1) = plan) (hpm : ∀ x ∈ pk, l.toArray[x.1]? = some x.2) (hm : P.follows .mixedOrders = true) (hB : (waitsB .any l.toArray (Region.before l.toArray) && planOk l.toArray (Region.before l.toArray) plan) = true)
    (h : DR P F N l.toArray (chkT (Region.before l.toArray)) (fun env mem => Q .normal env mem) pk [] env mem) : LC P F N (.region id l.toArray true) Q env mem := by
  refine ⟨fun F0 hx g a w hr => ?_⟩
  simp only [planOk, Bool.and_eq_true] at hB
  obtain ⟨hW, hlt, hall, hext, hap, hlen⟩ := hB
  have hlt' : ∀ i ∈ plan, i < l.length := fun i hi => by
    have h1 := Nat.le_of_ble_eq_true (List.all_eq_true.1 hlt i hi)
    simp at h1
    omega
  obtain ⟨its, k1, k2, k3, k4⟩ := DR.script h hpm
  rw [hpk] at k2
  have hat : ∀ (l' : List It) (env : Env) (mem : Mem), SR P F N l.toArray l' env mem → ∀ x ∈ l', l.toArray[x.i]? = some x.o := by
    intro l'
    induction l' with
    | nil => intro _ _ _ x hx; cases hx
    | cons y r ih =>
      intro env mem hs x hx
      rcases List.mem_cons.1 hx with rfl | hx
      · exact hs.1.at_
      · exact ih _ _ hs.2 x hx
  have hato := hat its env mem k1
  have hlen' : its.length = l.toArray.size := by
    rw [← Nat.eq_of_beq_eq_true hlen, ← k2, List.length_map]
  have hplan : Plan l.toArray (Region.before l.toArray) (Array.replicate l.length false) its := by
    refine ⟨fun i hi => ?_, fun x hx => ?_, ?_, fun pre x post hits o ho e he hb => ?_, ?_, by simp⟩
    · have hi' : i < l.length := by simpa using hi
      have : (Array.replicate l.length false).getD i true = false := by simp [Array.getD, hi']
      refine ⟨fun _ => ?_, fun _ => this⟩
      have h1 := List.all_eq_true.1 hall i (by simpa using hi')
      have h2 : i ∈ plan := by simpa using h1
      rw [← k2] at h2
      obtain ⟨x, hx, hxi⟩ := List.mem_map.1 h2
      exact ⟨x, hx, hxi⟩
    · have := hlt' x.i (by rw [← k2]; exact List.mem_map_of_mem hx)
      simpa using this
    · have := (apOk_spec hap).imp fun h => h.1
      rw [← k2, List.pairwise_map] at this
      exact this
    · have hp2 : plan = pre.map (·.i) ++ x.i :: post.map (·.i) := by rw [← k2, hits]; simp
      have h1 := extOk_spec hext (pre.map (·.i)) x.i (post.map (·.i)) hp2 o ho e he hb
      have h2 : e.on ∈ pre.map (·.i) := by
        rcases h1 with h1 | h1
        · cases h1
        · exact h1
      have hnd := (apOk_spec hap).imp fun h => h.1
      rw [hp2] at hnd
      have h3 := (List.pairwise_append.1 hnd).2.2 e.on h2
      refine ⟨?_, fun y hy hye => ?_⟩
      · have := hlt' e.on (by rw [hp2]; exact List.mem_append_left _ h2)
        simpa using this
      · exact h3 y.i (by
          rcases List.mem_cons.1 hy with rfl | hy
          · simp
          · exact List.mem_cons_of_mem _ (List.mem_map_of_mem hy)) hye.symm
    · have h1 := apOk_spec hap
      rw [← k2, List.pairwise_map] at h1
      have h2 := chkT_spec k3
      simp only [List.reverse_nil, List.nil_append, List.pairwise_map] at h2
      refine (h1.and h2).imp_of_mem fun {x y} hx hy h => ?_
      obtain ⟨⟨_, h3⟩, h4⟩ := h
      rcases h3 with h3 | ⟨p, q, hp, hq, h3⟩
      · exact .inl h3
      · rcases h4 with h4 | h4
        · have e1 := hato x hx
          have e2 := hato y hy
          rw [hp] at e1; cases e1
          rw [hq] at e2; cases e2
          exact .inr ⟨h3, h4⟩
        · exact .inl h4
  have hclosed : Closed .any l.toArray (Array.replicate l.length false) := by
    intro j o _ hl
    exfalso
    simp [Array.getElem?_replicate] at hl
    split at hl <;> simp_all
  have hr' : Rel F0 N g env mem a { w with drawn := w.drawn + 1 } := by
    have hx : Ext w { w with drawn := w.drawn + 1 } := Below.drew (Below.refl _ w)
    obtain ⟨e1, e2, e3⟩ := hr.mem.ext (g' := g) hr.kept hx (fun _ _ _ => Iff.rfl) rfl rfl hr.mem.fut
    exact ⟨fun t v ht => by obtain ⟨x, h1, h2⟩ := hr.env t v ht; exact ⟨x, h1, h2.mono e1⟩, e2, e3, hr.defers, hr.size, hr.big⟩
  refine wpIn_region_any hm ?_
  have := any_run (P := P) (N := N) (F := F) hx (Q := liftQ F0 N Q) hW its.length its env mem (Array.replicate l.length false) g a _ rfl k1 hplan hclosed hr' fun g2 a2 w2 hr2 => ⟨F0, .refl _, _, _, g2, .normal, hr2, rfl, k4⟩
  rw [hlen'] at this
  simpa using this
theorem LC.draw {F : Fr0} {Q : LQ} {env : Env} {mem : Mem} {id : Nat} {l : List Oper} (hm : P.follows .mixedOrders = true) (hB : (waitsB .any l.toArray (Region.before l.toArray) && planOk l.toArray (Region.before l.toArray) (List.range l.length)) = true)
  (h : DR P F N l.toArray (chkT (Region.before l.toArray)) (fun env mem => Q .normal env mem) (enumI 0 l) [] env mem) : LC P F N (.region id l.toArray true) Q env mem := by
 refine LC.drawG (List.range l.length) (enumI 0 l) (by rw [enumI_fst, List.range_eq_range']) (fun x hx => ?_) hm hB h
 have := (enumI_mem 0 l x hx).2
 simpa using this
variable {o : Oper} {i d j : Nat} {rs : List (Nat × Oper)} {acc : List (Nat × Tch)} {env : Env} {mem : Mem} {K : Env → Mem → Prop} {v : V} {m : Option M} {m' mm : M} {t : Tch}
theorem DR.step (hg : gd ops env o = some true) (h : Does P o env v t) (ht : tpre t mem) (hd : dok o.dst N = true) (hK : DR P F N ops chk K rs ((i, t) :: acc) (bind o.dst v env) (tset t mem)) : DR P F N ops chk K ((i, o) :: rs) acc env mem :=
 .run hd hg h.toF ht hK
theorem DR.stepF (hg : gd ops env o = some true) (h : DoesF P F o env v t) (ht : tpre t mem) (hd : dok o.dst N = true) (hK : DR P F N ops chk K rs ((i, t) :: acc) (bind o.dst v env) (tset t mem)) : DR P F N ops chk K ((i, o) :: rs) acc env mem :=
 .run hd hg h ht hK
theorem DR.pp (hg : gd ops env o = some true) (hds : o.dst = some d) (h : Does P o env v []) (hd : Nat.blt d N = true) (hK : DR P F N ops chk K rs ((i, []) :: acc) ((d, v) :: env) mem) : DR P F N ops chk K ((i, o) :: rs) acc env mem :=
 .step hg h tpre_nil (by rw [hds]; exact hd) (by rw [hds]; exact hK)
theorem DR.rr (hg : gd ops env o = some true) (hds : o.dst = some d) (h : Does P o env v [(j, some mm, none)]) (ht : aget mem j = some mm) (hd : Nat.blt d N = true) (hK : DR P F N ops chk K rs ((i, [(j, some mm, none)]) :: acc) ((d, v) :: env) mem) : DR P F N ops chk K ((i, o) :: rs) acc env mem :=
 .step hg h (tpre_one ht) (by rw [hds]; exact hd) (by rw [hds]; exact hK)
theorem DR.ww (hg : gd ops env o = some true) (hds : o.dst = some d) (h : Does P o env v [(j, m, some m')]) (ht : aget mem j = m) (hd : Nat.blt d N = true) (hK : DR P F N ops chk K rs ((i, [(j, m, some m')]) :: acc) ((d, v) :: env) ((j, m') :: mem)) : DR P F N ops chk K ((i, o) :: rs) acc env mem :=
 .step hg h (tpre_one ht) (by rw [hds]; exact hd) (by rw [hds]; exact hK)
theorem DR.nn (hg : gd ops env o = some true) (hds : o.dst = some d) (h : Does P o env v [(d, none, some m')]) (ht : aget mem d = none) (hd : Nat.blt d N = true) (hK : DR P F N ops chk K rs ((i, [(d, none, some m')]) :: acc) ((d, v) :: env) ((d, m') :: mem)) : DR P F N ops chk K ((i, o) :: rs) acc env mem :=
 .step hg h (tpre_one ht) (by rw [hds]; exact hd) (by rw [hds]; exact hK)
theorem DR.ss (hg : gd ops env o = some true) (hds : o.dst = none) (h : Does P o env v [(j, m, some m')]) (ht : aget mem j = m) (hK : DR P F N ops chk K rs ((i, [(j, m, some m')]) :: acc) env ((j, m') :: mem)) : DR P F N ops chk K ((i, o) :: rs) acc env mem :=
 .step hg h (tpre_one ht) (by rw [hds]; rfl) (by rw [hds]; exact hK)
theorem DR.ld {T off : Nat} {x : Operand} {cs : List V} (X : TOk P) {ti : TI} (hg : gd ops env o = some true) (hds : o.dst = some d) (ho : o.op = .load T x) (hx : evo env x = some (.p j off)) (hm : aget mem j = some (.b cs)) (hT : aget X.tab T = some ti) (hv : ti.part cs off = some v) (hd : Nat.blt d N = true) (hK : DR P F N ops chk K rs ((i, [(j, some (.b cs), none)]) :: acc) ((d, v) :: env) mem) : DR P F N ops chk K ((i, o) :: rs) acc env mem :=
 DR.rr hg hds (Does.load X ho hx hm hT hv) hm hd hK
theorem DR.st {T off : Nat} {x y : Operand} {cs cs' : List V} {u : V} (X : TOk P) {ti : TI} (hg : gd ops env o = some true) (hds : o.dst = none) (ho : o.op = .store T x y) (hx : evo env x = some (.p j off)) (hy : evo env y = some u) (hm : aget mem j = some (.b cs)) (hT : aget X.tab T = some ti) (hu : u.ok = true) (hs : Nat.beq u.cells.length ti.size = true) (hle : Nat.ble (off + u.cells.length) cs.length = true) (hcs : splice cs off u.cells = cs')
  (hK : DR P F N ops chk K rs ((i, [(j, some (.b cs), some (.b cs'))]) :: acc) env ((j, .b cs') :: mem)) : DR P F N ops chk K ((i, o) :: rs) acc env mem :=
 DR.ss hg hds (Does.store X ho hx hy hm hT hu hs hle hcs) hm hK
theorem DR.ap {T Tx E Ex sz : Nat} {x y : Operand} {s : Option Nat} {es ys : List V} (X : TOk P) {ti xi ei : TI} (hg : gd ops env o = some true) (hds : o.dst = some d) (ho : o.op = .call { callee := .builtin .append, args := #[x, y], argTypes := #[T, Tx] }) (hx : evo env x = some (.s (some j) es)) (hy : evo env y = some (.s s ys))
  {n0 : Nat} (hm : aget mem j = some (.r E sz n0)) (hn0 : es.length = n0) (hT : aget X.tab T = some ti) (hdt : ti.d = .sl E) (hE : aget X.tab E = some ei) (hsz : ei.size = sz) (hX : aget X.tab Tx = some xi) (hdx : xi.d = .sl Ex)
  (hes : ∀ e ∈ es, e.cells.length = sz) (hys : ∀ e ∈ ys, e.cells.length = sz) {n : Nat} (hn : es.length + ys.length = n) (hmax : n ≤ 140737488355328) (hb : n * ei.bytes ≤ 140737488355328) (hd : Nat.blt d N = true)
  (hK : DR P F N ops chk K rs ((i, [(j, some (.r E sz es.length), some (.r E sz n))]) :: acc) ((d, .s (some j) (es ++ ys)) :: env) ((j, .r E sz n) :: mem)) : DR P F N ops chk K ((i, o) :: rs) acc env mem :=
 DR.ww hg hds (Does.app X ho hx hy (by rw [hn0]; exact hm) hT hdt hE hsz hX hdx hes hys hn hmax hb) (by rw [hn0]; exact hm) hd hK
theorem DR.skip (hg : gd ops env o = some false) (hds : o.dst = some d) (hd : Nat.blt d N = true) (hK : DR P F N ops chk K rs ((i, []) :: acc) ((d, .k undef) :: env) mem) : DR P F N ops chk K ((i, o) :: rs) acc env mem :=
 .pass (by rw [hds]; exact hd) hg (by rw [hds]; exact hK)
theorem DR.skipz (hg : gd ops env o = some false) (hds : o.dst = none) (hK : DR P F N ops chk K rs ((i, []) :: acc) env mem) : DR P F N ops chk K ((i, o) :: rs) acc env mem :=
 .pass (by rw [hds]; rfl) hg (by rw [hds]; exact hK)
end
end Lf
open Go.RowKit Rg
namespace Lf
theorem wrap_uns {k : IntKind} (hk : k.signed = false) (z : Int) : k.wrap z = z % 2 ^ k.bits := by
 unfold IntKind.wrap
 simp [hk]
theorem wrap_unsN {k : IntKind} (hk : k.signed = false) (n : Nat) : k.wrap (n : Int) = ((n % 2 ^ k.bits : Nat) : Int) := by
 rw [wrap_uns hk]; norm_cast
theorem wrap_fit {k : IntKind} (hk : k.signed = false) {n : Nat} (h : n < 2 ^ k.bits) : k.wrap (n : Int) = (n : Int) := by
 rw [wrap_unsN hk, Nat.mod_eq_of_lt h]
theorem ofInt_nat (w n : Nat) : (BitVec.ofInt w (n : Int)).toNat = n % 2 ^ w := by
 rw [BitVec.ofInt_natCast, BitVec.toNat_ofNat]
theorem and_lt {a b n : Nat} (h : a < 2 ^ n) : a &&& b < 2 ^ n := Nat.lt_of_le_of_lt Nat.and_le_left h
theorem and_nat {k : IntKind} (hk : k.signed = false) {a b : Nat} (ha : a < 2 ^ k.bits) (hb : b < 2 ^ k.bits) : k.wrap (((BitVec.ofInt k.bits (a : Int) &&& BitVec.ofInt k.bits (b : Int)).toNat : Nat) : Int) = ((a &&& b : Nat) : Int) := by
 rw [BitVec.toNat_and, ofInt_nat, ofInt_nat, Nat.mod_eq_of_lt ha, Nat.mod_eq_of_lt hb, wrap_fit hk (and_lt ha)]
theorem or_nat {k : IntKind} (hk : k.signed = false) {a b : Nat} (ha : a < 2 ^ k.bits) (hb : b < 2 ^ k.bits) : k.wrap (((BitVec.ofInt k.bits (a : Int) ||| BitVec.ofInt k.bits (b : Int)).toNat : Nat) : Int) = ((a ||| b : Nat) : Int) := by
 rw [BitVec.toNat_or, ofInt_nat, ofInt_nat, Nat.mod_eq_of_lt ha, Nat.mod_eq_of_lt hb, wrap_fit hk (Nat.or_lt_two_pow ha hb)]
theorem xor_nat {k : IntKind} (hk : k.signed = false) {a b : Nat} (ha : a < 2 ^ k.bits) (hb : b < 2 ^ k.bits) : k.wrap (((BitVec.ofInt k.bits (a : Int) ^^^ BitVec.ofInt k.bits (b : Int)).toNat : Nat) : Int) = ((a ^^^ b : Nat) : Int) := by
 rw [BitVec.toNat_xor, ofInt_nat, ofInt_nat, Nat.mod_eq_of_lt ha, Nat.mod_eq_of_lt hb, wrap_fit hk (Nat.xor_lt_two_pow ha hb)]
theorem shr_nat {k : IntKind} {a s : Nat} (h : s ≤ k.bits) : ((a : Nat) : Int).fdiv (2 ^ (min ((s : Nat) : Int).toNat k.bits)) = ((a / 2 ^ s : Nat) : Int) := by
 rw [Int.toNat_natCast, Nat.min_eq_left h]
 rw [Int.fdiv_eq_ediv_of_nonneg _ (Int.le_of_lt (Int.pow_pos (by decide)))]
 norm_cast
theorem shl_nat {k : IntKind} (hk : k.signed = false) {a s : Nat} (h : s ≤ k.bits) : k.wrap (((a : Nat) : Int) * 2 ^ (min ((s : Nat) : Int).toNat k.bits)) = ((a * 2 ^ s % 2 ^ k.bits : Nat) : Int) := by
 rw [Int.toNat_natCast, Nat.min_eq_left h, wrap_uns hk]
 norm_cast
theorem quo_nat {a b : Nat} : ((a : Nat) : Int).tdiv ((b : Nat) : Int) = ((a / b : Nat) : Int) := rfl
theorem rem_nat {a b : Nat} : ((a : Nat) : Int).tmod ((b : Nat) : Int) = ((a % b : Nat) : Int) := rfl
theorem quo_i64 {a b : Nat} (h : a ≤ 9223372036854775807) : IntKind.i64.wrap (((a : Nat) : Int).tdiv ((b : Nat) : Int)) = ((a / b : Nat) : Int) := by
 have := Nat.div_le_self a b
 rw [quo_nat]
 generalize a / b = c at this
 exact wrap_i64 (by omega)
theorem quo_u64 {a b : Nat} (h : a ≤ 18446744073709551615) : IntKind.u64.wrap (((a : Nat) : Int).tdiv ((b : Nat) : Int)) = ((a / b : Nat) : Int) := by
 have := Nat.div_le_self a b
 rw [quo_nat]
 generalize a / b = c at this
 exact wrap_u64 (by omega)
theorem quo_i64r {a b : Nat} (h : a ≤ 9223372036854775807) : IntKind.i64.wrap (((a : Nat) : Int).tdiv (OfNat.ofNat b)) = ((a / OfNat.ofNat b : Nat) : Int) := quo_i64 (b := b) h
theorem quo_u64r {a b : Nat} (h : a ≤ 18446744073709551615) : IntKind.u64.wrap (((a : Nat) : Int).tdiv (OfNat.ofNat b)) = ((a / OfNat.ofNat b : Nat) : Int) := quo_u64 (b := b) h
theorem rem_r {a b : Nat} : ((a : Nat) : Int).tmod (OfNat.ofNat b) = ((a % OfNat.ofNat b : Nat) : Int) := rfl
theorem shr_u64r {a s : Nat} (h : OfNat.ofNat s ≤ 64) : ((a : Nat) : Int).fdiv (2 ^ (min (OfNat.ofNat s : Int).toNat IntKind.u64.bits)) = ((a / 2 ^ OfNat.ofNat s : Nat) : Int) := shr_nat (k := .u64) (s := s) h
theorem shl_u64r {a s : Nat} (h : OfNat.ofNat s ≤ 64) : IntKind.u64.wrap (((a : Nat) : Int) * 2 ^ (min (OfNat.ofNat s : Int).toNat IntKind.u64.bits)) = ((a * 2 ^ OfNat.ofNat s % 2 ^ 64 : Nat) : Int) := shl_nat (k := .u64) (s := s) rfl h
theorem shr_u64 {a s : Nat} (h : s ≤ 64) : ((a : Nat) : Int).fdiv (2 ^ (min ((s : Nat) : Int).toNat IntKind.u64.bits)) = ((a / 2 ^ s : Nat) : Int) := shr_nat (k := .u64) h
theorem shl_u64 {a s : Nat} (h : s ≤ 64) : IntKind.u64.wrap (((a : Nat) : Int) * 2 ^ (min ((s : Nat) : Int).toNat IntKind.u64.bits)) = ((a * 2 ^ s % 2 ^ 64 : Nat) : Int) := shl_nat (k := .u64) rfl h
theorem to_u8 {a : Nat} : IntKind.u8.wrap ((a : Nat) : Int) = ((a % 2 ^ 8 : Nat) : Int) := wrap_unsN (k := .u8) rfl a
theorem to_u64 {a : Nat} : IntKind.u64.wrap ((a : Nat) : Int) = ((a % 2 ^ 64 : Nat) : Int) := wrap_unsN (k := .u64) rfl a
theorem and_u64 {a b : Nat} (ha : a < 18446744073709551616) (hb : b < 18446744073709551616) : IntKind.u64.wrap (((BitVec.ofInt IntKind.u64.bits (a : Int) &&& BitVec.ofInt IntKind.u64.bits (b : Int)).toNat : Nat) : Int) = ((a &&& b : Nat) : Int) := and_nat (k := .u64) rfl ha hb
theorem or_u64 {a b : Nat} (ha : a < 18446744073709551616) (hb : b < 18446744073709551616) : IntKind.u64.wrap (((BitVec.ofInt IntKind.u64.bits (a : Int) ||| BitVec.ofInt IntKind.u64.bits (b : Int)).toNat : Nat) : Int) = ((a ||| b : Nat) : Int) := or_nat (k := .u64) rfl ha hb
theorem xor_u64 {a b : Nat} (ha : a < 18446744073709551616) (hb : b < 18446744073709551616) : IntKind.u64.wrap (((BitVec.ofInt IntKind.u64.bits (a : Int) ^^^ BitVec.ofInt IntKind.u64.bits (b : Int)).toNat : Nat) : Int) = ((a ^^^ b : Nat) : Int) := xor_nat (k := .u64) rfl ha hb
theorem and_u64r {a b : Nat} (ha : a < 18446744073709551616) (hb : OfNat.ofNat b < 18446744073709551616) : IntKind.u64.wrap (((BitVec.ofInt IntKind.u64.bits (a : Int) &&& BitVec.ofInt IntKind.u64.bits (OfNat.ofNat b)).toNat : Nat) : Int) = ((a &&& OfNat.ofNat b : Nat) : Int) := and_u64 (b := b) ha hb
theorem and_i64r {a b : Nat} (ha : a < 9223372036854775808) (hb : OfNat.ofNat b < 9223372036854775808) : IntKind.i64.wrap (((BitVec.ofInt IntKind.i64.bits (a : Int) &&& BitVec.ofInt IntKind.i64.bits (OfNat.ofNat b)).toNat : Nat) : Int) = ((a &&& OfNat.ofNat b : Nat) : Int) := by
 have hb' : b < 9223372036854775808 := hb
 have h : (BitVec.ofInt 64 (a : Int) &&& BitVec.ofInt 64 ((b : Nat) : Int)).toNat = a &&& b := by
  rw [BitVec.toNat_and, BitVec.ofInt_natCast, BitVec.ofInt_natCast, BitVec.toNat_ofNat, BitVec.toNat_ofNat, Nat.mod_eq_of_lt (by omega), Nat.mod_eq_of_lt (by omega)]
 show IntKind.i64.wrap (((BitVec.ofInt 64 (a : Int) &&& BitVec.ofInt 64 ((b : Nat) : Int)).toNat : Nat) : Int) = ((a &&& b : Nat) : Int)
 rw [h]
 have := Nat.and_le_left (n := a) (m := b)
 exact wrap_i64 (by omega)
def andn (a b : Nat) : Nat := a &&& (18446744073709551615 - b)
theorem andn_le (a b : Nat) : andn a b ≤ a := Nat.and_le_left
theorem andn_u64 {a b : Nat} (ha : a < 18446744073709551616) (hb : b < 18446744073709551616) : IntKind.u64.wrap (((BitVec.ofInt IntKind.u64.bits (a : Int) &&& ~~~ BitVec.ofInt IntKind.u64.bits (b : Int)).toNat : Nat) : Int) = ((andn a b : Nat) : Int) := by
 have h : (BitVec.ofInt 64 (a : Int) &&& ~~~ BitVec.ofInt 64 (b : Int)).toNat = andn a b := by
  rw [BitVec.toNat_and, BitVec.toNat_not, BitVec.ofInt_natCast, BitVec.ofInt_natCast, BitVec.toNat_ofNat, BitVec.toNat_ofNat, Nat.mod_eq_of_lt (by omega), Nat.mod_eq_of_lt (by omega)]
  rfl
 show IntKind.u64.wrap (((BitVec.ofInt 64 (a : Int) &&& ~~~ BitVec.ofInt 64 (b : Int)).toNat : Nat) : Int) = _
 rw [h]
 have := andn_le a b
 exact wrap_u64 (by omega)
theorem neg_u64 {a : Nat} (ha : a < 18446744073709551616) : IntKind.u64.wrap (0 - (a : Int)) = (((18446744073709551616 - a) % 2 ^ 64 : Nat) : Int) := by
 have h : (0 - (a : Int)) = ((18446744073709551616 - a : Nat) : Int) - 18446744073709551616 := by omega
 rw [← to_u64, h, wrap_uns rfl, wrap_uns rfl]
 show (((18446744073709551616 - a : Nat) : Int) - 18446744073709551616) % 18446744073709551616 = ((18446744073709551616 - a : Nat) : Int) % 18446744073709551616
 omega
section
variable {P : Program} {o : Oper} {env : Env} {v : V}
theorem Does.andNot' {T Y : Nat} {x y : Operand} {k : IntKind} {m n r : Int} (ho : o.op = .binOp .andNot T x y Y) (hx : evo env x = some (.k (.int k m))) (hy : evo env y = some (.k (.int k n))) (hr : k.wrap (BitVec.ofInt k.bits m &&& ~~~ BitVec.ofInt k.bits n).toNat = r) : Does P o env (.k (.int k r)) [] :=
 .arith ho hx hy (by rw [← hr]; rfl)
theorem Does.and' {T Y : Nat} {x y : Operand} {k : IntKind} {m n r : Int} (ho : o.op = .binOp .and T x y Y) (hx : evo env x = some (.k (.int k m))) (hy : evo env y = some (.k (.int k n))) (hr : k.wrap (BitVec.ofInt k.bits m &&& BitVec.ofInt k.bits n).toNat = r) : Does P o env (.k (.int k r)) [] :=
 .arith ho hx hy (by rw [← hr]; rfl)
theorem Does.or' {T Y : Nat} {x y : Operand} {k : IntKind} {m n r : Int} (ho : o.op = .binOp .or T x y Y) (hx : evo env x = some (.k (.int k m))) (hy : evo env y = some (.k (.int k n))) (hr : k.wrap (BitVec.ofInt k.bits m ||| BitVec.ofInt k.bits n).toNat = r) : Does P o env (.k (.int k r)) [] :=
 .arith ho hx hy (by rw [← hr]; rfl)
theorem Does.xor' {T Y : Nat} {x y : Operand} {k : IntKind} {m n r : Int} (ho : o.op = .binOp .xor T x y Y) (hx : evo env x = some (.k (.int k m))) (hy : evo env y = some (.k (.int k n))) (hr : k.wrap (BitVec.ofInt k.bits m ^^^ BitVec.ofInt k.bits n).toNat = r) : Does P o env (.k (.int k r)) [] :=
 .arith ho hx hy (by rw [← hr]; rfl)
theorem exec_callF {o : Oper} {fx : Nat} {f : Operand} {xs : List Operand} {ts : Array Nat} {fi ca : Array Value} (ho : o.op = .call { callee := .value f, args := xs.toArray, argTypes := ts }) (hok : callOk P fx = true) (a : Act) (w : World) (hf : a.eval f = .func (.func fx) fi ca) :
  (execOp a.eval o).run P w = .ok (.enter fx (fi ++ (xs.map a.eval).toArray ++ ca)) w := by
 unfold callOk at hok
 split at hok
 ·rename_i fn hfn
  simp only [Bool.and_eq_true, Bool.not_eq_true'] at hok
  have hn : ¬ fn.body = none := by cases hb : fn.body <;> simp_all
  have hm : ¬ fn.name = "runtime.NumGoroutine" := by simpa using hok.1
  simp [execOp, ho, resolve, hf, Deferred.ofValue, invoke, callFunc, hfn, hm, hn]
 ·cases hok
theorem Does.callFM {fx : Nat} {f : Operand} {xs : List Operand} {ts : Array Nat} {us args fi ca : List V} {mi mo : Mem} {v : V} (hc : LM P fx args mi fun o m => o = .ret v ∧ m = mo) (ho : o.op = .call { callee := .value f, args := xs.toArray, argTypes := ts }) (hf : evo env f = some (.f (.func fx) fi ca)) (hx : evs env xs = some us) (hu : Fits (fi ++ us ++ ca) args)
  (hr : (V.refs.go mi args && (refsM mi mi && keysOk mi mo)) = true) : Does P o env v (callT mi mo) := by
 refine ⟨fun F g a w mem h1 h2 h3 h4 _ K Q hK => ?_⟩
 simp only [Bool.and_eq_true] at hr
 have hf' := h1 f (by simp [ho, Op.operands, Call.operands]) _ hf
 generalize hy : a.eval f = y at hf'
 cases hf' with
 | @f _ _ _ _ vs us' l1 l2 r1 r2 =>
  obtain ⟨e1, e2⟩ := evs_get hx
  obtain ⟨f1, f2⟩ := fits_rep (w := w) (g := g) hu
  obtain ⟨t1, t2⟩ := tpre_call h4 hr.2.2
  unfold Oper.wp
  rw [exec_callF ho hc.ok a w hy]
  have hl : args.length = (vs ++ (xs.map a.eval).toArray ++ us').size := by simp at f1 ⊢; omega
  refine Calls.mono (call_ends hc h2 h3 hr.2.1 hr.1 t1 hl fun j u x hj hxj => ?_) ?_
  ·obtain ⟨u0, hu0, hb⟩ := f2 hj
   refine hb _ ?_
   rw [Array.append_assoc] at hxj
   rw [List.append_assoc] at hu0
   rcases Nat.lt_or_ge j fi.length with h | h
   ·rw [List.getElem?_append_left h] at hu0
    rw [Array.getElem?_append_left (by omega)] at hxj
    exact r1 j u0 x hu0 hxj
   ·rw [List.getElem?_append_right h] at hu0
    rw [Array.getElem?_append_right (by omega)] at hxj
    rw [← l1] at hxj
    rcases Nat.lt_or_ge (j - fi.length) us.length with h' | h'
    ·rw [List.getElem?_append_left h'] at hu0
     rw [Array.getElem?_append_left (by simp; omega)] at hxj
     obtain ⟨y, hy, hev⟩ := e2 _ u0 hu0
     have : x = a.eval y := by simp [hy] at hxj; exact hxj.symm
     subst this
     exact h1 y (by simp [ho, Op.operands, Call.operands]; exact .inr (List.mem_of_getElem? hy)) u0 hev
    ·rw [List.getElem?_append_right h'] at hu0
     rw [Array.getElem?_append_right (by simp; omega)] at hxj
     simp at hxj
     rw [e1] at hxj
     exact r2 _ u0 x hu0 hxj
  ·rintro e w' ⟨o', mo', ⟨rfl, rfl⟩, hq⟩
   obtain ⟨g2, k1, k2, k3, x, rfl, k4⟩ := hq hr.2.2 t2
   exact hK x g2 w' k1 (by rw [tset_call]; exact k2) k3 k4
theorem Does.callF {fx : Nat} {f : Operand} {xs : List Operand} {ts : Array Nat} {us args fi ca : List V} {out : V} (hc : LM P fx args [] fun o m => o = .ret out ∧ m = []) (ho : o.op = .call { callee := .value f, args := xs.toArray, argTypes := ts }) (hf : evo env f = some (.f (.func fx) fi ca)) (hx : evs env xs = some us) (hu : Fits (fi ++ us ++ ca) args) (hr : V.refs.go [] args = true) :
  Does P o env out [] := Does.callFM hc ho hf hx hu (by rw [hr]; rfl)
theorem Does.mkFunc {fn : Fn} {fi ca : List Operand} {fs cs : List V} (ho : o.op = .makeFunc fn fi.toArray ca.toArray) (h1 : evs env fi = some fs) (h2 : evs env ca = some cs) : Does P o env (.f fn fs cs) [] :=
 .pure fun F g a w mem hr _ => by
  obtain ⟨e1, e2⟩ := evs_get h1
  obtain ⟨f1, f2⟩ := evs_get h2
  refine ⟨.func fn (fi.map a.eval).toArray (ca.map a.eval).toArray, ?_, .f (by simp; omega) (by simp; omega) (fun j u x hj hx => ?_) (fun j u x hj hx => ?_)⟩
  ·simp [execOp, ho, Instr.makeFunc]
  ·obtain ⟨y, hy, hev⟩ := e2 j u hj
   have : x = a.eval y := by simp [hy] at hx; exact hx.symm
   subst this
   exact hr y (by simp [ho, Op.operands]; exact .inl (List.mem_of_getElem? hy)) u hev
  ·obtain ⟨y, hy, hev⟩ := f2 j u hj
   have : x = a.eval y := by simp [hy] at hx; exact hx.symm
   subst this
   exact hr y (by simp [ho, Op.operands]; exact .inr (List.mem_of_getElem? hy)) u hev
theorem getM {α β : Type} [Inhabited α] {f : α → β} {l : List α} {k : Nat} (h : k < l.length) : (l.map f)[k]? = some (f (l.getD k default)) := by rw [List.getElem?_map, List.getElem?_eq_getElem h, List.getD_eq_getElem?_getD, List.getElem?_eq_getElem h]; rfl
theorem Does.cutAQ {T e l h n : Nat} {x : Operand} {lo hi : Option Operand} {cs es : List V} (X : TOk P) {ti ei : TI} (ho : o.op = .slice T x lo hi none) (hx : evo env x = some (.q cs)) (hT : aget X.tab T = some ti) (hd : ti.d = .arr n e) (hE : aget X.tab e = some ei) (hlo : Bd env 0 lo l) (hhi : Bd env n hi h)
  (h1 : l ≤ h) (h2 : h ≤ n) (h3 : l < n) (hm : n ≤ maxLen) (hp : Nat.blt 0 ei.size = true) (hc : (cs.drop (l * ei.size)).take ((h - l) * ei.size) = es.flatMap V.cells) (hl : es.length = h - l) (hs : ∀ e ∈ es, e.cells.length = ei.size) : Does P o env (.s none es) [] :=
 .pure fun F g a w mem hr _ => by
  have hr0 := hr x (by simp [ho, Op.operands]) _ hx
  have b1 := hlo.val (a := a) (fun y hy u hu => hr y (by subst hy; simp [ho, Op.operands]) u hu)
  have b2 := hhi.val (a := a) (fun y hy u hu => hr y (by subst hy; simp [ho, Op.operands]) u hu)
  generalize hy : a.eval x = y at hr0
  cases hr0 with
  | @q _ _ b off xs k1 hx' hc' =>
   have := run_cutA (P := P) (b := b) (off := off) ((X.get hT).arr hd) (X.get hE).run_size b1 b2 h1 h2 h3 w
   have hin : ∀ (j : Nat) u, (es.flatMap V.cells)[j]? = some u → cs[l * ei.size + j]? = some u := fun j u hj => by
    rw [← hc, List.getElem?_take] at hj
    split at hj
    ·rw [List.getElem?_drop] at hj; exact hj
    ·cases hj
   refine ⟨.slice (some ⟨b, off + l * ei.size, none⟩) (h - l) (n - l), by simp [execOp, ho, hy, this], ?_⟩
   rw [← hl]
   refine .s (size := ei.size) (fun j => xs (l * ei.size + j)) (by omega) (by omega) (by simpa using hp) (fun e he => ⟨hs e he, fun u hu => ?_⟩) (fun j u hj => ?_) (fun j u hj => hc' _ u (hin j u hj)) (fun _ h => by cases h)
   ·obtain ⟨j, hj⟩ := List.getElem?_of_mem (List.mem_flatMap.2 ⟨e, he, hu⟩)
    exact k1 u (List.mem_of_getElem? (hin j u hj))
   ·obtain ⟨a1, a2, a3⟩ := hx' _ u (hin j u hj)
    rw [Nat.add_assoc]
    exact ⟨a1, a2, a3⟩
end
def V.frz (i : Nat) (cs : List V) : V → V
 | .p j off => cond (Nat.beq j i) (.q (cs.drop off)) (.p j off)
 | v => v
def frzE (i : Nat) (cs : List V) : Env → Env
 | [] => []
 | (t, v) :: r => (t, v.frz i cs) :: frzE i cs r
theorem frzE_get {i : Nat} {cs : List V} {t : Nat} {v : V} : ∀ {env : Env}, aget (frzE i cs env) t = some v → ∃ u, aget env t = some u ∧ v = u.frz i cs
 | [], h => by cases h
 | (n, u) :: r, h => by
  simp only [frzE, aget_cons] at h ⊢
  split at h
  ·rename_i e; cases h; rw [if_pos e]; exact ⟨u, rfl, rfl⟩
  ·rename_i e; rw [if_neg e]; exact frzE_get h
def Gh.frz (g : Gh) (b off n : Nat) : Gh := ⟨fun b' o => g.S b' o ∨ (b' = b ∧ off ≤ o ∧ o < off + n), g.bx, g.rw⟩
theorem RelM.frz {F : Fr0} {g : Gh} {w : World} {mem : Mem} (h : RelM F g mem w) (hk : Kept F g w) {i b off n : Nat} {m : M} (hi : aget mem i = some m) (hin : ∀ o, off ≤ o → o < off + n → fp g i m b o) :
  Ev g w (g.frz b off n) w ∧ RelM F (g.frz b off n) ((i, .x) :: mem) w ∧ Kept F (g.frz b off n) w := by
 have hev : Ev g w (g.frz b off n) w := ⟨Nat.le_refl _, fun _ _ _ hs => ⟨.inl hs, rfl⟩, fun _ _ h => h, fun _ a l c h => ⟨a, l, c, h, Nat.le_refl _, fun _ => ⟨rfl, rfl⟩⟩⟩
 refine ⟨hev, h.step hk hev rfl rfl rfl (fun b' o _ hn => ⟨rfl, rfl, fun hs => hs.elim id fun ⟨e, h1, h2⟩ => ?_⟩) (fun _ _ _ => rfl) (fun _ _ => rfl) (fun _ _ => rfl) .x (fun _ _ hp => hp.elim) fun b' o hb' => .inl (h.fut b' o hb')⟩
 subst e
 exact absurd ⟨m, hi, hin o h1 h2⟩ hn
theorem Rel.frz {F : Fr0} {N : Nat} {g : Gh} {env : Env} {mem : Mem} {a : Act} {w : World} {i : Nat} {cs cs' : List V} (h : Rel F N g env mem a w) (hi : aget mem i = some (.b cs)) (hb : V.bare.go cs = some cs') : ∃ g', Rel F N g' (frzE i cs' env) ((i, .x) :: mem) a w := by
 obtain ⟨b, off, hbx, hlt, hB⟩ := h.mem.box hi
 obtain ⟨hl, hbare⟩ := bare_go hb
 obtain ⟨hev, h1, h2⟩ := h.mem.frz h.kept (n := cs.length) hi fun o q1 q2 => ⟨off, hbx, q1, q2⟩
 have hq : ∀ o, Rep w (g.frz b off cs.length) (.q (cs'.drop o)) (.pointer (some ⟨b, off + o, none⟩)) := fun o => by
  obtain ⟨xs, hxl, hx⟩ := cells_choose (p := fun j x => w.cell? ⟨b, off + j, none⟩ = some x ∧ ∀ u, cs[j]? = some u → Rep w g u x) cs.length fun j hj => by
   obtain ⟨_, _, x, hc, hr⟩ := hB.at_ j cs[j] (List.getElem?_eq_getElem hj)
   exact ⟨x, hc, fun u hu => by rw [List.getElem?_eq_getElem hj] at hu; cases hu; exact hr⟩
  have h0 : Rep w (g.frz b off cs.length) (.q cs') (.pointer (some ⟨b, off, none⟩)) := by
   refine .q (fun j => xs.getD j undef) (fun u hu => ?_) (fun j u hj => ?_) (fun j u hj => ?_)
   ·obtain ⟨j, hj⟩ := List.getElem?_of_mem hu
    obtain ⟨u0, hu0, hb0⟩ := hbare j u hj
    rw [bare_one hb0]; exact hB.one u0 (List.mem_of_getElem? hu0)
   ·have hj' : j < cs.length := by have := (List.getElem?_eq_some_iff.1 hj).1; omega
    have hxj : xs[j]? = some xs[j] := List.getElem?_eq_getElem (by omega)
    refine ⟨hlt, .inr ⟨rfl, by omega, by omega⟩, ?_⟩
    rw [List.getD_eq_getElem?_getD, hxj]
    exact (hx j _ hxj).1
   ·obtain ⟨u0, hu0, hb0⟩ := hbare j u hj
    have hj' : j < cs.length := (List.getElem?_eq_some_iff.1 hu0).1
    have hxj : xs[j]? = some xs[j] := List.getElem?_eq_getElem (by omega)
    rw [List.getD_eq_getElem?_getD, hxj]
    exact (((hx j _ hxj).2 u0 hu0).to_bare hb0).mono hev.bare
  exact rep_q_drop o h0
 refine ⟨g.frz b off cs.length, fun t v ht => ?_, h1, h2, h.defers, h.size, h.big⟩
 obtain ⟨u, hu, rfl⟩ := frzE_get ht
 obtain ⟨x, hx, hr⟩ := h.env t u hu
 refine ⟨x, hx, ?_⟩
 cases u with
 | p j o' =>
  simp only [V.frz]
  cases hji : Nat.beq j i with
  | false => exact hr.mono hev
  | true =>
   obtain rfl := Nat.eq_of_beq_eq_true hji
   cases hr with
   | p hp =>
    rw [hbx] at hp; cases hp
    exact hq o'
 | _ => exact hr.mono hev
theorem LC.same {P : Program} {F : Fr0} {N : Nat} {Q : LQ} {env : Env} {mem : Mem} {c : Code} (h : LC P F N c Q env mem) : LC P F N c Q env mem := h
theorem LC.freeze {P : Program} {F : Fr0} {N : Nat} {Q : LQ} {env : Env} {mem : Mem} {c : Code} (i : Nat) {cs cs' : List V} (hi : aget mem i = some (.b cs)) (hb : V.bare.go cs = some cs') (h : LC P F N c Q (frzE i cs' env) ((i, .x) :: mem)) : LC P F N c Q env mem := ⟨fun F0 hx _ a w hr => by
 obtain ⟨g', hr'⟩ := hr.frz hi hb
 exact h.go F0 hx g' a w hr'⟩
end Lf
open Go.RowKit Rg
namespace Lf
structure Pm where
 f : Nat → Nat
 g : Nat → Nat
 gf : ∀ i, g (f i) = i
 fg : ∀ i, f (g i) = i
def Pm.inv (ρ : Pm) : Pm := ⟨ρ.g, ρ.f, ρ.fg, ρ.gf⟩
theorem Pm.inj (ρ : Pm) {i j : Nat} (h : ρ.f i = ρ.f j) : i = j := by rw [← ρ.gf i, h, ρ.gf]
def swapF (a b i : Nat) : Nat := if i = a then b else if i = b then a else i
theorem swap_swap (a b i : Nat) : swapF a b (swapF a b i) = i := by unfold swapF; (repeat' split) <;> omega
def Pm.comp (ρ τ : Pm) : Pm := ⟨fun i => ρ.f (τ.f i), fun i => τ.g (ρ.g i), fun i => by rw [ρ.gf, τ.gf], fun i => by rw [τ.fg, ρ.fg]⟩
def Pm.swap (a b : Nat) : Pm := ⟨swapF a b, swapF a b, swap_swap a b, swap_swap a b⟩
theorem exists_pm : ∀ (ks is : List Nat), ks.Nodup → is.Nodup → ks.length = is.length → ∃ ρ : Pm, ks.map ρ.f = is
 | [], [], _, _, _ => ⟨⟨id, id, fun _ => rfl, fun _ => rfl⟩, rfl⟩
 | [], _ :: _, _, _, h => by simp at h
 | _ :: _, [], _, _, h => by simp at h
 | k :: ks, i :: is, hk, hi, h => by
  obtain ⟨ρ, hρ⟩ := exists_pm ks is (List.nodup_cons.1 hk).2 (List.nodup_cons.1 hi).2 (by simpa using h)
  refine ⟨(Pm.swap (ρ.f k) i).comp ρ, ?_⟩
  rw [List.map_cons]
  congr 1
  ·simp [Pm.comp, Pm.swap, swapF]
  ·rw [← hρ]
   refine List.map_congr_left fun j hj => ?_
   have h1 : ρ.f j ≠ ρ.f k := fun e => (List.nodup_cons.1 hk).1 (ρ.inj e ▸ hj)
   have h2 : ρ.f j ≠ i := fun e => (List.nodup_cons.1 hi).1 (by rw [← e, ← hρ]; exact List.mem_map_of_mem hj)
   simp [Pm.comp, Pm.swap, swapF, h1, h2]
def V.ren (ρ : Nat → Nat) : V → V
 | .a cs => .a (go ρ cs)
 | .t cs => .t (go ρ cs)
 | .s (some r) es => .s (some (ρ r)) es
 | .p b off => .p (ρ b) off
 | .sb b off n cap => .sb (ρ b) off n cap
 | .f fn fi ca => .f fn (go ρ fi) (go ρ ca)
 | .i T v => .i T (v.ren ρ)
 | .w b gen sz off n => .w (ρ b) gen sz off n
 | .pw b gen off => .pw (ρ b) gen off
 | .mp b => .mp (ρ b)
 | .y b => .y (ρ b)
 | v => v
where go (ρ : Nat → Nat) : List V → List V
 | [] => []
 | v :: r => v.ren ρ :: go ρ r
theorem ren_go {ρ : Nat → Nat} (cs : List V) : V.ren.go ρ cs = cs.map (V.ren ρ) := by
 induction cs with
 | nil => rfl
 | cons v r ih => rw [V.ren.go, ih, List.map_cons]
theorem ren_one {ρ : Nat → Nat} {v : V} : (v.ren ρ).one = v.one := by
 cases v with
 | s o es => cases o <;> rfl
 | _ => rfl
theorem ren_inv (ρ : Pm) (v : V) : (v.ren ρ.f).ren ρ.g = v := by
 induction v using V.rec (motive_2 := fun l => V.ren.go ρ.g (V.ren.go ρ.f l) = l) with
 | k v => rfl
 | a cs ih => simp only [V.ren, ih]
 | t cs ih => simp only [V.ren, ih]
 | s o es => cases o with
  | none => rfl
  | some r => simp only [V.ren, ρ.gf]
 | nil => rfl
 | p b off => simp only [V.ren, ρ.gf]
 | sb b off n cap => simp only [V.ren, ρ.gf]
 | q cs => rfl
 | f fn fi ca h1 h2 => simp only [V.ren, h1, h2]
 | i T v ih => simp only [V.ren, ih]
 | w b gen sz off n => simp only [V.ren, ρ.gf]
 | pw b gen off => simp only [V.ren, ρ.gf]
 | mp b => simp only [V.ren, ρ.gf]
 | y b => simp only [V.ren, ρ.gf]
 | cons v l h1 h2 => simp only [V.ren.go, h1, h2]
 | _ => rfl
def M.ren (ρ : Nat → Nat) : M → M
 | .b cs => .b (cs.map (V.ren ρ))
 | .it j c l => .it (ρ j) c l
 | other => other
theorem mren_inv (ρ : Pm) (m : M) : (m.ren ρ.f).ren ρ.g = m := by
 cases m with
 | b cs => simp only [M.ren, List.map_map]; congr 1; exact (List.map_congr_left fun v _ => ren_inv ρ v).trans (List.map_id cs)
 | it j c l => show M.it (ρ.g (ρ.f j)) c l = _; rw [ρ.gf]
 | _ => rfl
def Mem.ren (ρ : Nat → Nat) (m : List (Nat × M)) : Mem := m.map fun x => (ρ x.1, x.2.ren ρ)
theorem memren_inv (ρ : Pm) (m : Mem) : Mem.ren ρ.g (Mem.ren ρ.f m) = m := by
 simp only [Mem.ren, List.map_map]
 exact (List.map_congr_left fun x _ => by simp [ρ.gf, mren_inv]).trans (List.map_id m)
theorem aget_ren (ρ : Pm) (m : Mem) (i : Nat) : aget (Mem.ren ρ.f m) (ρ.f i) = (aget m i).map (M.ren ρ.f) := by
 induction m with
 | nil => rfl
 | cons x r ih =>
  obtain ⟨n, u⟩ := x
  simp only [Mem.ren, List.map_cons, aget_cons]
  by_cases h : n = i
  ·subst h; simp
  ·rw [if_neg h, if_neg fun e => h (ρ.inj e)]; exact ih
def Gh.pull (ρ : Nat → Nat) (g : Gh) : Gh := ⟨g.S, fun i => g.bx (ρ i), fun i => g.rw (ρ i)⟩
def Fr0.pull (ρ : Nat → Nat) (F : Fr0) : Fr0 := ⟨F.w0, F.S0, F.B, fun i => F.bx0 (ρ i), fun i => F.rw0 (ρ i), F.D, F.ro, F.lm⟩
theorem pull_inv (ρ : Pm) (g : Gh) : (g.pull ρ.g).pull ρ.f = g := by simp [Gh.pull, ρ.gf]
theorem pull_inv' (ρ : Pm) (g : Gh) : (g.pull ρ.f).pull ρ.g = g := by simp [Gh.pull, ρ.fg]
theorem rep_ren {w : World} {ρ : Nat → Nat} {g0 : Gh} {v : V} {x : Value} (h : Rep w g0 v x) : ∀ {g : Gh}, g0 = g.pull ρ → Rep w g (v.ren ρ) x := by
 induction h with
 | k v => intro g _; exact .k v
 | a hl h1 _ ih =>
  intro g hg
  simp only [V.ren, ren_go]
  refine .a (by simpa using hl) (fun u hu => ?_) fun j u x hj hx => ?_
  ·obtain ⟨u0, hu0, rfl⟩ := List.mem_map.1 hu; rw [ren_one]; exact h1 u0 hu0
  ·rw [List.getElem?_map] at hj
   obtain ⟨u0, hu0, rfl⟩ := Option.map_eq_some_iff.1 hj
   exact ih j u0 x hu0 hx hg
 | t hl _ ih =>
  intro g hg
  simp only [V.ren, ren_go]
  refine .t (by simpa using hl) fun j u x hj hx => ?_
  rw [List.getElem?_map] at hj
  obtain ⟨u0, hu0, rfl⟩ := Option.map_eq_some_iff.1 hj
  exact ih j u0 x hu0 hx hg
 | nil => intro g _; exact .nil
 | @se g' o a ht =>
  intro g hg
  subst hg
  cases o with
  | none => exact .se a fun _ h => by cases h
  | some r => exact .se a fun r' h => by cases h; exact ht r rfl
 | @s0 g' o ht =>
  intro g hg
  subst hg
  cases o with
  | none => exact .s0 fun _ h => by cases h
  | some r => exact .s0 fun r' h => by cases h; exact ht r rfl
 | @s g' o es b off cap size xs hn hm hp hs hx hc ht _ =>
  intro g hg
  subst hg
  cases o with
  | none => exact .s xs hn hm hp hs hx hc fun _ h => by cases h
  | some r => exact .s xs hn hm hp hs hx hc fun r' h => by cases h; exact ht r rfl
 | p h => intro g hg; subst hg; exact .p h
 | sb h => intro g hg; subst hg; exact .sb h
 | q xs h1 hx hc _ => intro g hg; subst hg; exact .q xs h1 hx hc
 | f h1 h2 _ _ ih1 ih2 =>
  intro g hg
  simp only [V.ren, ren_go]
  refine .f (by simpa using h1) (by simpa using h2) (fun j u x hj hx => ?_) fun j u x hj hx => ?_
  ·rw [List.getElem?_map] at hj
   obtain ⟨u0, hu0, rfl⟩ := Option.map_eq_some_iff.1 hj
   exact ih1 j u0 x hu0 hx hg
  ·rw [List.getElem?_map] at hj
   obtain ⟨u0, hu0, rfl⟩ := Option.map_eq_some_iff.1 hj
   exact ih2 j u0 x hu0 hx hg
 | i _ ih => intro g hg; exact .i (ih hg)
 | w h => intro g hg; subst hg; exact .w h
 | pw h => intro g hg; subst hg; exact .pw h
 | mp h => intro g hg; subst hg; exact .mp h
 | y h => intro g hg; subst hg; exact .y h
theorem rep_pull {w : World} (ρ : Pm) {g : Gh} {v : V} {x : Value} (h : Rep w g (v.ren ρ.f) x) : Rep w (g.pull ρ.f) v x := by
 have := rep_ren (ρ := ρ.g) h (g := g.pull ρ.f) (pull_inv' ρ g).symm
 rwa [ren_inv] at this
theorem fp_pull {ρ : Nat → Nat} {g : Gh} {i b o : Nat} {m : M} : fp (g.pull ρ) i m b o ↔ fp g (ρ i) (m.ren ρ) b o := by
 cases m <;> simp only [fp, M.ren, Gh.pull, List.length_map]
theorem obj_pull {w : World} (ρ : Pm) {g : Gh} {i : Nat} {m : M} (h : ObjAt g w (ρ.f i) (m.ren ρ.f)) : ObjAt (g.pull ρ.f) w i m := by
 cases m with
 | b cs =>
  cases h with
  | b hg hb h =>
   refine .b hg hb ⟨fun u hu => ?_, fun j u hj => ?_⟩
   ·have := h.one _ (List.mem_map_of_mem hu); rwa [ren_one] at this
   ·obtain ⟨a1, a2, x, a3, a4⟩ := h.at_ j (u.ren ρ.f) (by rw [List.getElem?_map, hj]; rfl)
    exact ⟨a1, a2, x, a3, rep_pull ρ a4⟩
 | r => cases h with | r hg h => exact .r hg ⟨h.pos, h.own, h.free⟩
 | w => cases h with | w hg h => exact .w hg ⟨h.pos, h.cells, h.own, h.free⟩
 | m => cases h with | m hg h => exact .m hg ⟨h.own, h.free⟩
 | d => cases h with | d hg h => exact .d hg ⟨h.own, h.free⟩
 | it => cases h with | it hg hm h hS => exact .it hg hm h hS
 | o => cases h with | o hg h hS => exact .o hg h hS
 | x => exact .x
theorem relM_pull {w : World} (ρ : Pm) {F : Fr0} {g : Gh} {mem : Mem} (h : RelM F g (Mem.ren ρ.f mem) w) : RelM (F.pull ρ.f) (g.pull ρ.f) mem w := by
 have hag : ∀ i m, aget mem i = some m → aget (Mem.ren ρ.f mem) (ρ.f i) = some (m.ren ρ.f) := fun i m hi => by rw [aget_ren, hi]; rfl
 refine ⟨fun i m hi => obj_pull ρ (h.ob _ _ (hag i m hi)), fun i m b o hi hp => h.wr _ _ b o (hag i m hi) (fp_pull.1 hp), fun i j m n b o hij hi hj hp hq => h.dj _ _ _ _ b o (fun e => hij (ρ.inj e)) (hag i m hi) (hag j n hj) (fp_pull.1 hp) (fp_pull.1 hq), fun i hi => h.nbx (ρ.f i) (by rw [aget_ren, hi]; rfl), fun i hi => h.nrw (ρ.f i) (by rw [aget_ren, hi]; rfl), h.fut,
  ⟨h.loc.tab, fun i z hz => h.loc.bx _ z hz, fun i a l c hr => h.loc.rw _ a l c hr⟩⟩
theorem lent_pull {w : World} (ρ : Pm) {g : Gh} {mi : Mem} : (lentF g (Mem.ren ρ.f mi) w).pull ρ.f = lentF (g.pull ρ.f) mi w := by
 have : (lentF g (Mem.ren ρ.f mi) w).B = (lentF (g.pull ρ.f) mi w).B := by
  funext b o
  apply propext
  constructor
  ·rintro ⟨i, m, hi, hp⟩
   have h1 : i = ρ.f (ρ.g i) := (ρ.fg i).symm
   rw [h1, aget_ren] at hi
   obtain ⟨m0, h2, rfl⟩ := Option.map_eq_some_iff.1 hi
   exact ⟨ρ.g i, m0, h2, fp_pull.2 (by rw [ρ.fg]; exact hp)⟩
  ·rintro ⟨i, m, hi, hp⟩
   exact ⟨ρ.f i, m.ren ρ.f, by rw [aget_ren, hi]; rfl, fp_pull.1 hp⟩
 unfold Fr0.pull
 rw [this]
 rfl
def Out.ren (ρ : Nat → Nat) : Out → Out
 | .ret v => .ret (v.ren ρ)
 | .pan v => .pan (v.ren ρ)
theorem LM.ren {P : Program} {f : Nat} {args : List V} {mi : Mem} {R : Out → Mem → Prop} (h : LM P f args mi R) (ρ : Pm) : LM P f (args.map (V.ren ρ.f)) (Mem.ren ρ.f mi) fun o m => ∃ o' m', R o' m' ∧ o = o'.ren ρ.f ∧ m = Mem.ren ρ.f m' := by
 refine ⟨h.ok, fun g w vals hm hl hr => ?_⟩
 have h1 := relM_pull ρ hm
 rw [lent_pull] at h1
 refine Calls.mono (h.go (g.pull ρ.f) w vals h1 (by simpa using hl) fun j u x hj hx => rep_pull ρ (hr j _ x (by rw [List.getElem?_map, hj]; rfl) hx)) ?_
 rintro e w' ⟨o, mo, g0, hR, he, hm', hk, hat⟩
 have hF : (lentF (g.pull ρ.f) mi w).pull ρ.g = lentF g (Mem.ren ρ.f mi) w := by
  rw [← lent_pull]
  simp [Fr0.pull, ρ.fg]
 have hm2 : RelM (lentF g (Mem.ren ρ.f mi) w) (g0.pull ρ.g) (Mem.ren ρ.f mo) w' := by
  have := relM_pull ρ.inv (F := lentF (g.pull ρ.f) mi w) (g := g0) (mem := Mem.ren ρ.f mo) (w := w') (by
   have e : Mem.ren ρ.inv.f (Mem.ren ρ.f mo) = mo := memren_inv ρ mo
   rw [e]; exact hm')
  have e2 : (lentF (g.pull ρ.f) mi w).pull ρ.inv.f = lentF g (Mem.ren ρ.f mi) w := hF
  rw [e2] at this
  exact this
 have hB : (lentF (g.pull ρ.f) mi w).B = (lentF g (Mem.ren ρ.f mi) w).B := by rw [← hF]; rfl
 refine ⟨o.ren ρ.f, Mem.ren ρ.f mo, g0.pull ρ.g, ⟨o, mo, hR, rfl, rfl⟩, ⟨he.size, he.st, fun i z hz => he.bx (ρ.g i) z (by simpa [Gh.pull, ρ.fg] using hz), fun r a l c hr => he.rw (ρ.g r) a l c (by simpa [Gh.pull, ρ.fg] using hr)⟩, hm2,
  ⟨hk.os, hk.tape, hk.output, hk.size, by rw [← hB]; exact hk.blk, by rw [← hB]; exact hk.cell, by rw [← hB]; exact hk.S1, hk.S2, hk.cellS⟩, ?_⟩
 cases o with
 | ret v => obtain ⟨x, e1, e2⟩ := hat; exact ⟨x, e1, rep_ren e2 (pull_inv ρ g0).symm⟩
 | pan v => obtain ⟨x, e1, e2⟩ := hat; exact ⟨x, e1, rep_ren e2 (pull_inv ρ g0).symm⟩
theorem LM.gen {P : Program} {f : Nat} {args args' : List V} {mi mi' mo mo' : Mem} {o o' : Out} (ks is : List Nat) (hk : ks.Nodup) (hi : is.Nodup) (hl : ks.length = is.length) (h : LM P f args mi fun q m => q = o ∧ m = mo)
  (he : ∀ ρ : Pm, ks.map ρ.f = is → args.map (V.ren ρ.f) = args' ∧ Mem.ren ρ.f mi = mi' ∧ o.ren ρ.f = o' ∧ Mem.ren ρ.f mo = mo') : LM P f args' mi' fun q m => q = o' ∧ m = mo' := by
 obtain ⟨ρ, hρ⟩ := exists_pm ks is hk hi hl
 obtain ⟨e1, e2, e3, e4⟩ := he ρ hρ
 have := h.ren ρ
 rw [e1, e2] at this
 exact this.mono fun q m ⟨o1, m1, ⟨h1, h2⟩, h3, h4⟩ => ⟨by rw [h3, h1, e3], by rw [h4, h2, e4]⟩
end Lf
open Go.RowKit Rg
namespace Lf
def TPre (mi : Mem) : Mem → Mem → Prop
 | [], _ => True
 | (i, _) :: r, mem => aget mem i = aget mi i ∧ TPre mi r mem
theorem tpre_callT {mi mo mem : Mem} (h : TPre mi mo mem) : tpre (callT mi mo) mem := by
 intro i m m' hi
 induction mo with
 | nil => cases hi
 | cons x r ih =>
  obtain ⟨j, n⟩ := x
  simp only [callT, List.map_cons, List.mem_cons] at hi
  rcases hi with hi | hi
  ·cases hi; exact h.1
  ·exact ih h.2 hi
section
variable {P : Program} {F : Fr0} {N : Nat} {Q : LQ} {env : Env} {mem : Mem} {ops : Array Oper} {o : Oper} {rs : List Oper} {v : V} {d : Nat}
theorem LS.ppD {p : Prop} {dp : Decidable p} (hg : gd ops env o = some true) (hds : o.dst = some d) (h : Does P o env (.k (.bool (decide p))) []) (hd : Nat.blt d N = true) (h1 : p → LS P F N ops rs Q ((d, .k (.bool true)) :: env) mem) (h2 : ¬ p → LS P F N ops rs Q ((d, .k (.bool false)) :: env) mem) : LS P F N ops (o :: rs) Q env mem := by
 by_cases hp : p
 ·rw [decide_eq_true hp] at h; exact LS.pp hg hds h hd (h1 hp)
 ·rw [decide_eq_false hp] at h; exact LS.pp hg hds h hd (h2 hp)
theorem LS.ppB {b : Bool} (hg : gd ops env o = some true) (hds : o.dst = some d) (h : Does P o env (.k (.bool b)) []) (hd : Nat.blt d N = true) (h1 : b = true → LS P F N ops rs Q ((d, .k (.bool true)) :: env) mem) (h2 : b = false → LS P F N ops rs Q ((d, .k (.bool false)) :: env) mem) : LS P F N ops (o :: rs) Q env mem := by
 cases b
 ·exact LS.pp hg hds h hd (h2 rfl)
 ·exact LS.pp hg hds h hd (h1 rfl)
theorem LS.cm {mi mo : Mem} (hg : gd ops env o = some true) (hds : o.dst = some d) (h : Does P o env v (callT mi mo)) (ht : TPre mi mo mem) (hd : Nat.blt d N = true) (hK : LS P F N ops rs Q ((d, v) :: env) (mo ++ mem)) : LS P F N ops (o :: rs) Q env mem :=
 LS.step hg h (tpre_callT ht) (by rw [hds]; exact hd) (by rw [hds, tset_call]; exact hK)
theorem LS.cz {mi mo : Mem} (hg : gd ops env o = some true) (hds : o.dst = none) (h : Does P o env v (callT mi mo)) (ht : TPre mi mo mem) (hK : LS P F N ops rs Q env (mo ++ mem)) : LS P F N ops (o :: rs) Q env mem :=
 LS.step hg h (tpre_callT ht) (by rw [hds]; rfl) (by rw [hds, tset_call]; exact hK)
theorem LS.pa {t : Tch} (hg : gd ops env o = some true) (h : Pans P o env v t) (ht : tpre t mem) (hQ : Q (.pan v) env (tset t mem)) : LS P F N ops (o :: rs) Q env mem := LS.pan hg h ht hQ
theorem LS.pc {mi mo : Mem} (hg : gd ops env o = some true) (h : Pans P o env v (callT mi mo)) (ht : TPre mi mo mem) (hQ : Q (.pan v) env (mo ++ mem)) : LS P F N ops (o :: rs) Q env mem := LS.pan hg h (tpre_callT ht) (by rw [tset_call]; exact hQ)
end
section
variable {P : Program} {F : Fr0} {N : Nat} {ops : Array Oper} {chk : List (Nat × Tch) → Bool} {K : Env → Mem → Prop} {acc : List (Nat × Tch)} {env : Env} {mem : Mem} {i d : Nat} {o : Oper} {rs : List (Nat × Oper)} {v : V}
theorem DR.ppD {p : Prop} {dp : Decidable p} (hg : gd ops env o = some true) (hds : o.dst = some d) (h : Does P o env (.k (.bool (decide p))) []) (hd : Nat.blt d N = true) (h1 : p → DR P F N ops chk K rs ((i, []) :: acc) ((d, .k (.bool true)) :: env) mem) (h2 : ¬ p → DR P F N ops chk K rs ((i, []) :: acc) ((d, .k (.bool false)) :: env) mem) : DR P F N ops chk K ((i, o) :: rs) acc env mem := by
 by_cases hp : p
 ·rw [decide_eq_true hp] at h; exact DR.pp hg hds h hd (h1 hp)
 ·rw [decide_eq_false hp] at h; exact DR.pp hg hds h hd (h2 hp)
theorem DR.ppB {b : Bool} (hg : gd ops env o = some true) (hds : o.dst = some d) (h : Does P o env (.k (.bool b)) []) (hd : Nat.blt d N = true) (h1 : b = true → DR P F N ops chk K rs ((i, []) :: acc) ((d, .k (.bool true)) :: env) mem) (h2 : b = false → DR P F N ops chk K rs ((i, []) :: acc) ((d, .k (.bool false)) :: env) mem) : DR P F N ops chk K ((i, o) :: rs) acc env mem := by
 cases b
 ·exact DR.pp hg hds h hd (h2 rfl)
 ·exact DR.pp hg hds h hd (h1 rfl)
theorem DR.cm {mi mo : Mem} (hg : gd ops env o = some true) (hds : o.dst = some d) (h : Does P o env v (callT mi mo)) (ht : TPre mi mo mem) (hd : Nat.blt d N = true) (hK : DR P F N ops chk K rs ((i, callT mi mo) :: acc) ((d, v) :: env) (mo ++ mem)) : DR P F N ops chk K ((i, o) :: rs) acc env mem :=
 .run (by rw [hds]; exact hd) hg h.toF (tpre_callT ht) (by rw [hds, tset_call]; exact hK)
theorem DR.cz {mi mo : Mem} (hg : gd ops env o = some true) (hds : o.dst = none) (h : Does P o env v (callT mi mo)) (ht : TPre mi mo mem) (hK : DR P F N ops chk K rs ((i, callT mi mo) :: acc) env (mo ++ mem)) : DR P F N ops chk K ((i, o) :: rs) acc env mem :=
 .run (by rw [hds]; rfl) hg h.toF (tpre_callT ht) (by rw [hds, tset_call]; exact hK)
end
section
variable {P : Program} {o : Oper} {env : Env} {v : V}
theorem Does.nilCheck {i off : Nat} {x : Operand} (ho : o.op = .nilCheck x) (hx : evo env x = some (.p i off)) : Does P o env (.p i off) [] :=
 .pure fun F g a w mem hr _ => by
  have h := hr x (by simp [ho, Op.operands]) _ hx
  refine ⟨a.eval x, ?_, h⟩
  generalize hy : a.eval x = y at h
  cases h
  simp [execOp, ho, hy]
theorem Does.nilCheckQ {x : Operand} {cs : List V} (ho : o.op = .nilCheck x) (hx : evo env x = some (.q cs)) : Does P o env (.q cs) [] :=
 .pure fun F g a w mem hr _ => by
  have h := hr x (by simp [ho, Op.operands]) _ hx
  refine ⟨a.eval x, ?_, h⟩
  generalize hy : a.eval x = y at h
  cases h
  simp [execOp, ho, hy]
theorem Does.nilCheckF {x : Operand} {fx : Nat} {fi ca : List V} (ho : o.op = .nilCheck x) (hx : evo env x = some (.f (.func fx) fi ca)) : Does P o env (.f (.func fx) fi ca) [] :=
 .pure fun F g a w mem hr _ => by
  have h := hr x (by simp [ho, Op.operands]) _ hx
  refine ⟨a.eval x, ?_, h⟩
  generalize hy : a.eval x = y at h
  cases h
  simp [execOp, ho, hy]
theorem Does.arrAt {T n e : Nat} {x : Operand} {t : Option Nat} {es : List V} (X : TOk P) {ti : TI} (ho : o.op = .sliceToArrayPointer T x) (hx : evo env x = some (.s t es)) (hT : aget X.tab T = some ti) (hd : ti.d = .arr n e) (hn : n ≤ es.length) (h0 : Nat.blt 0 n = true) : Does P o env (.q (es.flatMap V.cells)) [] :=
 .pure fun F g a w mem hr _ => by
  have h := hr x (by simp [ho, Op.operands]) _ hx
  have h0' : 0 < n := Nat.le_of_ble_eq_true h0
  generalize hy : a.eval x = y at h
  cases h with
  | s0 => simp at hn; omega
  | se => simp at hn; omega
  | @s _ _ _ b off cap size xs h1 hm hp hs hx' hc ht =>
   have hnl : ¬ es.length < n := by omega
   refine ⟨.pointer (some ⟨b, off, none⟩), ?_, .q xs (fun u hu => ?_) hx' hc⟩
   ·simp [execOp, ho, hy, Instr.arrayAt, run_underlying ((X.get hT).arr hd), hnl]
   ·obtain ⟨e, he, hu⟩ := List.mem_flatMap.1 hu
    exact (hs e he).2 u hu
theorem Does.arrAtSb {T n e b off m cap : Nat} {x : Operand} (X : TOk P) {ti : TI} (ho : o.op = .sliceToArrayPointer T x) (hx : evo env x = some (.sb b off m cap)) (hT : aget X.tab T = some ti) (hd : ti.d = .arr n e) (hn : n ≤ m) : Does P o env (.p b off) [] :=
 .pure fun F g a w mem hr _ => by
  have h := hr x (by simp [ho, Op.operands]) _ hx
  generalize hy : a.eval x = y at h
  cases h with
  | @sb _ _ _ _ _ b' bo hp =>
   have hnl : ¬ m < n := by omega
   refine ⟨.pointer (some ⟨b', bo + off, none⟩), ?_, .p hp⟩
   simp [execOp, ho, hy, Instr.arrayAt, run_underlying ((X.get hT).arr hd), hnl]
end
end Lf
open Go.RowKit Rp Rg Ops
namespace Mm
abbrev Ent := Nat × TypeId × Array Value
structure St (w0 w : World) (L : List Ent) : Prop where
 below : Below w0.heap.size w0 w
 mem : ∀ x ∈ L, w.heap[x.1]? = some (.cells x.2.2 x.2.1 (0, 0))
 base : ∀ x ∈ L, w0.heap.size ≤ x.1
 nodup : (L.map (·.1)).Nodup
theorem St.start (w : World) : St w w [] := ⟨Below.refl _ _, by simp, by simp, by simp⟩
theorem St.ext {w0 w w' : World} {L : List Ent} (h : St w0 w L) (hx : Ext w w') : St w0 w' L :=
 ⟨h.below.trans (Below.mono hx h.below.size), fun x hxm => by
  have hm := h.mem x hxm
  rw [hx.block x.1 (Array.getElem?_eq_some_iff.1 hm).1]; exact hm, h.base, h.nodup⟩
theorem St.drew {w0 w : World} {L : List Ent} (h : St w0 w L) : St w0 w.drew L := h.ext (Below.drew (Below.refl _ w))
theorem St.alloc {w0 w : World} {L : List Ent} (h : St w0 w L) (cs : Array Value) (T : TypeId) : St w0 (w.alloc (.cells cs T)) ((w.heap.size, T, cs) :: L) := by
 have hlt : ∀ x ∈ L, x.1 < w.heap.size := fun x hx => (Array.getElem?_eq_some_iff.1 (h.mem x hx)).1
 refine ⟨h.below.alloc h.below.size _, ?_, ?_, ?_⟩
 ·intro x hx
  rcases List.mem_cons.1 hx with rfl | hx
  ·exact heap_alloc_new w _
  ·exact Eq.trans (by first | exact heap_alloc_old w _ (hlt x hx) | exact heap_alloc_old w _ _ (hlt x hx)) (h.mem x hx)
 ·intro x hx
  rcases List.mem_cons.1 hx with rfl | hx
  ·exact h.below.size
  ·exact h.base x hx
 ·simp only [List.map_cons, List.nodup_cons]
  refine ⟨fun hm => ?_, h.nodup⟩
  obtain ⟨x, hx, he⟩ := List.mem_map.1 hm
  have := hlt x hx
  omega
theorem St.alloc' {w0 w : World} {L : List Ent} (h : St w0 w L) (cs : Array Value) (T g : Nat) (hg : g = w.heap.size) : St w0 (w.alloc (.cells cs T)) ((g, T, cs) :: L) := by
 subst hg; exact h.alloc cs T
theorem St.at {w0 w : World} {L : List Ent} (h : St w0 w L) (i : Nat) {g T : Nat} {cs : Array Value} (hL : L[i]? = some (g, T, cs)) : w.heap[g]? = some (.cells cs T (0, 0)) :=
 h.mem _ (List.mem_of_getElem? hL)
theorem St.cell {w0 w : World} {L : List Ent} (h : St w0 w L) (i : Nat) {g T : Nat} {cs : Array Value} (hL : L[i]? = some (g, T, cs)) (j : Nat) {v : Value} (hv : cs[j]? = some v) : w.cell? ⟨g, j, none⟩ = some v := by
 rw [cell_of_row w g j cs T (0, 0) (h.at i hL)]; exact hv
theorem St.frozen {w0 w : World} {L : List Ent} (h : St w0 w L) (i : Nat) {g T : Nat} {cs : Array Value} (hL : L[i]? = some (g, T, cs)) (j : Nat) : w.frozen? ⟨g, j, none⟩ = false :=
 frozen_of_row w g j cs T (h.at i hL)
theorem St.lt {w0 w : World} {L : List Ent} (h : St w0 w L) (i : Nat) {g T : Nat} {cs : Array Value} (hL : L[i]? = some (g, T, cs)) : g < w.heap.size := (Array.getElem?_eq_some_iff.1 (h.at i hL)).1
theorem St.put {w0 w w' : World} {L : List Ent} (h : St w0 w L) (i : Nat) {g T : Nat} {cs : Array Value} (cs' : Array Value) (hL : L[i]? = some (g, T, cs))
    (h1 : w'.heap[g]? = some (.cells cs' T (0, 0))) (h2 : ∀ k, k ≠ g → w'.heap[k]? = w.heap[k]?) (h3 : w'.os = w.os ∧ w'.tape = w.tape ∧ w'.output = w.output ∧ w'.heap.size = w.heap.size) : St w0 w' (L.set i (g, T, cs')) := by
  have hb := h.base _ (List.mem_of_getElem? hL)
  obtain ⟨hi, hLi⟩ := List.getElem?_eq_some_iff.1 hL
  refine ⟨h.below.trans ⟨h3.1, h3.2.1, h3.2.2.1, by omega, fun k hk => h2 k (by simp only at hb; omega)⟩, ?_, ?_, ?_⟩
  · intro x hx
    obtain ⟨j, hj, rfl⟩ := List.getElem_of_mem hx
    rw [List.getElem_set]
    split
    · exact h1
    · rename_i hij
      have hj' : j < L.length := by simpa using hj
      have hne : L[j].1 ≠ g := by
        intro he
        have hn := h.nodup
        rw [List.nodup_iff_pairwise_ne, List.pairwise_iff_getElem] at hn
        have e1 : (L.map (·.1))[i]'(by simpa using hi) = g := by simp [hLi]
        have e2 : (L.map (·.1))[j]'(by simpa using hj') = g := by simp [he]
        rcases Nat.lt_or_gt_of_ne hij with hl | hl
        · exact hn i j (by simpa using hi) (by simpa using hj') hl (e1.trans e2.symm)
        · exact hn j i (by simpa using hj') (by simpa using hi) hl (e2.trans e1.symm)
      rw [h2 _ hne]
      exact h.mem _ (List.getElem_mem hj')
  · intro x hx
    rcases List.mem_or_eq_of_mem_set hx with hx | rfl
    · exact h.base x hx
    · exact hb
  · have e : (L.set i (g, T, cs')).map (·.1) = L.map (·.1) := by
      rw [List.map_set]
      apply List.ext_getElem
      · simp
      · intro k hk1 hk2
        rw [List.getElem_set]
        split
        · rename_i hik; subst hik; simp [hLi]
        · rfl
    rw [e]; exact h.nodup
theorem St.setCell {w0 w : World} {L : List Ent} (h : St w0 w L) (i : Nat) {g T : Nat} {cs : Array Value} (hL : L[i]? = some (g, T, cs)) (j : Nat) (v : Value) : St w0 (w.setCell ⟨g, j, none⟩ v) (L.set i (g, T, cs.setIfInBounds j v)) := by
 have hg := h.at i hL
 rw [setCell_eq_setRow w g j cs T (0, 0) v hg]
 exact h.put i _ hL (setRow_heap w g cs _ T _ hg) (fun k hk => setRow_other w g k _ hk) ⟨rfl, rfl, rfl, by simp⟩
theorem St.setRow {w0 w : World} {L : List Ent} (h : St w0 w L) (i : Nat) {g T : Nat} {cs : Array Value} (hL : L[i]? = some (g, T, cs)) (cs' : Array Value) : St w0 (w.setRow g cs') (L.set i (g, T, cs')) :=
 h.put i _ hL (setRow_heap w g cs _ T _ (h.at i hL)) (fun k hk => setRow_other w g k _ hk) ⟨rfl, rfl, rfl, by simp⟩
section
variable {P : Program}
def Agg (P : Program) (t k : Nat) : Prop := (∃ d, P.underlying t = some d ∧ (match d with | .struct _ | .array _ _ => true | _ => false) = true) ∧ (P.info? t).map (·.size) = some k
theorem run_ld {t k : Nat} (hA : Agg P t k) {w : World} {g off T : Nat} {cs : Array Value} (hg : w.heap[g]? = some (.cells cs T (0, 0))) (hk : off + k ≤ cs.size) :
  (loadVar t ⟨g, off, none⟩).run P w = .ok (.agg (cs.extract off (off + k))) w := by
 obtain ⟨⟨d, hu, hd⟩, hi⟩ := hA
 have hln : (cs.extract off (off + k)).toList.length = k := by simp; omega
 have hl : (loadCells ⟨g, off, none⟩ (cs.extract off (off + k)).toList.length).run P w = .ok (cs.extract off (off + k)).toList.toArray w :=
  run_loadCells_list (P := P) w ⟨g, off, none⟩ (cs.extract off (off + k)).toList (fun j v hv => by
   rw [Addr.add_lit, cell_of_row w g (off + j) cs T (0, 0) hg]
   rw [Array.getElem?_toList, Array.getElem?_extract] at hv
   split at hv
   ·exact hv
   ·cases hv)
 cases hq : P.info? t with
 | none => simp [hq] at hi
 | some i =>
  have hs : i.size = k := by simpa [hq] using hi
  have hagg : (isAgg t).run P w = .ok true w := by
   unfold isAgg
   rw [Sem.run_bind, run_underlying hu w]
   cases d <;> simp_all
  rw [hln] at hl
  simp only [Array.toArray_toList] at hl
  simp [loadVar, Sem.run_bind, hagg, sizeOf, typeInfo, hq, hs, hl]
theorem run_st {t k : Nat} (hA : (P.info? t).map (·.size) = some k) {w : World} {g off T : Nat} {cs vs : Array Value} (hg : w.heap[g]? = some (.cells cs T (0, 0))) (hk : off + k ≤ cs.size) (hv : vs.size = k) (h1 : ∀ v ∈ vs.toList, v.oneCell' = true) :
  (storeVar t ⟨g, off, none⟩ (.agg vs)).run P w = .ok () (w.setRow g (cs.toList.take off ++ vs.toList ++ cs.toList.drop (off + k)).toArray) := by
 have hst := run_storeCells_at P g off T vs.toList 0 cs w hg (by simp; omega) h1
 cases hq : P.info? t with
 | none => simp [hq] at hA
 | some i =>
  have hs : i.size = k := by simpa [hq] using hA
  simp only [Nat.add_zero, Array.length_toList, hv] at hst
  simp [storeVar, Value.cells, sizeOf, typeInfo, hq, hs, hv, hst]
variable {ops : Array Oper} {Q : Exit → Act → World → Prop} {a : Act} {rest : List Oper} {o : Oper} {w : World}
theorem ld {t k : Nat} (hA : Agg P t k) (hgd : o.guard = none) (x : Operand) (ho : o.op = .load t x) {g off T : Nat} {cs : Array Value} (hx : a.eval x = .pointer (some ⟨g, off, none⟩)) (hg : w.heap[g]? = some (.cells cs T (0, 0))) (hk : off + k ≤ cs.size)
  (hK : wpList P ops Q rest (a.put o.dst (.agg (cs.extract off (off + k)))) w) : wpList P ops Q (o :: rest) a w := by
 refine wpList_plain hgd fun K hK' => ?_
 unfold Oper.wp execOp
 simp only [ho, hx, Instr.loadAt, Instr.sureAddr, Sem.run_bind, Sem.run_pure, Result.andThen_ok, run_ld hA hg hk]
 exact hK' _ _ hK
theorem ldAll {t k : Nat} (hA : Agg P t k) {cs : Array Value} (hgd : o.guard = none) (x : Operand) (ho : o.op = .load t x) {g T : Nat} (hx : a.eval x = .pointer (some ⟨g, 0, none⟩)) (hg : w.heap[g]? = some (.cells cs T (0, 0))) (hk : cs.size = k)
  (hK : wpList P ops Q rest (a.put o.dst (.agg cs)) w) : wpList P ops Q (o :: rest) a w :=
 ld hA hgd x ho hx hg (by omega) (by subst hk; simpa using hK)
theorem st {t k : Nat} (hA : Agg P t k) (hgd : o.guard = none) (x y : Operand) (ho : o.op = .store t x y) {g off T : Nat} {cs vs : Array Value} (hx : a.eval x = .pointer (some ⟨g, off, none⟩)) (hy : a.eval y = .agg vs) (hg : w.heap[g]? = some (.cells cs T (0, 0)))
  (hk : off + k ≤ cs.size) (hv : vs.size = k) (h1 : ∀ v ∈ vs.toList, v.oneCell' = true)
  (hK : wpList P ops Q rest (a.put o.dst undef) (w.setRow g (cs.toList.take off ++ vs.toList ++ cs.toList.drop (off + k)).toArray)) : wpList P ops Q (o :: rest) a w := by
 refine wpList_plain hgd fun K hK' => ?_
 unfold Oper.wp execOp
 simp only [ho, hx, hy, Instr.storeAt, Instr.sureAddr, Sem.run_bind, Sem.run_pure, Result.andThen_ok, run_st hA.2 hg hk hv h1]
 exact hK' _ _ hK
theorem stAll {t k : Nat} (hA : Agg P t k) {cs vs : Array Value} (hgd : o.guard = none) (x y : Operand) (ho : o.op = .store t x y) {g T : Nat} (hx : a.eval x = .pointer (some ⟨g, 0, none⟩)) (hy : a.eval y = .agg vs) (hg : w.heap[g]? = some (.cells cs T (0, 0)))
  (hv : vs.size = k) (hc : cs.size = k) (h1 : ∀ v ∈ vs.toList, v.oneCell' = true) (hK : wpList P ops Q rest (a.put o.dst undef) (w.setRow g vs)) : wpList P ops Q (o :: rest) a w := by
 refine st hA hgd x y ho hx hy hg (by omega) hv h1 ?_
 rw [show cs.toList.drop (0 + k) = [] from by simp [hc]]
 simpa using hK
theorem ret_cell {t k : Nat} (hA : Agg P t k) {fn : Func} {p : Tmp} (h : fn.results = #[.cell p t]) {tmps : Array Value} {g T : Nat} {cs : Array Value} (hp : tmps.getD p undef = .pointer (some ⟨g, 0, none⟩)) (hg : w.heap[g]? = some (.cells cs T (0, 0)))
  (hk : cs.size = k) : (results fn tmps).run P w = .ok (.agg cs) w := by
 have hp' : tmps[p]?.getD undef = .pointer (some ⟨g, 0, none⟩) := by simpa using hp
 have hl := run_ld (P := P) hA (off := 0) hg (by omega)
 subst hk
 simp [results, h, hp', asAddr, hl]
def isRow : TypeDesc → Bool | .struct _ | .array _ _ => true | _ => false
def slot (tmps : Array Value) : ResultVar → Sem Value
 | .tmp t => pure (tmps.getD t undef)
 | .cell a t => do loadVar t (← asAddr (tmps.getD a undef))
theorem slot_tmp {tmps : Array Value} {t : Tmp} {v : Value} (h : tmps.getD t undef = v) : (slot tmps (.tmp t)).run P w = .ok v w := by simp only [slot, h, Sem.run_pure]
theorem slot_cell {t k : Nat} (hA : Agg P t k) {p : Tmp} {tmps : Array Value} {g T : Nat} {cs : Array Value} (hp : tmps.getD p undef = .pointer (some ⟨g, 0, none⟩)) (hg : w.heap[g]? = some (.cells cs T (0, 0)))
  (hk : cs.size = k) : (slot tmps (.cell p t)).run P w = .ok (.agg cs) w := by
 have hp' : tmps[p]?.getD undef = .pointer (some ⟨g, 0, none⟩) := by simpa using hp
 have hl := run_ld (P := P) hA (off := 0) hg (by omega)
 subst hk
 simp [slot, hp', asAddr, hl]
theorem ret_two {fn : Func} {s1 s2 : ResultVar} (h : fn.results = #[s1, s2]) {tmps : Array Value} {v1 v2 : Value} (h1 : (slot tmps s1).run P w = .ok v1 w) (h2 : (slot tmps s2).run P w = .ok v2 w) :
  (results fn tmps).run P w = .ok (.tuple #[v1, v2]) w := by
 have e : results fn tmps = (do let vs ← fn.results.mapM (slot tmps); pure (if h : vs.size = 1 then vs[0] else .tuple vs)) := rfl
 rw [e, h]
 simp [h1, h2]
end
end Mm
open Go.RowKit Rp Rg Ops Mm
namespace Ar
def arr (n : Nat) (f : Nat → Value) : Array Value := ((List.range n).map f).toArray
theorem arr_size (n : Nat) (f : Nat → Value) : (arr n f).size = n := by simp [arr]
theorem arr_get (n : Nat) (f : Nat → Value) (i : Nat) (h : i < n) : (arr n f)[i]? = some (f i) := by simp [arr, h]
theorem arr_ext {n : Nat} {f g : Nat → Value} (h : ∀ i, i < n → f i = g i) : arr n f = arr n g := by
 unfold arr
 congr 1
 exact List.map_congr_left fun i hi => h i (List.mem_range.1 hi)
theorem arr_set (n : Nat) (f : Nat → Value) (k : Nat) (v : Value) : (arr n f).setIfInBounds k v = arr n (fun i => if i = k then v else f i) := by
 apply Array.ext
 ·simp [arr_size]
 ·intro i h1 h2
  have hi : i < n := by simpa [arr_size] using h1
  simp only [arr, List.setIfInBounds_toArray, List.getElem_toArray, List.getElem_set, List.getElem_map, List.getElem_range]
  split
  ·rename_i h; subst h; simp
  ·rename_i h; rw [if_neg (fun e => h e.symm)]
theorem arr_mem {n : Nat} {f : Nat → Value} (h : ∀ i, i < n → (f i).oneCell' = true) : ∀ v ∈ (arr n f).toList, v.oneCell' = true := by
 intro v hv
 simp only [arr, List.mem_map, List.mem_range] at hv
 obtain ⟨i, hi, rfl⟩ := hv
 exact h i hi
theorem _root_.Go.Proofs.YtpaafpmofhajfaaGreatDoor.Mm.St.setFn {w0 w : World} {L : List Ent} (h : St w0 w L) (i : Nat) {g T n : Nat} {f f' : Nat → Value} (hL : L[i]? = some (g, T, arr n f)) (j : Nat) (v : Value) (hf : ∀ k, k < n → f' k = if k = j then v else f k) {L' : List Ent} (hL' : L' = L.set i (g, T, arr n f')) : St w0 (w.setCell ⟨g, j, none⟩ v) L' := by
 have := h.setCell i hL j v
 rw [arr_set] at this
 rw [hL', arr_ext hf]
 exact this
def u64V (n : Nat) : Value := .int .u64 (n : Int)
def m64 : Nat := 18446744073709551616
theorem m64_pos : 0 < m64 := by unfold m64; omega
def limb (x i : Nat) : Nat := x / m64 ^ i % m64
theorem limb_lt (x i : Nat) : limb x i < m64 := Nat.mod_lt _ m64_pos
def wordA (x : Nat) : Array Value := arr 4 fun i => u64V (limb x i)
def M256 : Nat := m64 ^ 4
theorem wordA_get (x i : Nat) (h : i < 4) : (wordA x)[i]? = some (.int .u64 (limb x i : Int)) := arr_get _ _ i h
theorem wordA_mem (x : Nat) : ∀ v ∈ (wordA x).toList, v.oneCell' = true := arr_mem fun _ _ => rfl
theorem pow_pos' (k : Nat) : 0 < m64 ^ k := Nat.pow_pos m64_pos
def carry (x y k : Nat) : Nat := (x % m64 ^ k + y % m64 ^ k) / m64 ^ k
theorem carry_le (x y k : Nat) : carry x y k ≤ 1 := by
 unfold carry
 have h1 := Nat.mod_lt x (pow_pos' k)
 have h2 := Nat.mod_lt y (pow_pos' k)
 have : (x % m64 ^ k + y % m64 ^ k) / m64 ^ k < 2 := Nat.div_lt_of_lt_mul (by omega)
 omega
theorem carry_zero (x y : Nat) : carry x y 0 = 0 := by simp [carry, Nat.mod_one]
theorem add_div' (x y D : Nat) (hD : 0 < D) : (x + y) / D = x / D + y / D + (x % D + y % D) / D := by
 have h1 := Nat.div_add_mod x D
 have h2 := Nat.div_add_mod y D
 have : x + y = x % D + y % D + D * (x / D + y / D) := by rw [Nat.mul_add]; omega
 rw [this, Nat.add_mul_div_left _ _ hD]
 omega
theorem sum_limb (x y k : Nat) : (limb x k + limb y k + carry x y k) % m64 = limb (x + y) k := by
 unfold limb carry
 rw [add_div' x y _ (pow_pos' k)]
 simp [Nat.add_mod]
theorem sum_carry (x y k : Nat) : (limb x k + limb y k + carry x y k) / m64 = carry x y (k + 1) := by
 unfold limb carry
 have e : ∀ z, z % m64 ^ (k + 1) = z % m64 ^ k + m64 ^ k * (z / m64 ^ k % m64) := fun z => by rw [Nat.pow_succ, Nat.mod_mul]
 rw [e x, e y, Nat.pow_succ, ← Nat.div_div_eq_div_mul]
 congr 1
 rw [show x % m64 ^ k + m64 ^ k * (x / m64 ^ k % m64) + (y % m64 ^ k + m64 ^ k * (y / m64 ^ k % m64)) = x % m64 ^ k + y % m64 ^ k + m64 ^ k * (x / m64 ^ k % m64 + y / m64 ^ k % m64) from by rw [Nat.mul_add]; omega,
  Nat.add_mul_div_left _ _ (pow_pos' k)]
 omega
end Ar
open Go.RowKit Rp Rg Ops Mm Ar
namespace Wm
def val (f : Nat → Nat) : Nat → Nat
 | 0 => 0
 | n + 1 => val f n + f n * m64 ^ n
def borrow (x y k : Nat) : Nat := if x % m64 ^ k < y % m64 ^ k then 1 else 0
theorem borrow_le (x y k : Nat) : borrow x y k ≤ 1 := by unfold borrow; split <;> omega
theorem borrow_zero (x y : Nat) : borrow x y 0 = 0 := by simp [borrow, Nat.mod_one]
def dif (x y : Nat) : Nat := x + (M256 - y % M256)
theorem M256_pos : 0 < M256 := pow_pos' 4
theorem sub_borrow (x y k : Nat) : (if limb x k < limb y k + borrow x y k then 1 else 0) = borrow x y (k + 1) := by
 have e : ∀ z, z % m64 ^ (k + 1) = z % m64 ^ k + m64 ^ k * limb z k := fun z => by rw [Nat.pow_succ, Nat.mod_mul]; rfl
 have hx := Nat.mod_lt x (pow_pos' k)
 have hy := Nat.mod_lt y (pow_pos' k)
 unfold borrow
 rw [e x, e y]
 generalize m64 ^ k = D at *
 generalize x % D = a at *
 generalize y % D = b at *
 generalize limb x k = X
 generalize limb y k = Y
 have hm : ∀ A B : Nat, A < B → D * A + D ≤ D * B := fun A B h => by have := Nat.mul_le_mul_left D h; rw [Nat.mul_succ] at this; exact this
 rcases Nat.lt_trichotomy X Y with h | h | h
 ·have := hm _ _ h
  rw [if_pos (by omega), if_pos (by omega)]
 ·subst h
  by_cases hab : a < b
  ·rw [if_pos hab, if_pos (by omega), if_pos (by omega)]
  ·rw [if_neg hab, if_neg (by omega), if_neg (by omega)]
 ·have := hm _ _ h
  have h2 : (if a < b then 1 else 0) ≤ 1 := by split <;> omega
  rw [if_neg (by omega), if_neg (by omega)]
theorem sub_limb (x y k : Nat) (hk : k < 4) : (limb x k + m64 - limb y k - borrow x y k) % m64 = limb (dif x y) k := by
 have hb := sub_borrow x y k
 have hle := borrow_le x y k
 have e : ∀ z, z % m64 ^ (k + 1) = z % m64 ^ k + m64 ^ k * limb z k := fun z => by rw [Nat.pow_succ, Nat.mod_mul]; rfl
 have hx := Nat.mod_lt x (pow_pos' k)
 have hy := Nat.mod_lt y (pow_pos' k)
 -- dif x y, below part k + 1
 have hd : dif x y % m64 ^ (k + 1) = (x % m64 ^ (k + 1) + (m64 ^ (k + 1) - y % m64 ^ (k + 1))) % m64 ^ (k + 1) := by
  obtain ⟨t, ht⟩ : ∃ t, M256 = m64 ^ (k + 1) * t := by
   obtain ⟨j, hj⟩ : ∃ j, 4 = k + 1 + j := ⟨4 - (k + 1), by omega⟩
   exact ⟨m64 ^ j, by rw [M256, hj, Nat.pow_add]⟩
  have hmod : y % M256 % m64 ^ (k + 1) = y % m64 ^ (k + 1) := by rw [ht, Nat.mod_mul_right_mod]
  have h1 := Nat.mod_lt y M256_pos
  have h2 := Nat.mod_add_div (y % M256) (m64 ^ (k + 1))
  rw [hmod] at h2
  have h3 := Nat.mod_lt y (pow_pos' (k + 1))
  unfold dif
  generalize y % M256 = z at *
  generalize y % m64 ^ (k + 1) = b at *
  generalize m64 ^ (k + 1) = D at *
  have hzt : z / D < t := Nat.div_lt_of_lt_mul (by omega)
  obtain ⟨s, hs⟩ : ∃ s, t = z / D + 1 + s := ⟨t - z / D - 1, by omega⟩
  have e2 : M256 - z = D - b + D * s := by
   rw [ht, hs, Nat.mul_add, Nat.mul_add, Nat.mul_one]; omega
  rw [e2, ← Nat.add_assoc, Nat.add_mul_mod_self_left, Nat.mod_add_mod]
 have hL : limb (dif x y) k = dif x y % m64 ^ (k + 1) / m64 ^ k := by
  rw [e (dif x y), Nat.add_mul_div_left _ _ (pow_pos' k), Nat.div_eq_of_lt (Nat.mod_lt _ (pow_pos' k)), Nat.zero_add]
 have hp : m64 ^ (k + 1) = m64 ^ k * m64 := Nat.pow_succ ..
 rw [hL, hd, e x, e y, hp]
 have hX := limb_lt x k
 have hY := limb_lt y k
 have hbv : borrow x y k = if x % m64 ^ k < y % m64 ^ k then 1 else 0 := rfl
 rw [hbv]
 have hD := pow_pos' k
 generalize m64 ^ k = D at *
 generalize x % D = a at *
 generalize y % D = b at *
 generalize limb x k = X at *
 generalize limb y k = Y at *
 have hDY : D * Y + D ≤ D * m64 := by have := Nat.mul_le_mul_left D hY; rw [Nat.mul_succ] at this; exact this
 rw [Nat.mod_mul_right_div_self]
 congr 1
 have hsum : a + D * X + (D * m64 - (b + D * Y)) = (if a < b then D else 0) + a - b + D * (X + m64 - Y - if a < b then 1 else 0) := by
  by_cases hab : a < b
  ·rw [if_pos hab, if_pos hab, show X + m64 - Y - 1 = X + (m64 - Y - 1) from by omega, Nat.mul_add, Nat.mul_sub, Nat.mul_sub, Nat.mul_one]
   omega
  ·rw [if_neg hab, if_neg hab, Nat.sub_zero, show X + m64 - Y = X + (m64 - Y) from by omega, Nat.mul_add, Nat.mul_sub]
   omega
 rw [hsum, Nat.add_mul_div_left _ _ hD, Nat.div_eq_of_lt (by split <;> omega), Nat.zero_add]
end Wm
namespace Wd
end Wd
open Go.RowKit Rp Rg Ops Mm Ar Wm
namespace Eq'
section
variable {P : Program}
theorem run_part {e : TypeId} {d : TypeDesc} (hd : P.underlying e = some d) (hna : isRow d = false) (hs : (P.info? e).map (·.size) = some 1) {cs : Array Value} {i : Nat} {v : Value} (hv : cs[i]? = some v) (w : World) :
  (part e cs i).run P w = .ok v w := by
 cases hq : P.info? e with
 | none => simp [hq] at hs
 | some inf =>
  have hsz : inf.size = 1 := by simpa [hq] using hs
  have hagg : (isAgg e).run P w = .ok false w := by
   unfold isAgg
   rw [Sem.run_bind, run_underlying hd w]
   cases d <;> simp_all [isRow]
  simp [part, sizeOf, typeInfo, hq, hsz, hagg, hv, Sem.run_bind]
theorem run_equalIn {t e n : Nat} {k : IntKind} (d : Nat) (hin : ∀ a b w, (Op.equalIn d e (.int k a) (.int k b)).run P w = .ok (a == b) w) (hu : P.underlying t = some (.array n e)) (he : P.underlying e = some (.int k)) (hs : (P.info? e).map (·.size) = some 1) {xs ys : Array Value} {f g : Nat → Int}
  (hx : ∀ i, i < n → xs[i]? = some (.int k (f i))) (hy : ∀ i, i < n → ys[i]? = some (.int k (g i))) (w : World) :
  (Op.equalIn (d + 1) t (.agg xs) (.agg ys)).run P w = .ok ((List.range n).all fun i => f i == g i) w := by
 have hsz : (sizeOf e).run P w = .ok 1 w := by
  cases hq : P.info? e with
  | none => simp [hq] at hs
  | some inf =>
   have hsz : inf.size = 1 := by simpa [hq] using hs
   simp [sizeOf, typeInfo, hq, hsz]
 simp only [Op.equalIn, Sem.run_bind, run_underlying hu, Result.andThen_ok, hsz, Nat.mul_one, Std.Legacy.Range.forIn_eq_forIn_range', Std.Legacy.Range.size]
 have hl : ∀ i ∈ List.range' 0 n 1, i < n := fun i hi => by simpa using hi
 rw [show (n - 0 + 1 - 1) / 1 = n from by simp, List.range_eq_range']
 generalize List.range' 0 n 1 = l at hl
 clear hsz
 induction l with
 | nil => simp
 | cons i l ih =>
  have hi := hl i (by simp)
  simp only [List.forIn_cons, Sem.run_bind, run_part he rfl hs (hx i hi), run_part he rfl hs (hy i hi), Result.andThen_ok, hin]
  by_cases h : (f i == g i) = true
  ·simp only [h, Bool.not_true, Bool.false_eq_true, if_false, Sem.run_pure, Result.andThen_ok, List.all_cons, Bool.true_and]
   exact ih fun j hj => hl j (by simp [hj])
  ·have h' : (f i == g i) = false := by simpa using h
   simp [h', List.all_cons]
theorem run_eql {t e n : Nat} {k : IntKind} (hu : P.underlying t = some (.array n e)) (he : P.underlying e = some (.int k)) (hs : (P.info? e).map (·.size) = some 1) {xs ys : Array Value} {f g : Nat → Int}
  (hx : ∀ i, i < n → xs[i]? = some (.int k (f i))) (hy : ∀ i, i < n → ys[i]? = some (.int k (g i))) (w : World) :
  (binOp .eql t (.agg xs) (.agg ys)).run P w = .ok (.bool ((List.range n).all fun i => f i == g i)) w := by
 rw [run_eql_struct]
 have h := run_equalIn 9999 (fun a b w => run_equalIn_int w 9998 e k k a b he) hu he hs hx hy w
 exact congrArg (fun r => Result.andThen r fun b w' => Result.ok (Value.bool b) w') h
theorem run_neq {t e n : Nat} {k : IntKind} (hu : P.underlying t = some (.array n e)) (he : P.underlying e = some (.int k)) (hs : (P.info? e).map (·.size) = some 1) {xs ys : Array Value} {f g : Nat → Int}
  (hx : ∀ i, i < n → xs[i]? = some (.int k (f i))) (hy : ∀ i, i < n → ys[i]? = some (.int k (g i))) (w : World) :
  (binOp .neq t (.agg xs) (.agg ys)).run P w = .ok (.bool (!((List.range n).all fun i => f i == g i))) w := by
 rw [run_neq_struct]
 have h := run_equalIn 9999 (fun a b w => run_equalIn_int w 9998 e k k a b he) hu he hs hx hy w
 exact congrArg (fun r => Result.andThen r fun b w' => Result.ok (Value.bool (!b)) w') h
end
end Eq'
open Go.RowKit Rg
namespace Lf
def V.pure : V → Bool
 | .k _ => true
 | .a cs => go cs
 | .t cs => go cs
 | .nil => true
 | .i _ v => v.pure
 | _ => false
where go : List V → Bool
 | [] => true
 | v :: r => v.pure && go r
theorem pure_go {cs : List V} (h : V.pure.go cs = true) : ∀ u ∈ cs, u.pure = true := by
 induction cs with
 | nil => simp
 | cons x r ih =>
  simp only [V.pure.go, Bool.and_eq_true] at h
  intro u hu
  rcases List.mem_cons.1 hu with rfl | hu
  ·exact h.1
  ·exact ih h.2 u hu
theorem pure_of_all {cs : List V} (h : ∀ u ∈ cs, u.pure = true) : V.pure.go cs = true := by
 induction cs with
 | nil => rfl
 | cons x r ih => simp only [V.pure.go, Bool.and_eq_true]; exact ⟨h x (by simp), ih fun u hu => h u (by simp [hu])⟩
theorem Rep.pure {g : Gh} {w : World} {v : V} {x : Value} (h : Rep w g v x) : v.pure = true → ∀ (w' : World) (g' : Gh), Rep w' g' v x := by
 induction h with
 | k v => intro _ _ _; exact .k v
 | a hl h1 _ ih => intro hp w' g'; exact .a hl h1 fun j u x hj hx => ih j u x hj hx (pure_go (by simpa [V.pure] using hp) u (List.mem_of_getElem? hj)) w' g'
 | t hl _ ih => intro hp w' g'; exact .t hl fun j u x hj hx => ih j u x hj hx (pure_go (by simpa [V.pure] using hp) u (List.mem_of_getElem? hj)) w' g'
 | nil => intro _ _ _; exact .nil
 | i _ ih => intro hp w' g'; exact .i (ih (by simpa [V.pure] using hp) w' g')
 | _ => intro hp; simp [V.pure] at hp
def viewS (g : Gh) (L : Mem) (b o : Nat) : Prop := g.S b o ∨ ∃ i m, aget L i = some m ∧ fp g i m b o
def viewG (g : Gh) (L : Mem) : Gh := ⟨viewS g L, fun _ => none, fun _ => none⟩
inductive View (L : Mem) : V → V → Prop
 | same {u v : V} (keep nn) (hv : u.cv keep nn = v) (hr : v.refs [] = true) : View L u v
 | sb {i off n cap size : Nat} {cs es : List V} (hi : aget L i = some (.b cs)) (hr : V.refs.go [] cs = true) (hc : (cs.drop off).take (n * size) = es.flatMap V.cells) (hl : es.length = n) (hs : ∀ e ∈ es, e.cells.length = size) (hp : 0 < size) (hn : n ≤ cap) (hm : cap ≤ maxLen) : View L (.sb i off n cap) (.s none es)
 | p {i off : Nat} {cs : List V} (hi : aget L i = some (.b cs)) (hr : V.refs.go [] cs = true) : View L (.p i off) (.q (cs.drop off))
 | w {i E gen sz off n : Nat} {es es' : List V} (hi : aget L i = some (.w E sz gen es)) (hn : off + n ≤ es.length) (h0 : 0 < n) (he : (es.drop off).take n = es') : View L (.w i gen sz off n) (.s none es')
inductive Views (L : Mem) : List V → List V → Prop
 | nil : Views L [] []
 | cons {u v us vs} (h : View L u v) (r : Views L us vs) : Views L (u :: us) (v :: vs)
theorem rep_toV {g : Gh} {w : World} {L : Mem} {u : V} {x : Value} (h : Rep w g u x) (hr : u.refs [] = true) : Rep w (viewG g L) u x := by
 have := h.only (mem := []) hr
 refine this.mono ⟨Nat.le_refl _, fun b o _ hs => ⟨.inl hs, rfl⟩, fun i z hz => ?_, fun r a l c hz => ?_⟩
 ·simp [Gh.only, aget] at hz
 ·simp [Gh.only, aget] at hz
theorem view_rep {F : Fr0} {g : Gh} {w : World} {mem L : Mem} (hm : RelM F g mem w) (hL : ∀ i m, aget L i = some m → aget mem i = some m) {u v : V} {x : Value} (h : View L u v) (hr : Rep w g u x) : Rep w (viewG g L) v x := by
 cases h with
 | same keep nn hv hr' => subst hv; exact rep_toV hr.cv hr'
 | @sb i off n cap size cs es hi hrf hc hl hs hp hn hmx =>
  obtain ⟨b, bo, hbx, hlt, hB⟩ := hm.box (hL i _ hi)
  cases hr with
  | sb hp' =>
   rw [hbx] at hp'; cases hp'
   obtain ⟨xs, hxl, hx, hrep⟩ := hB.vals
   have hin : ∀ (j : Nat) u, (es.flatMap V.cells)[j]? = some u → cs[off + j]? = some u := fun j u hj => by
    rw [← hc, List.getElem?_take] at hj
    split at hj
    ·rw [List.getElem?_drop] at hj; exact hj
    ·cases hj
   rw [← hl] at hn ⊢
   refine .s (size := size) (fun j => xs.getD (off + j) undef) hn hmx hp (fun e he => ⟨hs e he, fun u hu => ?_⟩) (fun j u hj => ?_) (fun j u hj => ?_) fun _ h => by cases h
   ·obtain ⟨j, hj⟩ := List.getElem?_of_mem (List.mem_flatMap.2 ⟨e, he, hu⟩)
    exact hB.one u (List.mem_of_getElem? (hin j u hj))
   ·have hjc := hin j u hj
    have hjl := (List.getElem?_eq_some_iff.1 hjc).1
    have hjx : xs[off + j]? = some xs[off + j] := List.getElem?_eq_getElem (by omega)
    refine ⟨hlt, .inr ⟨i, _, hi, bo, hbx, by omega, by omega⟩, ?_⟩
    rw [Nat.add_assoc, List.getD_eq_getElem?_getD, hjx]
    exact hx _ _ hjx
   ·have hjc := hin j u hj
    have hjl := (List.getElem?_eq_some_iff.1 hjc).1
    have hjx : xs[off + j]? = some xs[off + j] := List.getElem?_eq_getElem (by omega)
    have := rep_toV (L := L) (hrep _ u _ hjc hjx) (refs_go hrf u (List.mem_of_getElem? hjc))
    rw [List.getD_eq_getElem?_getD, hjx]
    exact this
 | @p i off cs hi hrf =>
  obtain ⟨b, bo, hbx, hlt, hB⟩ := hm.box (hL i _ hi)
  cases hr with
  | p hp' =>
   rw [hbx] at hp'; cases hp'
   obtain ⟨xs, hxl, hx, hrep⟩ := hB.vals
   refine .q (fun j => xs.getD (off + j) undef) (fun u hu => hB.one u (List.mem_of_mem_drop hu)) (fun j u hj => ?_) (fun j u hj => ?_)
   ·rw [List.getElem?_drop] at hj
    have hjl := (List.getElem?_eq_some_iff.1 hj).1
    have hjx : xs[off + j]? = some xs[off + j] := List.getElem?_eq_getElem (by omega)
    refine ⟨hlt, .inr ⟨i, _, hi, bo, hbx, by omega, by omega⟩, ?_⟩
    rw [Nat.add_assoc, List.getD_eq_getElem?_getD, hjx]
    exact hx _ _ hjx
   ·rw [List.getElem?_drop] at hj
    have hjl := (List.getElem?_eq_some_iff.1 hj).1
    have hjx : xs[off + j]? = some xs[off + j] := List.getElem?_eq_getElem (by omega)
    have := rep_toV (L := L) (hrep _ u _ hj hjx) (refs_go hrf u (List.mem_of_getElem? hj))
    rw [List.getD_eq_getElem?_getD, hjx]
    exact this
 | @w i E gen sz off n es es' hi hn h0 he =>
  obtain ⟨a, c, hrw, hB⟩ := hm.buf (hL i _ hi)
  cases hr with
  | @w _ _ _ _ _ _ ad cap h =>
   obtain ⟨a', l, c', h1, h2, h3⟩ := h
   rw [hrw] at h1; cases h1
   obtain ⟨w1, w2, w3⟩ := h3 rfl
   obtain ⟨xs, hown, hrep⟩ := hB.own
   have hlen : es'.length = n := by rw [← he]; simp; omega
   have hes : ∀ e ∈ es', e ∈ es := fun e hm' => List.mem_of_mem_drop (List.mem_of_mem_take (he ▸ hm'))
   have hsz : ∀ e ∈ es, e.cells.length = sz := fun e he => (hB.cells e he).1
   obtain rfl := w3 (.inl (by omega))
   cases a with
   | none =>
    rcases hown.2 with ⟨hv, hz⟩ | ⟨q, cp, cur, _, hv, _⟩
    ·omega
    ·simp at hv
   | some b =>
    have hcm : c ≤ maxLen := by
     rcases hown.2 with ⟨hv, _⟩ | ⟨q, cp, cur, _, hv, _, _, _, hm1, _⟩
     ·simp at hv
     ·simp at hv; obtain ⟨_, rfl⟩ := hv; exact hm1
    have hin : ∀ (j : Nat) u, (es'.flatMap V.cells)[j]? = some u → (es.flatMap V.cells)[off * sz + j]? = some u := fun j u hj => by
     subst he
     refine flat_cut off (off + n) hsz ?_
     rw [Nat.add_sub_cancel_left]; exact hj
    rw [← hlen]
    simp only [Option.map_some]
    refine .s (size := sz) (fun j => xs.getD (off * sz + j) undef) (by omega) (by omega) hB.pos (fun e he => hB.cells e (hes e he)) (fun j u hj => ?_) (fun j u hj => ?_) fun _ h => by cases h
    ·have hjc := hin j u hj
     have hjl := (List.getElem?_eq_some_iff.1 hjc).1
     rw [flat_len hsz, ← hown.1] at hjl
     have hjx : xs[off * sz + j]? = some xs[off * sz + j] := List.getElem?_eq_getElem hjl
     refine ⟨hB.lt rfl, .inr ⟨i, _, hi, _, _, hrw⟩, ?_⟩
     rw [own_cell hown hjl, List.getD_eq_getElem?_getD, hjx]
     rfl
    ·have hjc := hin j u hj
     have hjl := (List.getElem?_eq_some_iff.1 hjc).1
     rw [flat_len hsz, ← hown.1] at hjl
     have hjx : xs[off * sz + j]? = some xs[off * sz + j] := List.getElem?_eq_getElem hjl
     rw [List.getD_eq_getElem?_getD, hjx]
     have h4 := hrep _ u _ hjc hjx
     exact h4.mono ⟨Nat.le_refl _, fun b o _ hs => ⟨.inl hs, rfl⟩, fun _ _ h => (by cases h), fun _ _ _ _ h => (by cases h)⟩
theorem views_rep {F : Fr0} {g : Gh} {w : World} {mem L : Mem} (hm : RelM F g mem w) (hL : ∀ i m, aget L i = some m → aget mem i = some m) {us vs : List V} (h : Views L us vs) : us.length = vs.length ∧ ∀ (j : Nat) v, vs[j]? = some v → ∃ u, us[j]? = some u ∧ ∀ x, Rep w g u x → Rep w (viewG g L) v x := by
 induction h with
 | nil => exact ⟨rfl, fun j v h => by simp at h⟩
 | cons h _ ih =>
  refine ⟨by simp [ih.1], fun j v hj => ?_⟩
  cases j with
  | zero => simp at hj; subst hj; exact ⟨_, rfl, fun x hx => view_rep hm hL h hx⟩
  | succ j => simp at hj; simpa using ih.2 j v hj
def readT (L : Mem) : Tch := L.map fun x => (x.1, some x.2, none)
theorem tset_read (L mem : Mem) : tset (readT L) mem = mem := by
 induction L with
 | nil => rfl
 | cons x r ih => simpa [readT, tset] using ih
theorem aget_map_mem {L : Mem} {i : Nat} {m : M} (h : aget L i = some m) : (i, some m, none) ∈ readT L := List.mem_map.2 ⟨(i, m), aget_mem h, rfl⟩
section
variable {P : Program} {o : Oper} {env : Env} {v : V}
theorem Does.callV {fx : Nat} {xs : List Operand} {ts : Array Nat} {us args : List V} (L : Mem) (hc : LM P fx args [] fun o m => o = .ret v ∧ m = []) (ho : o.op = .call { callee := .value (.func fx), args := xs.toArray, argTypes := ts }) (hx : evs env xs = some us) (hu : Views L us args) (hp : v.pure = true) :
  Does P o env v (readT L) := by
 refine ⟨fun F g a w mem h1 h2 h3 h4 _ K Q hK => ?_⟩
 have hL : ∀ i m, aget L i = some m → aget mem i = some m := fun i m hi => h4 i _ none (aget_map_mem hi)
 obtain ⟨e1, e2⟩ := evs_get hx
 obtain ⟨f1, f2⟩ := views_rep h2 hL hu
 have hS : ∀ b o, w.heap.size ≤ b → viewS g L b o := fun b o hb => .inl (h2.fut b o hb)
 unfold Oper.wp
 rw [exec_call ho hc.ok]
 refine Calls.mono (hc.go (viewG g L) w _ ⟨fun _ _ h => (by cases h), fun _ _ _ _ h => (by cases h), fun _ _ _ _ _ _ _ h => (by cases h), fun _ _ => rfl, fun _ _ => rfl, hS, ⟨(h2.loc.tab.kept h3).sub fun _ _ h => .inl h, fun _ _ h => (by cases h), fun _ _ _ _ h => (by cases h)⟩⟩ (by simp; omega) fun j u x hj hxj => ?_) ?_
 ·obtain ⟨u0, hu0, hb⟩ := f2 j u hj
  obtain ⟨y, hy, hev⟩ := e2 j u0 hu0
  have : x = a.eval y := by simp [hy] at hxj; exact hxj.symm
  subst this
  exact hb _ (h1 y (by simp [ho, Op.operands, Call.operands]; exact .inr (List.mem_of_getElem? hy)) u0 hev)
 ·rintro e w' ⟨o', mo, g', ⟨rfl, rfl⟩, he, hm, hk, x, rfl, hrep⟩
  have hB : ∀ b o, ¬ (lentF (viewG g L) [] w).B b o := fun b o ⟨i, m, h, _⟩ => by cases h
  have hext : Ext w w' := ⟨hk.os, hk.tape, hk.output, hk.size, fun b hb => hk.blk b hb (hB b)⟩
  obtain ⟨k1, k2, k3⟩ := h2.ext (g' := ⟨fun b o => g'.S b o ∧ (b < w.heap.size → g.S b o), g.bx, g.rw⟩) h3 hext (fun b o hb => ⟨fun h => h.2 hb, fun h => ⟨hk.S2 b o hb (.inl h), fun _ => h⟩⟩) rfl rfl fun b o hb => ⟨hm.fut b o hb, fun hlt => by have := hk.size; simp only [lentF] at this; omega⟩
  exact hK x _ w' k1 (by rw [tset_read]; exact k2) k3 (hrep.pure hp _ _)
end
theorem part_map {α : Type} [Inhabited α] {ti : TI} {l : List α} {f : α → V} {off k : Nat} (hd : ti.d.agg = false) (ho : off = k) (hk : k < l.length) : ti.part (l.map f) off = some (f (l.getD k default)) := by
 subst ho
 simp [TI.part, hd, hk]
theorem splice_map {α : Type} {l : List α} {f : α → V} {off k : Nat} {a : α} (ho : off = k) (hk : k < l.length) : splice (l.map f) off [f a] = (l.set k a).map f := by
 subst ho
 apply List.ext_getElem?
 intro j
 rw [splice_get (by simp; omega), List.getElem?_map, List.getElem?_map, List.getElem?_set]
 simp only [List.length_singleton]
 by_cases h : off = j
 ·subst h; simp [hk]
 ·rw [if_neg (by omega), if_neg h]
section
variable {P : Program} {o : Oper} {env : Env} {v : V}
theorem Does.idxArr1 {T i off n e k : Nat} {x ix : Operand} {kd : IntKind} {z : Int} (X : TOk P) {ti ei : TI} (ho : o.op = .indexAddr T x ix) (hx : evo env x = some (.p i off)) (hi : evo env ix = some (.k (.int kd z))) (hz : z = ((k : Nat) : Int)) (hT : aget X.tab T = some ti) (hd : ti.d = .arr n e) (hE : aget X.tab e = some ei) (hs : Nat.beq ei.size 1 = true) (hk : k < n) : Does P o env (.p i (off + k)) [] := by
 have := Does.idxArr X ho hx hi hz hT hd hE hk
 rwa [Nat.eq_of_beq_eq_true hs, Nat.mul_one] at this
theorem Does.idxArr0 {T i n e k : Nat} {x ix : Operand} {kd : IntKind} {z : Int} (X : TOk P) {ti ei : TI} (ho : o.op = .indexAddr T x ix) (hx : evo env x = some (.p i 0)) (hi : evo env ix = some (.k (.int kd z))) (hz : z = ((k : Nat) : Int)) (hT : aget X.tab T = some ti) (hd : ti.d = .arr n e) (hE : aget X.tab e = some ei) (hs : Nat.beq ei.size 1 = true) (hk : k < n) : Does P o env (.p i k) [] := by
 have := Does.idxArr1 X ho hx hi hz hT hd hE hs hk
 rwa [Nat.zero_add] at this
theorem Does.idxSb1 {T e k i off n cap : Nat} {x ix : Operand} {kd : IntKind} {z : Int} (X : TOk P) {ti ei : TI} (ho : o.op = .indexAddr T x ix) (hx : evo env x = some (.sb i off n cap)) (hi : evo env ix = some (.k (.int kd z))) (hz : z = ((k : Nat) : Int)) (hT : aget X.tab T = some ti) (hd : ti.d = .sl e) (hE : aget X.tab e = some ei) (hs : Nat.beq ei.size 1 = true) (hk : k < n) : Does P o env (.p i (off + k)) [] := by
 have := Does.idxSb X ho hx hi hz hT hd hE hk
 rwa [Nat.eq_of_beq_eq_true hs, Nat.mul_one] at this
theorem Does.cutA1 {T e l h i off n : Nat} {x : Operand} {lo hi : Option Operand} (X : TOk P) {ti ei : TI} (ho : o.op = .slice T x lo hi none) (hx : evo env x = some (.p i off)) (hT : aget X.tab T = some ti) (hd : ti.d = .arr n e) (hE : aget X.tab e = some ei) (hs : Nat.beq ei.size 1 = true) (hlo : Bd env 0 lo l) (hhi : Bd env n hi h)
  (h1 : l ≤ h) (h2 : h ≤ n) (h3 : l < n) : Does P o env (.sb i (off + l) (h - l) (n - l)) [] := by
 have := Does.cutA X ho hx hT hd hE hlo hhi h1 h2 h3
 rwa [Nat.eq_of_beq_eq_true hs, Nat.mul_one] at this
theorem rep_ints {α : Type} {w : World} {g : Gh} {k : IntKind} {f : α → Int} {l : List α} {x : Value} (h : Rep w g (.a (l.map fun a => .k (.int k (f a)))) x) : ∃ xs : Array Value, x = .agg xs ∧ xs.size = l.length ∧ ∀ i (hi : i < l.length), xs[i]? = some (.int k (f l[i])) := by
 cases h with
 | @a _ _ vs hl h1 hc =>
  rw [List.length_map] at hl
  refine ⟨vs, rfl, hl.symm, fun i hi => ?_⟩
  have hv : vs[i]? = some vs[i] := Array.getElem?_eq_getElem (by omega)
  have := rep_k (hc i (.k (.int k (f l[i]))) vs[i] (by rw [List.getElem?_map, List.getElem?_eq_getElem hi]; rfl) hv)
  rw [hv, this]
theorem all_eq {α : Type} {f : α → Int} (inj : ∀ a b, f a = f b → a = b) {l m : List α} {n : Nat} (hl : l.length = n) (hm : m.length = n) (d : α) : ((List.range n).all fun i => f (l.getD i d) == f (m.getD i d)) = @decide (l = m) (Classical.propDecidable _) := by
 rw [Bool.eq_iff_iff, List.all_eq_true, @decide_eq_true_iff _ (Classical.propDecidable _)]
 constructor
 ·intro h
  apply List.ext_getElem (by omega)
  intro i h1 h2
  have := h i (List.mem_range.2 (by omega))
  rw [beq_iff_eq] at this
  have := inj _ _ this
  simpa [List.getD_eq_getElem?_getD, List.getElem?_eq_getElem h1, List.getElem?_eq_getElem h2] using this
 ·rintro rfl i _; simp
theorem run_eqInts {α : Type} {T n e : Nat} {k : IntKind} {f : α → Int} (inj : ∀ a b, f a = f b → a = b) (X : TOk P) {ti ei : TI} (hT : aget X.tab T = some ti) (hd : ti.d = .arr n e) (hE : aget X.tab e = some ei) (he : ei.d = .int k) (hs : Nat.beq ei.size 1 = true) {l m : List α} (hl : l.length = n) (hm : m.length = n)
  {xs ys : Array Value} (hx : ∀ i (hi : i < l.length), xs[i]? = some (.int k (f l[i]))) (hy : ∀ i (hi : i < m.length), ys[i]? = some (.int k (f m[i]))) (w : World) :
  (binOp .eql T (.agg xs) (.agg ys)).run P w = .ok (.bool (@decide (l = m) (Classical.propDecidable _))) w ∧ (binOp .neq T (.agg xs) (.agg ys)).run P w = .ok (.bool (!(@decide (l = m) (Classical.propDecidable _)))) w := by
 have hsz : (P.info? e).map (·.size) = some 1 := by rw [(X.get hE).size, Nat.eq_of_beq_eq_true hs]
 rcases Nat.eq_zero_or_pos n with h0 | h0
 ·subst h0
  have e1 : l = [] := List.eq_nil_of_length_eq_zero hl
  have e2 : m = [] := List.eq_nil_of_length_eq_zero hm
  subst e1; subst e2
  have q1 := Eq'.run_eql (P := P) (t := T) (e := e) (n := 0) (k := k) ((X.get hT).arr hd) ((X.get hE).int he) hsz (f := fun _ => 0) (g := fun _ => 0) (xs := xs) (ys := ys) (fun i hi => by omega) (fun i hi => by omega) w
  have q2 := Eq'.run_neq (P := P) (t := T) (e := e) (n := 0) (k := k) ((X.get hT).arr hd) ((X.get hE).int he) hsz (f := fun _ => 0) (g := fun _ => 0) (xs := xs) (ys := ys) (fun i hi => by omega) (fun i hi => by omega) w
  rw [q1, q2]
  simp
 ·obtain ⟨d⟩ : Nonempty α := ⟨l[0]⟩
  have hx' : ∀ i, i < n → xs[i]? = some (.int k (f (l.getD i d))) := fun i hi => by rw [hx i (by omega), List.getD_eq_getElem?_getD, List.getElem?_eq_getElem (by omega)]; rfl
  have hy' : ∀ i, i < n → ys[i]? = some (.int k (f (m.getD i d))) := fun i hi => by rw [hy i (by omega), List.getD_eq_getElem?_getD, List.getElem?_eq_getElem (by omega)]; rfl
  rw [Eq'.run_eql (P := P) (k := k) ((X.get hT).arr hd) ((X.get hE).int he) hsz hx' hy' w, Eq'.run_neq (P := P) (k := k) ((X.get hT).arr hd) ((X.get hE).int he) hsz hx' hy' w, all_eq inj hl hm d]
  exact ⟨rfl, rfl⟩
theorem eqGuard_arr {b : BinOp} {T n e : Nat} {k : IntKind} (X : TOk P) {ti ei : TI} (hT : aget X.tab T = some ti) (hd : ti.d = .arr n e) (hE : aget X.tab e = some ei) (he : ei.d = .int k) {x y : Operand} {xs ys : Array Value} (w : World) : (eqGuard b T x y (.agg xs) (.agg ys)).run P w = .ok () w := by
 have hdp : ∃ m, P.depth = m + 2 := ⟨2 * (P.types.size + Made.depth), rfl⟩
 obtain ⟨m, hm⟩ := hdp
 have : P.eqGuardType P.depth T = false := by
  rw [hm]
  simp [Program.eqGuardType, (X.get hT).arr hd, (X.get hE).int he]
 unfold eqGuard
 cases b <;> simp [this, program, Sem.run]
theorem Does.eqInts {α : Type} {T n e Y : Nat} {k : IntKind} {f : α → Int} {x y : Operand} {l m : List α} (inj : ∀ a b, f a = f b → a = b) (X : TOk P) {ti ei : TI} (ho : o.op = .binOp .eql T x y Y) (hx : evo env x = some (.a (l.map fun a => .k (.int k (f a))))) (hy : evo env y = some (.a (m.map fun a => .k (.int k (f a)))))
  (hT : aget X.tab T = some ti) (hd : ti.d = .arr n e) (hE : aget X.tab e = some ei) (he : ei.d = .int k) (hs : Nat.beq ei.size 1 = true) (hl : l.length = n) (hm : m.length = n) {r : Bool} (hr' : @decide (l = m) (Classical.propDecidable _) = r) : Does P o env (.k (.bool r)) [] :=
 .pure fun F g a w mem hr _ => by
  subst hr'
  obtain ⟨xs, e1, h1, h2⟩ := rep_ints (hr x (by simp [ho, Op.operands]) _ hx)
  obtain ⟨ys, e2, h3, h4⟩ := rep_ints (hr y (by simp [ho, Op.operands]) _ hy)
  obtain ⟨q1, q2⟩ := run_eqInts inj X hT hd hE he hs hl hm h2 h4 w
  exact ⟨_, by simp only [execOp, ho, e1, e2, Sem.run_bind, eqGuard_arr X hT hd hE he, Result.andThen_ok, q1]; rfl, .k _⟩
theorem Does.neInts {α : Type} {T n e Y : Nat} {k : IntKind} {f : α → Int} {x y : Operand} {l m : List α} (inj : ∀ a b, f a = f b → a = b) (X : TOk P) {ti ei : TI} (ho : o.op = .binOp .neq T x y Y) (hx : evo env x = some (.a (l.map fun a => .k (.int k (f a))))) (hy : evo env y = some (.a (m.map fun a => .k (.int k (f a)))))
  (hT : aget X.tab T = some ti) (hd : ti.d = .arr n e) (hE : aget X.tab e = some ei) (he : ei.d = .int k) (hs : Nat.beq ei.size 1 = true) (hl : l.length = n) (hm : m.length = n) {r : Bool} (hr' : @decide (¬ l = m) (Classical.propDecidable _) = r) : Does P o env (.k (.bool r)) [] :=
 .pure fun F g a w mem hr _ => by
  subst hr'
  obtain ⟨xs, e1, h1, h2⟩ := rep_ints (hr x (by simp [ho, Op.operands]) _ hx)
  obtain ⟨ys, e2, h3, h4⟩ := rep_ints (hr y (by simp [ho, Op.operands]) _ hy)
  obtain ⟨q1, q2⟩ := run_eqInts inj X hT hd hE he hs hl hm h2 h4 w
  refine ⟨_, by simp only [execOp, ho, e1, e2, Sem.run_bind, eqGuard_arr X hT hd hE he, Result.andThen_ok, q2]; rfl, ?_⟩
  have : (!(@decide (l = m) (Classical.propDecidable _))) = @decide (¬ l = m) (Classical.propDecidable _) := by
   rw [Bool.eq_iff_iff]; simp
  rw [this]
  exact .k _
theorem bK_inj (a b : UInt8) (h : (a.toNat : Int) = (b.toNat : Int)) : a = b := UInt8.toNat_inj.1 (by omega)
def qK (x : UInt64) : V := .k (.int .u64 (x.toNat : Int))
def uK (n : Nat) : V := .k (.int .u64 ((n : Nat) : Int))
theorem uK_inj (a b : Nat) (h : ((a : Nat) : Int) = ((b : Nat) : Int)) : a = b := by omega
theorem qK_inj (a b : UInt64) (h : (a.toNat : Int) = (b.toNat : Int)) : a = b := UInt64.toNat_inj.1 (by omega)
end
theorem uadd {a b : UInt64} : IntKind.u64.wrap ((a.toNat : Int) + (b.toNat : Int)) = ((a + b).toNat : Int) := by
 rw [wrap_uns rfl, UInt64.toNat_add]; norm_cast
theorem usub {a b : UInt64} : IntKind.u64.wrap ((a.toNat : Int) - (b.toNat : Int)) = ((a - b).toNat : Int) := by
 have ha := a.toNat_lt
 have hb := b.toNat_lt
 rw [wrap_uns rfl, UInt64.toNat_sub]
 have e : (2 : Int) ^ IntKind.u64.bits = 18446744073709551616 := by decide
 have e2 : (2 : Nat) ^ 64 = 18446744073709551616 := by decide
 rw [e]
 rw [e2] at *
 omega
theorem uxor {a b : UInt64} : IntKind.u64.wrap (((BitVec.ofInt IntKind.u64.bits (a.toNat : Int) ^^^ BitVec.ofInt IntKind.u64.bits (b.toNat : Int)).toNat : Nat) : Int) = ((a ^^^ b).toNat : Int) := by
 rw [xor_u64 a.toNat_lt b.toNat_lt, UInt64.toNat_xor]
theorem uxorn {a : UInt64} {n : Nat} : IntKind.u64.wrap (((BitVec.ofInt IntKind.u64.bits (a.toNat : Int) ^^^ BitVec.ofInt IntKind.u64.bits (n : Int)).toNat : Nat) : Int) = ((a ^^^ UInt64.ofNat n).toNat : Int) := by
 rw [BitVec.toNat_xor, ofInt_nat, ofInt_nat, UInt64.toNat_xor, UInt64.toNat_ofNat']
 have e : (2 : Nat) ^ IntKind.u64.bits = 2 ^ 64 := rfl
 rw [e, Nat.mod_eq_of_lt a.toNat_lt]
 exact wrap_fit (k := .u64) rfl (Nat.xor_lt_two_pow a.toNat_lt (Nat.mod_lt _ (Nat.two_pow_pos 64)))
theorem mul_u64m {a b : Nat} : IntKind.u64.wrap ((a : Int) * OfNat.ofNat b) = ((a * OfNat.ofNat b % 2 ^ 64 : Nat) : Int) := by
 rw [wrap_uns rfl]
 exact (Int.natCast_emod _ _).symm.trans rfl
theorem beq_len {α : Type} {l : List α} {n : Nat} (h : l.length = n) : Nat.beq l.length n = true := by rw [h]; exact Nat.beq_refl n
theorem ble_len {a b : Nat} (h : a ≤ b) : Nat.ble a b = true := Nat.ble_eq_true_of_le h
theorem splice_all {cs us : List V} (h : us.length = cs.length) : splice cs 0 us = us := by simp [splice, h]
end Lf
open Go.RowKit Rg
namespace Lf
structure LNext {α : Type} (I : α → Env) (J : α → Mem) (ok : α → Prop) (μ : α → Nat) (x : α) (env : Env) (mem : Mem) : Prop where
 ex : ∃ y, ok y ∧ μ y < μ x ∧ Sub env mem (I y) (J y)
theorem LNext.go {α : Type} {I : α → Env} {J : α → Mem} {ok : α → Prop} {μ : α → Nat} {x : α} {env : Env} {mem : Mem} {y : α} (he : SubE env (I y)) (hm : SubM mem (J y)) (hk : (mem.all fun x => Nat.blt x.1 1000 || (aget (J y) x.1).isSome) = true)
  (hrE : refsE (J y) (I y) = true) (hrM : refsM (J y) (J y) = true) (hok : ok y) (hlt : μ y < μ x) : LNext I J ok μ x env mem := ⟨y, hok, hlt, he, hm, by rw [hk, hrE, hrM]; rfl⟩
structure LNext2 {β : Type} (I : Nat → β → Env) (J : Nat → β → Mem) (ok : Nat → β → Prop) (μ : Nat → Nat) (i : Nat) (env : Env) (mem : Mem) : Prop where
 ex : ∃ y z, ok y z ∧ μ y < μ i ∧ Sub env mem (I y z) (J y z)
theorem LNext2.go {β : Type} {I : Nat → β → Env} {J : Nat → β → Mem} {ok : Nat → β → Prop} {μ : Nat → Nat} {i : Nat} {env : Env} {mem : Mem} {y : Nat} {z : β} (he : SubE env (I y z)) (hm : SubM mem (J y z)) (hk : (mem.all fun x => Nat.blt x.1 1000 || (aget (J y z) x.1).isSome) = true)
  (hrE : refsE (J y z) (I y z) = true) (hrM : refsM (J y z) (J y z) = true) (hok : ok y z) (hlt : μ y < μ i) : LNext2 I J ok μ i env mem := ⟨y, z, hok, hlt, he, hm, by rw [hk, hrE, hrM]; rfl⟩
structure Away (C : Prop) : Prop where
 out : C
theorem ble_map1 {α : Type} {l : List α} {f : α → V} {k : Nat} (h : k < l.length) : Nat.ble (k + 1) (l.map f).length = true := Nat.ble_eq_true_of_le (by rw [List.length_map]; exact h)
section
variable {P : Program} {F : Fr0} {N : Nat} {Q : LQ} {env : Env} {mem : Mem}
theorem LC.loopN {α : Type} {c : Code} (I : α → Env) (J : α → Mem) (ok : α → Prop) (μ : α → Nat) (x0 : α) (h0 : ok x0) (he : SubE env (I x0)) (hm : SubM mem (J x0)) (hk : (mem.all fun x => Nat.blt x.1 1000 || (aget (J x0) x.1).isSome) = true)
  (hrE : refsE (J x0) (I x0) = true) (hrM : refsM (J x0) (J x0) = true)
  (round : ∀ x, ok x → LC P F N c (LThen (LNext I J ok μ x) Q) (I x) (J x)) : LC P F N (.loop c) Q env mem :=
 LC.loop I J ok μ x0 h0 ⟨he, hm, by rw [hk, hrE, hrM]; rfl⟩ fun x hx => (round x hx).mono fun e env' mem' h => by
  cases e with
  | normal => exact h.ex
  | _ => exact h
theorem LC.loop2 {β : Type} {c : Code} (I : Nat → β → Env) (J : Nat → β → Mem) (ok : Nat → β → Prop) (μ : Nat → Nat) (i0 : Nat) (b0 : β) (h0 : ok i0 b0) (he : SubE env (I i0 b0)) (hm : SubM mem (J i0 b0)) (hk : (mem.all fun x => Nat.blt x.1 1000 || (aget (J i0 b0) x.1).isSome) = true)
  (hrE : refsE (J i0 b0) (I i0 b0) = true) (hrM : refsM (J i0 b0) (J i0 b0) = true)
  (round : ∀ i b, ok i b → LC P F N c (LThen (LNext2 I J ok μ i) Q) (I i b) (J i b)) : LC P F N (.loop c) Q env mem :=
 LC.loop (fun x : Nat × β => I x.1 x.2) (fun x => J x.1 x.2) (fun x => ok x.1 x.2) (fun x => μ x.1) (i0, b0) h0 ⟨he, hm, by rw [hk, hrE, hrM]; rfl⟩ fun x hx => (round x.1 x.2 hx).mono fun e env' mem' h => by
  cases e with
  | normal => obtain ⟨y, z, h1, h2, h3⟩ := h.ex; exact ⟨(y, z), h1, h2, h3⟩
  | _ => exact h
end
theorem res1_cell {tab : Tab} {env : Env} {mem : Mem} {t T i off : Nat} {ti : TI} {cs : List V} {v : V} (h1 : aget env t = some (.p i off)) (h2 : aget tab T = some ti) (h3 : aget mem i = some (.b cs)) (h4 : ti.part cs off = some v) : res1 tab env mem (.cell t T) = some v := by
 simp [res1, h1, h2, h3, h4]
theorem resV_1 {tab : Tab} {env : Env} {mem : Mem} {r : ResultVar} {v : V} (h : res1 tab env mem r = some v) : resV tab env mem [r] = some v := h
theorem resV_2 {tab : Tab} {env : Env} {mem : Mem} {r s : ResultVar} {v u : V} (h : res1 tab env mem r = some v) (k : res1 tab env mem s = some u) : resV tab env mem [r, s] = some (.t [v, u]) := by simp [resV, resL, h, k]
theorem resV_3 {tab : Tab} {env : Env} {mem : Mem} {r s t : ResultVar} {v u z : V} (h : res1 tab env mem r = some v) (k : res1 tab env mem s = some u) (l : res1 tab env mem t = some z) : resV tab env mem [r, s, t] = some (.t [v, u, z]) := by simp [resV, resL, h, k, l]
theorem refs_mapq (mem : Mem) (l : List UInt64) : V.refs.go mem (l.map qK) = true := refs_of_all fun u hu => by obtain ⟨_, _, rfl⟩ := List.mem_map.1 hu; rfl
theorem refs_mapu (mem : Mem) (l : List Nat) : V.refs.go mem (l.map uK) = true := refs_of_all fun u hu => by obtain ⟨_, _, rfl⟩ := List.mem_map.1 hu; rfl
theorem refs_mapb (mem : Mem) (l : List UInt8) : V.refs.go mem (l.map bK) = true := refs_of_all fun u hu => by obtain ⟨_, _, rfl⟩ := List.mem_map.1 hu; rfl
theorem refs_append (mem : Mem) (a b : List V) : V.refs.go mem (a ++ b) = (V.refs.go mem a && V.refs.go mem b) := by
 induction a with
 | nil => rfl
 | cons v r ih => simp only [List.cons_append, V.refs.go, ih, Bool.and_assoc]
theorem pure_mapq (l : List UInt64) : V.pure.go (l.map qK) = true := pure_of_all fun u hu => by obtain ⟨_, _, rfl⟩ := List.mem_map.1 hu; rfl
theorem pure_mapu (l : List Nat) : V.pure.go (l.map uK) = true := pure_of_all fun u hu => by obtain ⟨_, _, rfl⟩ := List.mem_map.1 hu; rfl
theorem pure_mapb (l : List UInt8) : V.pure.go (l.map bK) = true := pure_of_all fun u hu => by obtain ⟨_, _, rfl⟩ := List.mem_map.1 hu; rfl
end Lf
open Go.RowKit Rg
namespace Lf
def Exact (v : V) (x : Value) : Prop := (∀ w g, Rep w g v x) ∧ ∀ w g y, Rep w g v y → y = x
theorem exact_k (x : Value) : Exact (.k x) x := ⟨fun _ _ => .k x, fun _ _ _ h => rep_k h⟩
theorem args_exact {args : List V} {xs : List Value} (h : args.length = xs.length) (he : ∀ (j : Nat) u x, args[j]? = some u → xs[j]? = some x → Exact u x) {w : World} {g : Gh} {vals : Array Value} (hl : args.length = vals.size) (hr : ∀ (j : Nat) u x, args[j]? = some u → vals[j]? = some x → Rep w g u x) : vals = xs.toArray := by
 apply Array.ext
 ·simp; omega
 ·intro i h1 h2
  have hv : vals[i]? = some vals[i] := Array.getElem?_eq_getElem h1
  have ha : args[i]? = some args[i] := List.getElem?_eq_getElem (by omega)
  have hx : xs[i]? = some xs[i] := List.getElem?_eq_getElem (by simpa using h2)
  have := (he i _ _ ha hx).2 w g _ (hr i _ _ ha hv)
  rw [this]; rfl
theorem LF.of_calls {P : Program} {f : Nat} {args : List V} {xs : List Value} {out : V} {y : Value} (hok : callOk P f = true) (h : args.length = xs.length) (he : ∀ (j : Nat) u x, args[j]? = some u → xs[j]? = some x → Exact u x) (ho : Exact out y)
  (hc : ∀ w, Calls P f xs.toArray w fun e w' => e = .returned y ∧ Ext w w') : LF P f args (fun _ => out) none := by
 refine ⟨hok, fun g w vals hm hl hr => ?_⟩
 rw [args_exact h he hl hr]
 refine (hc w).mono fun e w' ⟨he, hx⟩ => ⟨.ret out, [], g, ⟨rfl, rfl⟩, ?_⟩
 obtain ⟨k1, k2, k3⟩ := hm.ext (g' := g) ⟨rfl, rfl, rfl, Nat.le_refl _, fun _ _ _ => rfl, fun _ _ _ _ => ⟨rfl, rfl⟩, fun _ _ _ _ h => h, fun _ _ _ h => h, fun _ _ _ _ => rfl⟩ hx (fun _ _ _ => Iff.rfl) rfl rfl (fun b o hb => hm.fut b o (Nat.le_trans hx.size hb))
 exact ⟨k1, k2, k3, y, he, ho.1 _ _⟩
theorem ex1 {a : V} {x : Value} (ha : Exact a x) : ∀ (j : Nat) u y, [a][j]? = some u → [x][j]? = some y → Exact u y := fun j u y hj hy => by
 match j with
 | 0 => simp at hj hy; subst hj; subst hy; exact ha
 | j + 1 => simp at hj
theorem ex2 {a b : V} {x y : Value} (ha : Exact a x) (hb : Exact b y) : ∀ (j : Nat) u z, [a, b][j]? = some u → [x, y][j]? = some z → Exact u z := fun j u z hj hz => by
 match j with
 | 0 => simp at hj hz; subst hj; subst hz; exact ha
 | 1 => simp at hj hz; subst hj; subst hz; exact hb
 | j + 2 => simp at hj
def allS : Gh := ⟨fun _ _ => True, fun _ => none, fun _ => none⟩
theorem LF.truth {P : Program} {f : Nat} {args : List V} (h : LF P f args (fun _ => .k (.bool true)) none) (W : World) (vals : Array Value) (ht : TabAt W fun _ _ => True) (hl : args.length = vals.size) (hr : ∀ (j : Nat) u x, args[j]? = some u → vals[j]? = some x → Rep W allS u x) :
  Calls P f vals W fun e W' => e = .returned (.bool true) ∧ Ext W W' := by
 refine (h.go allS W vals ⟨fun _ _ h => (by cases h), fun _ _ _ _ h => (by cases h), fun _ _ _ _ _ _ _ h => (by cases h), fun _ _ => rfl, fun _ _ => rfl, fun _ _ _ => trivial, ⟨ht, fun _ _ h => h, fun _ a l c h => ⟨a, l, c, h, Nat.le_refl _, fun _ => ⟨rfl, rfl⟩⟩⟩⟩ hl hr).mono ?_
 rintro e w' ⟨o, mo, g', ⟨rfl, rfl⟩, _, _, hk, x, rfl, hrep⟩
 rw [rep_k hrep]
 exact ⟨rfl, hk.os, hk.tape, hk.output, hk.size, fun b hb => hk.blk b hb fun o ⟨i, m, h, _⟩ => by cases h⟩
def RepAll (W : World) (g : Gh) : List V → List Value → Prop
 | [], [] => True
 | u :: us, x :: xs => Rep W g u x ∧ RepAll W g us xs
 | _, _ => False
theorem RepAll.spec {W : World} {g : Gh} : ∀ {us : List V} {xs : List Value}, RepAll W g us xs → us.length = xs.length ∧ ∀ (j : Nat) u x, us[j]? = some u → xs[j]? = some x → Rep W g u x
 | [], [], _ => ⟨rfl, fun j u x h => by simp at h⟩
 | u :: us, x :: xs, h => by
  obtain ⟨h1, h2⟩ := RepAll.spec h.2
  refine ⟨by simp [h1], fun j a b ha hb => ?_⟩
  cases j with
  | zero => simp at ha hb; subst ha; subst hb; exact h.1
  | succ j => simp at ha hb; exact h2 j a b ha hb
 | [], _ :: _, h => h.elim
 | _ :: _, [], h => h.elim
theorem LF.holds {P : Program} {f : Nat} {args : List V} (h : LF P f args (fun _ => .k (.bool true)) none) (W : World) (xs : List Value) (hr : RepAll W allS args xs) (ht : TabAt W fun _ _ => True := by exact fun _ _ h => absurd h List.not_mem_nil) : Calls P f xs.toArray W fun e W' => e = .returned (.bool true) ∧ Ext W W' :=
 LF.truth h W xs.toArray ht (by simpa using hr.spec.1) fun j u x hu hx => hr.spec.2 j u x hu (by simpa using hx)
end Lf
open Go.RowKit Rg Rp Go.WideShapes Go.ChangeShapes
namespace Lf
def RO (W : World) : List V → List Value → Prop
 | [], [] => True
 | u :: us, c :: cs => (u.one = true ∧ Rep W allS u c) ∧ RO W us cs
 | _, _ => False
theorem RO.append {W : World} : ∀ {us : List V} {cs : List Value} {vs : List V} {ds : List Value}, RO W us cs → RO W vs ds → RO W (us ++ vs) (cs ++ ds)
 | [], [], _, _, _, h => h
 | _u :: _us, _c :: _cs, _, _, h, k => ⟨h.1, RO.append h.2 k⟩
 | [], _ :: _, _, _, h, _ => h.elim
 | _ :: _, [], _, _, h, _ => h.elim
theorem RO.spec {W : World} : ∀ {us : List V} {cs : List Value}, RO W us cs → us.length = cs.length ∧ ∀ (j : Nat) u c, us[j]? = some u → cs[j]? = some c → u.one = true ∧ Rep W allS u c
 | [], [], _ => ⟨rfl, fun j u c h => by simp at h⟩
 | u :: us, c :: cs, h => by
  obtain ⟨h1, h2⟩ := RO.spec h.2
  refine ⟨by simp [h1], fun j a b ha hb => ?_⟩
  cases j with
  | zero => simp at ha hb; subst ha; subst hb; exact h.1
  | succ j => simp at ha hb; exact h2 j a b ha hb
 | [], _ :: _, h => h.elim
 | _ :: _, [], h => h.elim
theorem RO.flatten {W : World} : ∀ {uss : List (List V)} {css : List (List Value)}, uss.length = css.length → (∀ (j : Nat) us cs, uss[j]? = some us → css[j]? = some cs → RO W us cs) → RO W uss.flatten css.flatten
 | [], [], _, _ => trivial
 | us :: uss, cs :: css, hl, h => by
  rw [List.flatten_cons, List.flatten_cons]
  exact (h 0 us cs rfl rfl).append (RO.flatten (by simpa using hl) fun j a b ha hb => h (j + 1) a b (by simpa using ha) (by simpa using hb))
 | [], _ :: _, hl, _ => by simp at hl
 | _ :: _, [], hl, _ => by simp at hl
theorem mapM_some {α β : Type} {f : α → Option β} : ∀ {l : List α} {r : List β}, l.mapM f = some r → r.length = l.length ∧ ∀ (j : Nat) a, l[j]? = some a → ∃ b, r[j]? = some b ∧ f a = some b
 | [], r, h => by simp at h; subst h; simp
 | a :: l, r, h => by
  simp only [List.mapM_cons, Option.bind_eq_bind, Option.pure_def] at h
  obtain ⟨b, hb, h⟩ := Option.bind_eq_some_iff.1 h
  obtain ⟨bs, hbs, h⟩ := Option.bind_eq_some_iff.1 h
  cases h
  obtain ⟨h1, h2⟩ := mapM_some hbs
  refine ⟨by simp [h1], fun j x hj => ?_⟩
  cases j with
  | zero => simp at hj; subst hj; exact ⟨b, rfl, hb⟩
  | succ j => simp at hj; exact h2 j x hj
theorem list_choose {α : Type} {p : Nat → α → Prop} : ∀ (n : Nat), (∀ j, j < n → ∃ x, p j x) → ∃ xs : List α, xs.length = n ∧ ∀ j x, xs[j]? = some x → p j x
 | 0, _ => ⟨[], rfl, by simp⟩
 | n + 1, h => by
  obtain ⟨xs, hl, hx⟩ := list_choose n fun j hj => h j (by omega)
  obtain ⟨x, hp⟩ := h n (by omega)
  refine ⟨xs ++ [x], by simp [hl], fun j y hj => ?_⟩
  rcases Nat.lt_or_ge j xs.length with hlt | hge
  ·rw [List.getElem?_append_left hlt] at hj; exact hx j y hj
  ·rw [List.getElem?_append_right hge] at hj
   have : j - xs.length = 0 := by
    rcases Nat.eq_zero_or_pos (j - xs.length) with h0 | h0
    ·exact h0
    ·rw [List.getElem?_eq_none (by simp; omega)] at hj; cases hj
   rw [this] at hj
   simp at hj; subst hj
   obtain rfl : j = n := by omega
   exact hp
theorem range_flatten {s : Nat} : ∀ {n : Nat} {cs : List Value}, cs.length = n * s → ((List.range n).map fun i => (cs.drop (i * s)).take s).flatten = cs
 | 0, cs, h => by simp at h; subst h; rfl
 | n + 1, cs, h => by
  rw [List.range_succ_eq_map, List.map_cons, List.flatten_cons, List.map_map, Nat.zero_mul, List.drop_zero]
  have e := range_flatten (s := s) (n := n) (cs := cs.drop s) (by rw [List.length_drop, h, Nat.succ_mul]; omega)
  have e2 : ((List.range n).map ((fun i => (cs.drop (i * s)).take s) ∘ Nat.succ)) = (List.range n).map fun i => ((cs.drop s).drop (i * s)).take s := by
   refine List.map_congr_left fun i _ => ?_
   simp only [Function.comp, List.drop_drop, Nat.succ_mul]
   rw [Nat.add_comm]
  rw [e2, e]
  exact List.take_append_drop _ _
theorem flat_inv {α : Type} {f : α → List V} {k : Nat} (hk : 0 < k) : ∀ {l : List α} {J : Nat} {u : V}, (∀ a ∈ l, (f a).length = k) → (l.flatMap f)[J]? = some u → ∃ a, l[J / k]? = some a ∧ (f a)[J % k]? = some u
 | [], J, u, _, h => by simp at h
 | a :: l, J, u, hf, h => by
  rw [List.flatMap_cons] at h
  have ha := hf a (by simp)
  rcases Nat.lt_or_ge J k with hlt | hge
  ·rw [List.getElem?_append_left (by omega)] at h
   exact ⟨a, by rw [Nat.div_eq_of_lt hlt]; rfl, by rw [Nat.mod_eq_of_lt hlt]; exact h⟩
  ·rw [List.getElem?_append_right (by omega), ha] at h
   obtain ⟨b, h1, h2⟩ := flat_inv hk (fun a ha => hf a (by simp [ha])) h
   obtain ⟨J', rfl⟩ : ∃ J', J = J' + k := ⟨J - k, by omega⟩
   rw [Nat.add_sub_cancel] at h1 h2
   exact ⟨b, by rw [Nat.add_div_right _ hk]; exact h1, by rw [Nat.add_mod_right]; exact h2⟩
theorem sum_le {α β : Type} {f : α → Nat} {g : β → Nat} : ∀ {l : List α} {m : List β}, l.length = m.length → (∀ (j : Nat) a b, l[j]? = some a → m[j]? = some b → f a ≤ g b) → (l.map f).sum ≤ (m.map g).sum
 | [], [], _, _ => Nat.le_refl _
 | a :: l, b :: m, hl, h => by
  simp only [List.map_cons, List.sum_cons]
  exact Nat.add_le_add (h 0 a b rfl rfl) (sum_le (by simpa using hl) fun j x y hx hy => h (j + 1) x y (by simpa using hx) (by simpa using hy))
 | [], _ :: _, hl, _ => by simp at hl
 | _ :: _, [], hl, _ => by simp at hl
section
variable {H : Type} {enc : TypeId × Value → H} {P : Program} {W : World}
theorem sum_bulk (xs : List (DataW H × List MemPlace)) : (xs.map fun x => Rows.uptoBulk x.1).sum = Rows.uptoBulkAll (xs.map (·.1)) := by
 induction xs with
 | nil => simp [Rows.uptoBulkAll]
 | cons x r ih => simp [Rows.uptoBulkAll, ih]
structure Opn (enc : TypeId × Value → H) (P : Program) (W : World) (n T : Nat) {α : Type} (f : α → List V) (ok : α → Prop) (sz : α → Nat) : Prop where
 go : ∀ cs x, DataW.trod enc P W 0 (fun _ => true) true n T cs = some x → ∃ a, RO W (f a) cs ∧ ok a ∧ sz a ≤ Rows.uptoBulk x.1
theorem Opn.zero {T : Nat} {α : Type} {f : α → List V} {ok : α → Prop} {sz : α → Nat} : Opn enc P W 0 T f ok sz := ⟨fun cs x h => by simp [DataW.trod] at h⟩
theorem Opn.map {n T : Nat} {α β : Type} {f : α → List V} {ok : α → Prop} {sz : α → Nat} {f' : β → List V} {ok' : β → Prop} {sz' : β → Nat} (g : α → β) (h : Opn enc P W n T f ok sz) (hf : ∀ a, ok a → f' (g a) = f a) (hok : ∀ a, ok a → ok' (g a)) (hs : ∀ a, ok a → sz' (g a) ≤ sz a) : Opn enc P W n T f' ok' sz' :=
 ⟨fun cs x hx => by
  obtain ⟨a, h1, h2, h3⟩ := h.go cs x hx
  exact ⟨g a, by rw [hf a h2]; exact h1, hok a h2, Nat.le_trans (hs a h2) h3⟩⟩
theorem Opn.bool {n T : Nat} (hT : P.underlying T = some .bool) : Opn enc P W n T (fun b : Bool => [.k (.bool b)]) (fun _ => True) (fun _ => 1) := ⟨fun cs x h => by
 cases n with
 | zero => simp [DataW.trod] at h
 | succ n =>
  unfold DataW.trod at h
  rw [hT] at h
  split at h <;> rename_i hu <;> first | (cases hu; done) | skip
  all_goals first | (cases h; exact ⟨_, ⟨⟨rfl, .k _⟩, trivial⟩, trivial, by simp [Rows.uptoBulk]⟩) | cases h⟩
theorem Opn.int {n T : Nat} {k : IntKind} (hT : P.underlying T = some (.int k)) : Opn enc P W n T (fun z : Int => [.k (.int k z)]) (fun z => k.min ≤ z ∧ z ≤ k.max) (fun _ => 1) := ⟨fun cs x h => by
 cases n with
 | zero => simp [DataW.trod] at h
 | succ n =>
  unfold DataW.trod at h
  rw [hT] at h
  split at h <;> rename_i hu <;> first | (cases hu; done) | skip
  all_goals first | cases h | skip
  cases hu
  split at h
  ·rename_i hw
   cases h
   obtain ⟨rfl, hw⟩ := hw
   exact ⟨_, ⟨⟨rfl, .k _⟩, trivial⟩, by simpa [Lit.wf] using hw, by simp [Rows.uptoBulk]⟩
  ·cases h⟩
theorem Opn.str {n T : Nat} (hT : P.underlying T = some .string) : Opn enc P W n T (fun s : ByteArray => [.k (.string s)]) (fun s => s.size ≤ maxLen) (fun s => s.size + 1) := ⟨fun cs x h => by
 cases n with
 | zero => simp [DataW.trod] at h
 | succ n =>
  unfold DataW.trod at h
  rw [hT] at h
  split at h <;> rename_i hu <;> first | (cases hu; done) | skip
  all_goals first | cases h | skip
  split at h
  ·rename_i hw
   cases h
   exact ⟨_, ⟨⟨rfl, .k _⟩, trivial⟩, hw, by simp [Rows.uptoBulk]⟩
  ·cases h⟩
theorem Opn.sl {n T e k : Nat} {α : Type} {f : α → List V} {ok : α → Prop} {sz : α → Nat} (p : α → V) (hT : P.underlying T = some (.slice e)) (hc : P.cellsOf e = k) (hk : 0 < k) (hp : ∀ a, (p a).cells = f a) (h : Opn enc P W (n - 1) e f ok sz) :
    Opn enc P W n T (fun l : List α => [.s none (l.map p)]) (fun l => ∀ a ∈ l, ok a) (fun l => (l.map sz).sum + 1) := ⟨fun cs x hx => by
  cases n with
  | zero => simp [DataW.trod] at hx
  | succ n =>
    unfold DataW.trod at hx
    rw [hT] at hx
    split at hx <;> rename_i hu <;> first | (cases hu; done) | skip
    all_goals first | (cases hx; exact ⟨[], ⟨⟨rfl, .s0 (fun _ h => by cases h)⟩, trivial⟩, by simp, by simp [Rows.uptoBulk]⟩) | skip
    all_goals first | cases hx | skip
    cases hu
    rename_i a len cap
    simp only [hc] at hx
    split at hx
    · rename_i hb
      obtain ⟨_, hlc, hcm⟩ := hb
      obtain ⟨elems, he, hx⟩ := Option.bind_eq_some_iff.1 hx
      obtain ⟨rest, hr, hx⟩ := Option.map_eq_some_iff.1 hx
      subst hx
      obtain ⟨e1, e2⟩ := mapM_some he
      rw [List.length_range] at e1
      have key : ∀ j, j < len → ∃ y : α, (∃ b, elems[j]? = some b ∧ ok y ∧ sz y ≤ Rows.uptoBulk b.1) ∧ (f y).length = k ∧ ∀ i, i < k → ∃ u c, (f y)[i]? = some u ∧ W.cell? ((a.add (j * k)).add i) = some c ∧ u.one = true ∧ Rep W allS u c := fun j hj => by
        obtain ⟨b, h1, h2⟩ := e2 j j (by rw [List.getElem?_range hj])
        obtain ⟨ds, h3, h4⟩ := Option.bind_eq_some_iff.1 h2
        obtain ⟨y, k1, k2, k3⟩ := h.go ds b h4
        unfold World.cells? at h3
        split at h3
        · obtain ⟨m1, m2⟩ := mapM_some h3
          rw [List.length_range] at m1
          obtain ⟨l1, l2⟩ := k1.spec
          refine ⟨y, ⟨b, h1, k2, k3⟩, by omega, fun i hi => ?_⟩
          obtain ⟨c, c1, c2⟩ := m2 i i (by rw [List.getElem?_range hi])
          have hu : (f y)[i]? = some (f y)[i] := List.getElem?_eq_getElem (by omega)
          exact ⟨_, c, hu, c2, l2 i _ c hu c1⟩
        · cases h3
      obtain ⟨ys, hyl, hys⟩ := list_choose len key
      have hspot : 0 < cap → a.spot = none := fun h0 => by
        have : ∃ v : DataW H × List MemPlace, ((W.cells? 0 (a.add (0 * k)) k).bind (DataW.trod enc P W 0 (fun _ => true) true n e)) = some v := by
          rcases Nat.eq_zero_or_pos len with hl | hl
          · subst hl
            simp only [if_true] at hr
            obtain ⟨_, r2⟩ := mapM_some hr
            obtain ⟨v, _, hv⟩ := r2 0 0 (by rw [List.getElem?_range (by omega)])
            exact ⟨v, by simpa using hv⟩
          · obtain ⟨v, _, hv⟩ := e2 0 0 (by rw [List.getElem?_range hl])
            exact ⟨v, hv⟩
        obtain ⟨v, hv⟩ := this
        obtain ⟨ds, h3, _⟩ := Option.bind_eq_some_iff.1 hv
        unfold World.cells? at h3
        split at h3
        · obtain ⟨_, m2⟩ := mapM_some h3
          obtain ⟨c, _, c2⟩ := m2 0 0 (by rw [List.getElem?_range hk])
          obtain ⟨b, o, s⟩ := a
          cases s with
          | none => rfl
          | some s =>
            exfalso
            simp only [Addr.add, Nat.zero_mul] at c2
            simp [World.cell?] at c2
            split at c2 <;> simp at c2
        · cases h3
      refine ⟨ys, ⟨⟨rfl, ?_⟩, trivial⟩, fun y hy => ?_, ?_⟩
      · rcases Nat.eq_zero_or_pos cap with h0 | h0
        · obtain rfl : len = 0 := by omega
          subst h0
          have : ys = [] := List.eq_nil_of_length_eq_zero hyl
          subst this
          exact .se a (fun _ h => by cases h)
        · have hsp := hspot h0
          obtain ⟨b, o, s⟩ := a
          simp only at hsp
          subst hsp
          have hfl : ∀ y ∈ ys, (f y).length = k := fun y hy => by
            obtain ⟨j, hj⟩ := List.getElem?_of_mem hy
            exact (hys j y hj).2.1
          have hfe : (ys.map p).flatMap V.cells = ys.flatMap f := by
            rw [List.flatMap_map]
            congr 1
            funext y; exact hp y
          have hat : ∀ (J : Nat) u, (ys.flatMap f)[J]? = some u → ∃ c, W.cell? ⟨b, o + J, none⟩ = some c ∧ u.one = true ∧ Rep W allS u c := fun J u hu => by
            obtain ⟨y, h1, h2⟩ := flat_inv hk hfl hu
            obtain ⟨_, _, h3⟩ := hys _ y h1
            obtain ⟨u', c, k1, k2, k3⟩ := h3 (J % k) (Nat.mod_lt _ hk)
            rw [k1] at h2; cases h2
            rw [Addr.add_lit, Addr.add_lit, Nat.add_assoc, Nat.mul_comm, Nat.div_add_mod] at k2
            exact ⟨c, k2, k3⟩
          have hlen : (ys.map p).length = len := by simpa using hyl
          rw [← hlen]
          refine .s (size := k) (fun J => (W.cell? ⟨b, o + J, none⟩).getD undef) (by omega) hcm hk (fun v hv => ?_) (fun J u hu => ?_) (fun J u hu => ?_) (fun _ h => by cases h)
          · obtain ⟨y, hy, rfl⟩ := List.mem_map.1 hv
            rw [hp]
            refine ⟨hfl y hy, fun u hu => ?_⟩
            obtain ⟨J, hJ⟩ := List.getElem?_of_mem (List.mem_flatMap.2 ⟨y, hy, hu⟩)
            obtain ⟨_, _, h1, _⟩ := hat J u hJ
            exact h1
          · rw [hfe] at hu
            obtain ⟨c, h1, _⟩ := hat J u hu
            exact ⟨World.block_lt_of_cell? W ⟨b, o + J, none⟩ (by rw [h1]), trivial, by rw [h1]; rfl⟩
          · rw [hfe] at hu
            obtain ⟨c, h1, _, h2⟩ := hat J u hu
            rw [h1]
            exact h2
      · obtain ⟨j, hj⟩ := List.getElem?_of_mem hy
        obtain ⟨⟨b, _, h1, _⟩, _⟩ := hys j y hj
        exact h1
      · have := sum_le (f := sz) (g := fun x : DataW H × List MemPlace => Rows.uptoBulk x.1) (l := ys) (m := elems) (by omega) fun j y b hy hb => by
          obtain ⟨⟨b', hb', _, h1⟩, _⟩ := hys j y hy
          rw [hb] at hb'; cases hb'
          exact h1
        rw [sum_bulk] at this
        simp only [Rows.uptoBulk]
        omega
    · cases hx⟩
def tileB (P : Program) (total : Nat) : Nat → List Field → Bool
 | off, [] => Nat.beq off total
 | off, f :: r => Nat.beq f.offset off && tileB P total (off + P.cellsOf f.type) r
structure OpnFs (enc : TypeId × Value → H) (P : Program) (W : World) (n : Nat) (fs : List Field) {α : Type} (f : α → List V) (ok : α → Prop) (sz : α → Nat) : Prop where
 go : ∀ (total off : Nat) (cs : List Value) (xs : List (DataW H × List MemPlace)), tileB P total off fs = true → cs.length = total → (fs.mapM fun fl => DataW.trod enc P W 0 (fun _ => true) true n fl.type ((cs.drop fl.offset).take (P.cellsOf fl.type))) = some xs → ∃ a, RO W (f a) (cs.drop off) ∧ ok a ∧ sz a ≤ Rows.uptoBulkAll (xs.map (·.1))
theorem OpnFs.nil {n : Nat} : OpnFs enc P W n [] (fun _ : Unit => []) (fun _ => True) (fun _ => 0) := ⟨fun total off cs xs ht hl hx => by
 have : off = total := Nat.eq_of_beq_eq_true ht
 refine ⟨(), ?_, trivial, Nat.zero_le _⟩
 rw [List.drop_of_length_le (by omega)]
 trivial⟩
theorem OpnFs.cons {n : Nat} {fl : Field} {fs : List Field} {α β : Type} {f : α → List V} {ok : α → Prop} {sz : α → Nat} {f' : β → List V} {ok' : β → Prop} {sz' : β → Nat} (h : Opn enc P W n fl.type f ok sz) (k : OpnFs enc P W n fs f' ok' sz') :
  OpnFs enc P W n (fl :: fs) (fun x : α × β => f x.1 ++ f' x.2) (fun x => ok x.1 ∧ ok' x.2) (fun x => sz x.1 + sz' x.2) := ⟨fun total off cs xs ht hl hx => by
 simp only [tileB, Bool.and_eq_true] at ht
 have ho : fl.offset = off := Nat.eq_of_beq_eq_true ht.1
 simp only [List.mapM_cons, Option.bind_eq_bind, Option.pure_def] at hx
 obtain ⟨b, hb, hx⟩ := Option.bind_eq_some_iff.1 hx
 obtain ⟨bs, hbs, hx⟩ := Option.bind_eq_some_iff.1 hx
 cases hx
 obtain ⟨a, a1, a2, a3⟩ := h.go _ _ hb
 obtain ⟨c, c1, c2, c3⟩ := k.go _ _ _ _ ht.2 hl hbs
 refine ⟨(a, c), ?_, ⟨a2, c2⟩, by simp only [List.map_cons, Rows.uptoBulkAll]; omega⟩
 have := a1.append c1
 rw [ho, ← List.drop_drop, List.take_append_drop] at this
 exact this⟩
theorem Opn.st {n T : Nat} {fs : Array Field} {α : Type} {f : α → List V} {ok : α → Prop} {sz : α → Nat} (hT : P.underlying T = some (.struct fs)) (ht : tileB P (P.cellsOf T) 0 fs.toList = true) (h : OpnFs enc P W (n - 1) fs.toList f ok sz) :
  Opn enc P W n T f ok (fun a => sz a + 1) := ⟨fun cs x hx => by
 cases n with
 | zero => simp [DataW.trod] at hx
 | succ n =>
  have hx : (if cs.length = P.cellsOf T then (fs.toList.mapM fun fl => DataW.trod enc P W 0 (fun _ => true) true n fl.type ((cs.drop fl.offset).take (P.cellsOf fl.type))).map fun xs => (DataW.agg (xs.map (·.1)), xs.flatMap (·.2)) else none) = some x := by
   unfold DataW.trod at hx
   rw [hT] at hx
   exact hx
  split at hx
  ·rename_i hl
   obtain ⟨xs, hxs, hx⟩ := Option.map_eq_some_iff.1 hx
   subst hx
   obtain ⟨a, h1, h2, h3⟩ := h.go _ _ _ _ ht hl hxs
   rw [List.drop_zero] at h1
   exact ⟨a, h1, h2, by simp only [Rows.uptoBulk]; omega⟩
  ·cases hx⟩
theorem Opn.ar {n T m e : Nat} {α : Type} {f : α → List V} {ok : α → Prop} {sz : α → Nat} (hT : P.underlying T = some (.array m e)) (hc : P.cellsOf T = m * P.cellsOf e) (h : Opn enc P W (n - 1) e f ok sz) :
    Opn enc P W n T (fun l : List α => l.flatMap f) (fun l => l.length = m ∧ ∀ a ∈ l, ok a) (fun l => (l.map sz).sum + 1) := ⟨fun cs x hx => by
  cases n with
  | zero => simp [DataW.trod] at hx
  | succ n =>
    have hx : (if cs.length = P.cellsOf T then ((List.range m).mapM fun i => DataW.trod enc P W 0 (fun _ => true) true n e ((cs.drop (i * P.cellsOf e)).take (P.cellsOf e))).map fun xs => (DataW.agg (xs.map (·.1)), xs.flatMap (·.2)) else none) = some x := by
      unfold DataW.trod at hx
      rw [hT] at hx
      exact hx
    split at hx
    · rename_i hl
      obtain ⟨xs, hxs, hx⟩ := Option.map_eq_some_iff.1 hx
      subst hx
      obtain ⟨e1, e2⟩ := mapM_some hxs
      rw [List.length_range] at e1
      obtain ⟨ys, hyl, hys⟩ := list_choose (p := fun j (y : α) => (∃ b, xs[j]? = some b ∧ ok y ∧ sz y ≤ Rows.uptoBulk b.1) ∧ RO W (f y) ((cs.drop (j * P.cellsOf e)).take (P.cellsOf e))) m fun j hj => by
        obtain ⟨b, h1, h2⟩ := e2 j j (by rw [List.getElem?_range hj])
        obtain ⟨y, k1, k2, k3⟩ := h.go _ b h2
        exact ⟨y, ⟨b, h1, k2, k3⟩, k1⟩
      refine ⟨ys, ?_, ⟨hyl, fun y hy => ?_⟩, ?_⟩
      · have hrf := range_flatten (s := P.cellsOf e) (n := m) (cs := cs) (by rw [hl, hc])
        rw [← hrf, List.flatMap]
        refine RO.flatten (by simp [hyl]) fun j us ds h1 h2 => ?_
        rw [List.getElem?_map] at h1 h2
        obtain ⟨y, hy, rfl⟩ := Option.map_eq_some_iff.1 h1
        obtain ⟨i, hi, rfl⟩ := Option.map_eq_some_iff.1 h2
        have hjl : j < m := by have := (List.getElem?_eq_some_iff.1 hy).1; omega
        rw [List.getElem?_range hjl] at hi
        cases hi
        exact (hys j y hy).2
      · obtain ⟨j, hj⟩ := List.getElem?_of_mem hy
        obtain ⟨⟨b, _, h1, _⟩, _⟩ := hys j y hj
        exact h1
      · have := sum_le (f := sz) (g := fun x : DataW H × List MemPlace => Rows.uptoBulk x.1) (l := ys) (m := xs) (by omega) fun j y b hy hb => by
          obtain ⟨⟨b', hb', _, h1⟩, _⟩ := hys j y hy
          rw [hb] at hb'; cases hb'
          exact h1
        rw [sum_bulk] at this
        simp only [Rows.uptoBulk]
        omega
    · cases hx⟩
def aggT (P : Program) (t : Nat) : Bool :=
 match P.underlying t with
 | some (.struct _) | some (.array _ _) => true
 | _ => false
theorem Opn.argA {T base : Nat} {α : Type} {f : α → List V} {ok : α → Prop} {sz : α → Nat} {v : Value} {d : DataW H} {ps : List MemPlace} (h : ∀ n, Opn enc P W n T f ok sz) (ha : aggT P T = true) (hv : Value.okWide P W .any base T v) (ht : DataW.Trod enc P W 0 (fun _ => true) true T v d ps) :
  ∃ a, Rep W allS (.a (f a)) v ∧ ok a ∧ sz a ≤ Rows.uptoBulk d := by
 obtain ⟨n, hn⟩ := ht
 obtain ⟨a, h1, h2, h3⟩ := (h n).go _ _ hn
 obtain ⟨cs, rfl⟩ : ∃ cs, v = .agg cs := by
  unfold Value.okWide at hv
  unfold aggT at ha
  split at hv
  ·obtain ⟨cs, rfl, _⟩ := hv; exact ⟨cs, rfl⟩
  ·obtain ⟨cs, rfl, _⟩ := hv; exact ⟨cs, rfl⟩
  ·rename_i k1 k2
   split at ha
   ·rename_i fs hu; exact absurd hu (k1 fs)
   ·rename_i m e hu; exact absurd hu (k2 m e)
   ·cases ha
 obtain ⟨l1, l2⟩ := h1.spec
 refine ⟨a, .a (by simpa [Value.cells] using l1) (fun u hu => ?_) (fun j u x hj hx => ?_), h2, h3⟩
 ·obtain ⟨j, hj⟩ := List.getElem?_of_mem hu
  have hjl := (List.getElem?_eq_some_iff.1 hj).1
  have hx : (Value.cells (.agg cs)).toList[j]? = some (Value.cells (.agg cs)).toList[j] := List.getElem?_eq_getElem (by omega)
  exact (l2 j u _ hj hx).1
 ·exact (l2 j u x hj (by simpa [Value.cells] using hx)).2
theorem ro_one {u : V} {cs : List Value} (h : RO W [u] cs) : ∃ c, cs = [c] ∧ Rep W allS u c := by
 match cs, h with
 | [c], h => exact ⟨c, rfl, h.1.2⟩
theorem Opn.arg1 {T base : Nat} {α : Type} {p : α → V} {ok : α → Prop} {sz : α → Nat} {v : Value} {d : DataW H} {ps : List MemPlace} (h : ∀ n, Opn enc P W n T (fun a => [p a]) ok sz) (ha : (match P.underlying T with | some .bool | some (.int _) | some .string | some (.slice _) => true | _ => false) = true) (hv : Value.okWide P W .any base T v) (ht : DataW.Trod enc P W 0 (fun _ => true) true T v d ps) :
  ∃ a, Rep W allS (p a) v ∧ ok a ∧ sz a ≤ Rows.uptoBulk d := by
 obtain ⟨n, hn⟩ := ht
 obtain ⟨a, h1, h2, h3⟩ := (h n).go _ _ hn
 have hc : v.cells = #[v] := by
  split at ha
  ·rename_i hu; obtain ⟨b, rfl⟩ := okWide_bool hu hv; rfl
  ·rename_i k hu; obtain ⟨b, rfl⟩ := okWide_int hu hv; rfl
  ·rename_i hu; obtain ⟨b, rfl⟩ := okWide_string hu hv; rfl
  ·rename_i e hu; obtain ⟨x, y, z, rfl⟩ := okWide_slice hu hv; rfl
  ·cases ha
 rw [hc] at h1
 obtain ⟨c, hc', hr⟩ := ro_one h1
 simp at hc'
 subst hc'
 exact ⟨a, hr, h2, h3⟩
theorem Opn.u8 {n T : Nat} (hT : P.underlying T = some (.int .u8)) : Opn enc P W n T (fun b : UInt8 => [bK b]) (fun _ => True) (fun _ => 1) :=
 (Opn.int hT).map (fun z => UInt8.ofNat z.toNat) (fun z hz => by
  have h0 : IntKind.u8.min = 0 := rfl
  have h1 : IntKind.u8.max = 255 := rfl
  have e : (UInt8.ofNat z.toNat).toNat = z.toNat := UInt8.toNat_ofNat_of_lt (by show _ < 256; omega)
  have : ((z.toNat : Nat) : Int) = z := by omega
  simp only [bK, e, this]) (fun _ _ => trivial) fun _ _ => Nat.le_refl _
theorem Opn.u64 {n T : Nat} (hT : P.underlying T = some (.int .u64)) : Opn enc P W n T (fun b : UInt64 => [qK b]) (fun _ => True) (fun _ => 1) :=
 (Opn.int hT).map (fun z => UInt64.ofNat z.toNat) (fun z hz => by
  have h0 : IntKind.u64.min = 0 := rfl
  have h1 : IntKind.u64.max = 18446744073709551615 := rfl
  have e : (UInt64.ofNat z.toNat).toNat = z.toNat := UInt64.toNat_ofNat_of_lt (by show _ < 18446744073709551616; omega)
  have : ((z.toNat : Nat) : Int) = z := by omega
  simp only [qK, e, this]) (fun _ _ => trivial) fun _ _ => Nat.le_refl _
theorem Opn.i64 {n T : Nat} (hT : P.underlying T = some (.int .i64)) : Opn enc P W n T (fun z : Int => [.k (.int .i64 z)]) (fun z => -9223372036854775808 ≤ z ∧ z ≤ 9223372036854775807) (fun _ => 1) :=
 (Opn.int hT).map id (fun _ _ => rfl) (fun _ hz => hz) fun _ _ => Nat.le_refl _
theorem sum_map_one {α : Type} (l : List α) : (l.map fun _ => 1).sum = l.length := by induction l with
 | nil => rfl
 | cons a l ih => simp [ih]; omega
theorem flatMap_one {α : Type} (g : α → V) (l : List α) : l.flatMap (fun a => [g a]) = l.map g := by
 induction l with
 | nil => rfl
 | cons a l ih => rw [List.flatMap_cons, List.map_cons, ih]; rfl
theorem Opn.bytes {n T e : Nat} (hT : P.underlying T = some (.slice e)) (hE : P.underlying e = some (.int .u8)) (hc : P.cellsOf e = 1) : Opn enc P W n T (fun l : List UInt8 => [.s none (l.map bK)]) (fun _ => True) (fun l => l.length + 1) :=
 (Opn.sl bK hT hc (by decide) (fun _ => rfl) (Opn.u8 hE)).map id (fun _ _ => rfl) (fun _ _ => trivial) fun l _ => by rw [sum_map_one]; exact Nat.le_refl _
theorem Opn.arr8 {n T e m : Nat} (hT : P.underlying T = some (.array m e)) (hE : P.underlying e = some (.int .u8)) (hc : P.cellsOf T = m * P.cellsOf e) : Opn enc P W n T (fun l : List UInt8 => l.map bK) (fun l => l.length = m) (fun l => l.length + 1) :=
 (Opn.ar hT hc (Opn.u8 hE)).map id (fun l _ => (flatMap_one bK l).symm) (fun _ h => h.1) fun l _ => by rw [sum_map_one]; exact Nat.le_refl _
end
end Lf
open Go.RowKit Rg Rp Go.WideShapes Go.ChangeShapes
namespace Lf
section
variable {H : Type} {enc : TypeId × Value → H} {W : World} {P : Program}
theorem opnU64 {T n : Nat} (hT : P.underlying T = some (.int .u64)) : Opn enc P W n T (fun x : Nat => [uK x]) (fun x => x < 18446744073709551616) (fun _ => 1) :=
 (Opn.u64 hT).map (fun b => b.toNat) (fun _ _ => rfl) (fun b _ => b.toNat_lt) fun _ _ => Nat.le_refl _
end
end Lf
end Go.Proofs.YtpaafpmofhajfaaGreatDoor

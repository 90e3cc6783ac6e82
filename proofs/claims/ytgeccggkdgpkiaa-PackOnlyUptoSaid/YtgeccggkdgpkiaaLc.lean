/- The lifted walk: code over the lifted state; contracts of functions; calls; loops. -/
import Derived.Test.YtgeccggkdgpkiaaLop3
import Derived.Scope
namespace Go.Proofs.Ytgeccggkdgpkiaa
open Go.RowKit Rg
namespace Lf

/-- A way out of code: its end, out of a block, to a label, out of the function, by a panic. -/
inductive LE where
  | normal | exit (id : Nat) | goto (l : Nat) | ret | pan (v : V)
/-- The model's way out. -/
def LE.At (w : World) (g : Gh) : LE → Exit → Prop
  | .normal, e => e = .normal
  | .exit id, e => e = .exit id
  | .goto l, e => e = .goto l
  | .ret, e => e = .ret
  | .pan v, e => ∃ x, e = .panic [{ v := x, recovered := false }] ∧ Rep w g v x
abbrev LQ := LE → Env → Mem → Prop
def liftQ (F : Fr0) (N : Nat) (Q : LQ) : Exit → Act → World → Prop := fun e a w => ∃ env mem g le, Rel F N g env mem a w ∧ le.At w g e ∧ Q le env mem
structure LC (P : Program) (F : Fr0) (N : Nat) (c : Code) (Q : LQ) (env : Env) (mem : Mem) : Prop where
  go : ∀ g a w, Rel F N g env mem a w → c.wp P (liftQ F N Q) a w
structure LS (P : Program) (F : Fr0) (N : Nat) (ops : Array Oper) (l : List Oper) (Q : LQ) (env : Env) (mem : Mem) : Prop where
  go : ∀ g a w, Rel F N g env mem a w → wpList P ops (liftQ F N Q) l a w
def LThen (next : Env → Mem → Prop) (Q : LQ) : LQ
  | .normal, env, mem => next env mem
  | e, env, mem => Q e env mem
def LBlk (id : Nat) (Q : LQ) : LQ
  | .exit id', env, mem => cond (Nat.beq id' id) (Q .normal env mem) (Q (.exit id') env mem)
  | e, env, mem => Q e env mem
def LNoGoto (Q : LQ) : LQ
  | .goto _, _, _ => False
  | e, env, mem => Q e env mem

def bind (d : Option Nat) (v : V) (env : Env) : Env :=
  match d with
  | some d => (d, v) :: env
  | none => env
def dok (d : Option Nat) (N : Nat) : Bool :=
  match d with
  | some d => Nat.blt d N
  | none => true

/-- Is the operation wanted, by the lifted slots? -/
def gd (ops : Array Oper) (env : Env) (o : Oper) : Option Bool :=
  match o.guard with
  | none => some true
  | some (j, want) =>
    match (ops[j]?).bind (·.dst) with
    | some d =>
      match aget env d with
      | some (.k (.bool b)) => some (b == want)
      | some (.k (.tuple _)) => some false
      | _ => none
    | none => none
theorem gd_wanted {F : Fr0} {N : Nat} {g : Gh} {env : Env} {mem : Mem} {a : Act} {w : World} {ops : Array Oper} {o : Oper} {b : Bool} (h : Rel F N g env mem a w) (hg : gd ops env o = some b) : Region.wanted o (yielded ops a.tmps) = b := by
  unfold gd at hg
  unfold Region.wanted
  split at hg
  · rename_i hn; rw [hn]; cases hg; rfl
  · rename_i j want hn
    rw [hn]
    simp only
    unfold yielded
    split at hg
    · rename_i d hd
      rw [hd]
      simp only [Option.bind_some]
      split at hg
      · rename_i c hc
        cases hg
        obtain ⟨x, h1, h2⟩ := h.env d _ hc
        rw [h1, rep_k h2]
        cases c <;> cases want <;> rfl
      · rename_i c hc
        cases hg
        obtain ⟨x, h1, h2⟩ := h.env d _ hc
        rw [h1, rep_k h2]
        rfl
      · cases hg
    · cases hg

section
variable {P : Program} {F : Fr0} {N : Nat} {Q : LQ} {env : Env} {mem : Mem}

theorem LC.mono {c : Code} {Q' : LQ} (h : LC P F N c Q env mem) (hq : ∀ e env mem, Q e env mem → Q' e env mem) : LC P F N c Q' env mem := ⟨fun g a w hr =>
  wp_mono (h.go g a w hr) fun _ _ _ ⟨en, me, g', le, h1, h3, h2⟩ => ⟨en, me, g', le, h1, h3, hq _ _ _ h2⟩⟩
theorem LC.skip (h : Q .normal env mem) : LC P F N .skip Q env mem := ⟨fun g _ _ hr => wp_skip ⟨env, mem, g, .normal, hr, rfl, h⟩⟩
theorem LC.label {l : Nat} (h : Q .normal env mem) : LC P F N (.label l) Q env mem := ⟨fun g _ _ hr => wp_label ⟨env, mem, g, .normal, hr, rfl, h⟩⟩
theorem LC.exit {id : Nat} (h : Q (.exit id) env mem) : LC P F N (.exit id) Q env mem := ⟨fun g _ _ hr => wp_exit ⟨env, mem, g, .exit id, hr, rfl, h⟩⟩
theorem LC.ret (h : Q .ret env mem) : LC P F N .ret Q env mem := ⟨fun g _ _ hr => wp_ret ⟨env, mem, g, .ret, hr, rfl, h⟩⟩
theorem LC.seq {x y : Code} (h : LC P F N x (LThen (fun env mem => LC P F N y Q env mem) Q) env mem) : LC P F N (.seq x y) Q env mem := ⟨fun g a w hr =>
  wp_seq (wp_mono (h.go g a w hr) fun e a' w' ⟨en, me, g', le, h1, h3, h2⟩ => by
    cases le with
    | normal => cases h3; exact LC.go h2 g' a' w' h1
    | pan v => obtain ⟨x, rfl, hx⟩ := h3; exact ⟨en, me, g', .pan v, h1, ⟨x, rfl, hx⟩, h2⟩
    | exit id => cases h3; exact ⟨en, me, g', .exit id, h1, rfl, h2⟩
    | goto id => cases h3; exact ⟨en, me, g', .goto id, h1, rfl, h2⟩
    | ret => cases h3; exact ⟨en, me, g', .ret, h1, rfl, h2⟩)⟩
theorem LC.cond {c : Operand} {x y : Code} {b : Bool} (hc : evo env c = some (.k (.bool b))) (h1 : b = true → LC P F N x Q env mem) (h2 : b = false → LC P F N y Q env mem) : LC P F N (.cond c x y) Q env mem := ⟨fun g a w hr =>
  wp_cond_split (rep_k (hr.evo hc)) (fun hb => (h1 hb).go g a w hr) (fun hb => (h2 hb).go g a w hr)⟩
theorem LC.condT {c : Operand} {x y : Code} (hc : evo env c = some (.k (.bool true))) (h1 : LC P F N x Q env mem) : LC P F N (.cond c x y) Q env mem := .cond hc (fun _ => h1) (fun h => by cases h)
theorem LC.condF {c : Operand} {x y : Code} (hc : evo env c = some (.k (.bool false))) (h1 : LC P F N y Q env mem) : LC P F N (.cond c x y) Q env mem := .cond hc (fun h => by cases h) (fun _ => h1)
theorem LC.block {id : Nat} {c : Code} (h : LC P F N c (LBlk id Q) env mem) : LC P F N (.block id c) Q env mem := ⟨fun g a w hr =>
  wp_block (wp_mono (h.go g a w hr) fun e a' w' ⟨en, me, g', le, h1, h3, h2⟩ => by
    cases le with
    | exit id' =>
      cases h3
      simp only [LBlk] at h2
      simp only [Exit.inBlock]
      cases hb : Nat.beq id' id
      · rw [hb] at h2
        have : ¬ id' = id := fun e => by subst e; rw [Nat.beq_refl] at hb; cases hb
        rw [if_neg this]
        exact ⟨en, me, g', .exit id', h1, rfl, h2⟩
      · rw [hb] at h2
        rw [if_pos (Nat.eq_of_beq_eq_true hb)]
        exact ⟨en, me, g', .normal, h1, rfl, h2⟩
    | normal => cases h3; exact ⟨en, me, g', .normal, h1, rfl, h2⟩
    | pan v => obtain ⟨x, rfl, hx⟩ := h3; exact ⟨en, me, g', .pan v, h1, ⟨x, rfl, hx⟩, h2⟩
    | goto id => cases h3; exact ⟨en, me, g', .goto id, h1, rfl, h2⟩
    | ret => cases h3; exact ⟨en, me, g', .ret, h1, rfl, h2⟩)⟩
theorem LC.scope {c : Code} (h : LC P F N c (LNoGoto Q) env mem) : LC P F N (.scope c) Q env mem := ⟨fun g a w hr =>
  wp_scope_straight (wp_mono (h.go g a w hr) fun e a' w' ⟨en, me, g', le, h1, h3, h2⟩ => by
    cases le with
    | goto l => exact h2.elim
    | normal => cases h3; exact ⟨en, me, g', .normal, h1, rfl, h2⟩
    | pan v => obtain ⟨x, rfl, hx⟩ := h3; exact ⟨en, me, g', .pan v, h1, ⟨x, rfl, hx⟩, h2⟩
    | exit id => cases h3; exact ⟨en, me, g', .exit id, h1, rfl, h2⟩
    | ret => cases h3; exact ⟨en, me, g', .ret, h1, rfl, h2⟩)⟩

theorem LC.region {id : Nat} {l : List Oper} (h : LS P F N l.toArray l Q env mem) : LC P F N (.region id l.toArray false) Q env mem := ⟨fun g a w hr => wp_region_lit (h.go g a w hr)⟩
theorem LS.nil {ops : Array Oper} (h : Q .normal env mem) : LS P F N ops [] Q env mem := ⟨fun g _ _ hr => ⟨env, mem, g, .normal, hr, rfl, h⟩⟩

theorem Rel.put {g g' : Gh} {a : Act} {w w' : World} {mem' : Mem} {d : Option Nat} {v : V} {x : Value} (h : Rel F N g env mem a w) (he : Ev g w g' w') (hm : RelM F g' mem' w') (hk : Kept F g' w') (hr : Rep w' g' v x) (hd : dok d N = true) : Rel F N g' (bind d v env) mem' (a.put d x) w' := by
  cases d with
  | none =>
    exact ⟨fun t u hu => by obtain ⟨y, h1, h2⟩ := h.env t u hu; exact ⟨y, h1, h2.mono he⟩, hm, hk, h.defers, h.size, h.big⟩
  | some d =>
    have hdN : d < N := Nat.le_of_ble_eq_true hd
    refine ⟨fun t u hu => ?_, hm, hk, h.defers, by simp [Act.put, h.size], h.big⟩
    simp only [bind, aget_cons] at hu
    split at hu
    · rename_i e; subst e; cases hu
      exact ⟨x, by simp [Act.put, h.size, hdN], hr⟩
    · rename_i e
      obtain ⟨y, h1, h2⟩ := h.env t u hu
      exact ⟨y, by simp only [Act.put]; rw [Array.getElem?_setIfInBounds_ne e]; exact h1, h2.mono he⟩

theorem Does.run {o : Oper} {v : V} {t : Tch} (h : Does P o env v t) {g : Gh} {a : Act} {w : World} (hr : Rel F N g env mem a w) (ht : tpre t mem) (hd : dok o.dst N = true) {K : Act → World → Prop} {Q' : Exit → Act → World → Prop}
    (hK : ∀ g' a' w', Rel F N g' (bind o.dst v env) (tset t mem) a' w' → K a' w') : o.wp P a w K Q' :=
  h.ex F g a w mem (fun _ _ _ hu => hr.evo hu) hr.mem hr.kept ht hr.defers K Q' fun _ _ _ he hm hk hx => hK _ _ _ (hr.put he hm hk hx hd)

/-- One operation that is wanted; one that is not. -/
theorem LS.step {ops : Array Oper} {o : Oper} {r : List Oper} {v : V} {t : Tch} (hg : gd ops env o = some true) (h : Does P o env v t) (ht : tpre t mem) (hd : dok o.dst N = true) (hK : LS P F N ops r Q (bind o.dst v env) (tset t mem)) : LS P F N ops (o :: r) Q env mem := ⟨fun g a w hr =>
  wpList_step fun _ hK' => by
    rw [gd_wanted hr hg, if_pos rfl]
    exact h.run hr ht hd fun g' a' w' hr' => hK' a' w' (hK.go g' a' w' hr')⟩
theorem LS.pass {ops : Array Oper} {o : Oper} {r : List Oper} (hg : gd ops env o = some false) (hd : dok o.dst N = true) (hK : LS P F N ops r Q (bind o.dst (.k undef) env) mem) : LS P F N ops (o :: r) Q env mem := ⟨fun g a w hr =>
  wpList_step fun _ hK' => by
    rw [gd_wanted hr hg]
    exact hK' _ _ (hK.go g _ w (hr.put (Ev.refl g w) hr.mem hr.kept (.k undef) hd))⟩
theorem tpre_nil : tpre [] mem := fun _ _ _ h => by cases h
theorem tpre_one {i : Nat} {m m' : Option M} (h : aget mem i = m) : tpre [(i, m, m')] mem := fun j n n' hj => by
  rw [List.mem_singleton] at hj; cases hj; exact h
theorem tpre_two {i i2 : Nat} {m m' n n' : Option M} (h : aget mem i = m) (h2 : aget mem i2 = n) : tpre [(i, m, m'), (i2, n, n')] mem := fun j _ _ hj => by
  simp only [List.mem_cons, List.not_mem_nil, or_false] at hj
  rcases hj with hj | hj <;> cases hj
  · exact h
  · exact h2

/-! ### Less is known -/
def SubE (env : Env) : Env → Prop
  | [] => True
  | (t, v) :: r => aget env t = some v ∧ SubE env r
def SubM (mem : Mem) : Mem → Prop
  | [] => True
  | (i, m) :: r => aget mem i = some m ∧ SubM mem r
theorem SubE.get {env' : Env} (h : SubE env env') {t : Nat} {v : V} (ht : aget env' t = some v) : aget env t = some v := by
  induction env' with
  | nil => cases ht
  | cons x r ih =>
    obtain ⟨n, u⟩ := x
    rw [aget_cons] at ht
    split at ht
    · rename_i e; subst e; cases ht; exact h.1
    · exact ih h.2 ht
theorem SubM.get {mem' : Mem} (h : SubM mem mem') {t : Nat} {v : M} (ht : aget mem' t = some v) : aget mem t = some v := by
  induction mem' with
  | nil => cases ht
  | cons x r ih =>
    obtain ⟨n, u⟩ := x
    rw [aget_cons] at ht
    split at ht
    · rename_i e; subst e; cases ht; exact h.1
    · exact ih h.2 ht
/-- The value names no box and no row but those of the list. -/
def V.refs (mem : Mem) : V → Bool
  | .k _ => true
  | .a cs => go mem cs
  | .t cs => go mem cs
  | .s none _ => true
  | .s (some r) _ => (aget mem r).isSome
  | .nil => true
  | .p j _ => (aget mem j).isSome
  | .sb j _ _ _ => (aget mem j).isSome
  | .q _ => true
  | .f _ xs ys => go mem xs && go mem ys
  | .i _ v => v.refs mem
  | .w j _ _ _ _ => (aget mem j).isSome
  | .pw j _ _ => (aget mem j).isSome
  | .mp j => (aget mem j).isSome
  | .y j => (aget mem j).isSome
where go (mem : Mem) : List V → Bool
  | [] => true
  | v :: r => v.refs mem && go mem r
def refsE (mem : Mem) : Env → Bool
  | [] => true
  | (_, v) :: r => v.refs mem && refsE mem r
def refsM (mem : Mem) : Mem → Bool
  | [] => true
  | (_, .b cs) :: r => V.refs.go mem cs && refsM mem r
  | _ :: r => refsM mem r
theorem refs_go {mem : Mem} {cs : List V} (h : V.refs.go mem cs = true) : ∀ u ∈ cs, u.refs mem = true := by
  induction cs with
  | nil => simp
  | cons x r ih =>
    simp only [V.refs.go, Bool.and_eq_true] at h
    intro u hu
    rcases List.mem_cons.1 hu with rfl | hu
    · exact h.1
    · exact ih h.2 u hu
theorem refs_of_all {mem : Mem} {cs : List V} (h : ∀ u ∈ cs, u.refs mem = true) : V.refs.go mem cs = true := by
  induction cs with
  | nil => rfl
  | cons x r ih => simp only [V.refs.go, Bool.and_eq_true]; exact ⟨h x (by simp), ih fun u hu => h u (by simp [hu])⟩

/-- The ghost without what is no more in the list. -/
def Gh.only (g : Gh) (mem : Mem) : Gh := ⟨g.S, fun i => if (aget mem i).isSome then g.bx i else none, fun i => if (aget mem i).isSome then g.rw i else none⟩
theorem Rep.only {g : Gh} {w : World} {v : V} {x : Value} (h : Rep w g v x) (hv : v.refs mem = true) : Rep w (g.only mem) v x := by
  induction h with
  | k v => exact .k v
  | a hl h1 _ ih => exact .a hl h1 fun j u x h h' => ih j u x h h' (refs_go (by simpa [V.refs] using hv) u (List.mem_of_getElem? h))
  | t hl _ ih => exact .t hl fun j u x h h' => ih j u x h h' (refs_go (by simpa [V.refs] using hv) u (List.mem_of_getElem? h))
  | nil => exact .nil
  | se a ht =>
    refine .se a fun r hr => ?_
    subst hr
    obtain ⟨a, l, c, h1, h2⟩ := ht r rfl
    exact ⟨a, l, c, by simp only [Gh.only]; rw [if_pos (by simpa [V.refs] using hv)]; exact h1, h2⟩
  | s0 ht =>
    refine .s0 fun r hr => ?_
    subst hr
    obtain ⟨a, l, c, h1, h2⟩ := ht r rfl
    exact ⟨a, l, c, by simp only [Gh.only]; rw [if_pos (by simpa [V.refs] using hv)]; exact h1, h2⟩
  | s xs hn hm hp hs hx hc ht _ =>
    refine .s xs hn hm hp hs hx hc fun r hr => ?_
    subst hr
    obtain ⟨a, l, c, h1, h2⟩ := ht r rfl
    exact ⟨a, l, c, by simp only [Gh.only]; rw [if_pos (by simpa [V.refs] using hv)]; exact h1, h2⟩
  | p h => exact .p (by simp only [Gh.only]; rw [if_pos (by simpa [V.refs] using hv)]; exact h)
  | sb h => exact .sb (by simp only [Gh.only]; rw [if_pos (by simpa [V.refs] using hv)]; exact h)
  | q xs h1 hx hc _ => exact .q xs h1 hx hc
  | f h1 h2 _ _ ih1 ih2 =>
    simp only [V.refs, Bool.and_eq_true] at hv
    exact .f h1 h2 (fun j u x h h' => ih1 j u x h h' (refs_go hv.1 u (List.mem_of_getElem? h))) (fun j u x h h' => ih2 j u x h h' (refs_go hv.2 u (List.mem_of_getElem? h)))
  | i _ ih => exact .i (ih (by simpa [V.refs] using hv))
  | w h =>
    obtain ⟨a, l, c, h1, h2⟩ := h
    exact .w ⟨a, l, c, by simp only [Gh.only]; rw [if_pos (by simpa [V.refs] using hv)]; exact h1, h2⟩
  | pw h =>
    obtain ⟨a, l, c, h1, h2⟩ := h
    exact .pw ⟨a, l, c, by simp only [Gh.only]; rw [if_pos (by simpa [V.refs] using hv)]; exact h1, h2⟩
  | mp h => exact .mp (by simp only [Gh.only]; rw [if_pos (by simpa [V.refs] using hv)]; exact h)
  | y h => exact .y (by simp only [Gh.only]; rw [if_pos (by simpa [V.refs] using hv)]; exact h)
theorem refsM_get {mem0 mem' : Mem} (h : refsM mem0 mem' = true) {i : Nat} {cs : List V} (hi : aget mem' i = some (.b cs)) : V.refs.go mem0 cs = true := by
  induction mem' with
  | nil => cases hi
  | cons x r ih =>
    obtain ⟨n, m⟩ := x
    rw [aget_cons] at hi
    split at hi
    · cases hi
      simp only [refsM, Bool.and_eq_true] at h
      exact h.1
    · refine ih ?_ hi
      cases m with
      | b ds => simp only [refsM, Bool.and_eq_true] at h; exact h.2
      | _ => simpa [refsM] using h
theorem refsE_get {env' : Env} (h : refsE mem env' = true) {t : Nat} {v : V} (ht : aget env' t = some v) : v.refs mem = true := by
  induction env' with
  | nil => cases ht
  | cons x r ih =>
    obtain ⟨n, m⟩ := x
    simp only [refsE, Bool.and_eq_true] at h
    rw [aget_cons] at ht
    split at ht
    · cases ht; exact h.1
    · exact ih h.2 ht

/-- Less is known: a shorter list of slots, a shorter list of boxes and rows; what is lent stays in it. -/
structure Sub (env : Env) (mem : Mem) (env' : Env) (mem' : Mem) : Prop where
  e : SubE env env'
  m : SubM mem mem'
  r : (refsE mem' env' && (refsM mem' mem' && mem.all fun x => Nat.blt x.1 1000 || (aget mem' x.1).isSome)) = true
theorem only_at {g : Gh} {mem : Mem} {i : Nat} {m : M} (hi : aget mem i = some m) : (g.only mem).bx i = g.bx i ∧ (g.only mem).rw i = g.rw i := by simp [Gh.only, hi]
theorem ObjAt.only {g : Gh} {w : World} {mem : Mem} {i : Nat} {m : M} (h : ObjAt g w i m) (hi : aget mem i = some m) (hR : refsM mem mem = true) : ObjAt (g.only mem) w i m := by
  obtain ⟨e1, e2⟩ := only_at (g := g) hi
  cases h with
  | b hg hb h => exact .b (e1.trans hg) hb ⟨h.one, fun j u hj => by
      obtain ⟨a1, a3, x, a4, a5⟩ := h.at_ j u hj
      exact ⟨a1, a3, x, a4, a5.only (refs_go (refsM_get hR hi) u (List.mem_of_getElem? hj))⟩⟩
  | r hg h => exact .r (e2.trans hg) ⟨h.pos, h.own, h.free⟩
  | w hg h => exact .w (e2.trans hg) ⟨h.pos, h.cells, h.own, h.free⟩
  | m hg h => exact .m (e1.trans hg) ⟨h.own, h.free⟩
  | o hg h hS => exact .o (e1.trans hg) h hS
  | x => exact .x
theorem RelM.sub {F' : Fr0} {g : Gh} {w : World} {mem mem' : Mem} (h : RelM F g mem w) (hM : ∀ i m, aget mem' i = some m → aget mem i = some m) (hR : refsM mem' mem' = true) (hL : LocOk F' (g.only mem')) (hw : ∀ i m b o, aget mem' i = some m → fp g i m b o → F'.wr b o) : RelM F' (g.only mem') mem' w :=
  ⟨fun i m hi => (h.ob i m (hM i m hi)).only hi hR, fun i m b o hi hp => hw i m b o hi ((fp_congr (only_at hi).1 (only_at hi).2).1 hp),
    fun i j m n b o hij hi hj hp hq => h.dj i j m n b o hij (hM _ _ hi) (hM _ _ hj) ((fp_congr (only_at hi).1 (only_at hi).2).1 hp) ((fp_congr (only_at hj).1 (only_at hj).2).1 hq),
    fun i hi => by simp [Gh.only, hi], fun i hi => by simp [Gh.only, hi], h.fut, hL⟩
theorem loc_only {F : Fr0} {g : Gh} {mem mem' : Mem} (h : LocOk F g) (hb : F.Big) (h1 : ∀ i, aget mem i = none → g.bx i = none) (h2 : ∀ i, aget mem i = none → g.rw i = none) (hk : (mem.all fun x => Nat.blt x.1 1000 || (aget mem' x.1).isSome) = true) : LocOk F (g.only mem') := by
  have key : ∀ i, 1000 ≤ i → aget mem i ≠ none → (aget mem' i).isSome = true := fun i hi hn => by
    obtain ⟨m, hm⟩ := Option.ne_none_iff_exists'.1 hn
    have := List.all_eq_true.1 hk _ (aget_mem hm)
    simp only [Bool.or_eq_true] at this
    rcases this with h | h
    · have := Nat.le_of_ble_eq_true h; omega
    · exact h
  refine ⟨fun i z hz => ?_, fun i a l c hr => ?_⟩
  · have hi : 1000 ≤ i := Nat.le_of_not_lt fun hlt => by rw [(hb i hlt).1] at hz; cases hz
    have hg := h.bx i z hz
    have := key i hi fun e => by rw [h1 i e] at hg; cases hg
    simp only [Gh.only]; rw [if_pos this]; exact hg
  · have hi : 1000 ≤ i := Nat.le_of_not_lt fun hlt => by rw [(hb i hlt).2] at hr; cases hr
    obtain ⟨a', l', c', k1, k2⟩ := h.rw i a l c hr
    have := key i hi fun e => by rw [h2 i e] at k1; cases k1
    exact ⟨a', l', c', by simp only [Gh.only]; rw [if_pos this]; exact k1, k2⟩
theorem Rel.sub {g : Gh} {a : Act} {w : World} {env' : Env} {mem' : Mem} (h : Rel F N g env mem a w) (hs : Sub env mem env' mem') : Rel F N (g.only mem') env' mem' a w := by
  obtain ⟨hE, hM, hR⟩ := hs
  simp only [Bool.and_eq_true] at hR
  refine ⟨fun t v ht => ?_, h.mem.sub (fun i m hi => hM.get hi) hR.2.1 (loc_only h.mem.loc h.big h.mem.nbx h.mem.nrw hR.2.2) fun i m b o hi hp => h.mem.wr i m b o (hM.get hi) hp, ⟨h.kept.os, h.kept.tape, h.kept.output, h.kept.size, h.kept.blk, h.kept.cell, h.kept.S1, h.kept.S2, h.kept.cellS⟩, h.defers, h.size, h.big⟩
  obtain ⟨x, h1, h2⟩ := h.env t v (hE.get ht)
  exact ⟨x, h1, h2.only (refsE_get hR.1 ht)⟩

theorem LC.weak {c : Code} {env' : Env} {mem' : Mem} (hs : Sub env mem env' mem') (h : LC P F N c Q env' mem') : LC P F N c Q env mem := ⟨fun _ a w hr => h.go _ a w (hr.sub hs)⟩
theorem LS.weak {ops : Array Oper} {l : List Oper} {env' : Env} {mem' : Mem} (hs : Sub env mem env' mem') (h : LS P F N ops l Q env' mem') : LS P F N ops l Q env mem := ⟨fun _ a w hr => h.go _ a w (hr.sub hs)⟩

/-- A loop: what holds of the slots and the boxes at every round's head, by a ghost of one's own that a measure lowers. -/
theorem LC.loop {α : Type} {c : Code} (I : α → Env) (J : α → Mem) (ok : α → Prop) (μ : α → Nat) (x0 : α) (h0 : ok x0) (hs : Sub env mem (I x0) (J x0))
    (round : ∀ x, ok x → LC P F N c (LThen (fun env' mem' => ∃ y, ok y ∧ μ y < μ x ∧ Sub env' mem' (I y) (J y)) Q) (I x) (J x)) : LC P F N (.loop c) Q env mem := by
  have key : ∀ n x, μ x = n → ok x → ∀ g a w, Rel F N g (I x) (J x) a w → ∀ (b : Frame) (k : List Item) (cs : List Frame),
      ∃ e a' w', liftQ F N Q e a' w' ∧ Arrives P (lone (b.at a (.code c :: .inLoop c :: k)) cs w) b k cs e a' w' := by
    intro n
    induction n using Nat.strongRecOn with
    | _ n ih =>
      intro x hn hx g a w hr b k cs
      obtain ⟨e, a1, w1, hq, harr⟩ := (round x hx).go g a w hr b (.inLoop c :: k) cs
      obtain ⟨en, me, g1, le, h1, h3, h2⟩ := hq
      cases le with
      | normal =>
        cases h3
        obtain ⟨y, hy, hlt, hsub⟩ := h2
        obtain ⟨e2, a2, w2, hq2, harr2⟩ := ih (μ y) (hn ▸ hlt) y rfl hy _ a1 w1 (h1.sub hsub) b k cs
        exact ⟨e2, a2, w2, hq2, .of_steps (Steps.trans harr (.one step_inLoop)) harr2⟩
      | exit id => cases h3; exact ⟨_, a1, w1, ⟨en, me, g1, .exit id, h1, rfl, h2⟩, .pass (x := .inLoop c) rfl (fun _ _ => .inl (by simp)) harr⟩
      | goto l => cases h3; exact ⟨_, a1, w1, ⟨en, me, g1, .goto l, h1, rfl, h2⟩, .pass (x := .inLoop c) rfl (fun _ _ => .inl (by simp)) harr⟩
      | ret => cases h3; exact ⟨_, a1, w1, ⟨en, me, g1, .ret, h1, rfl, h2⟩, .pass (x := .inLoop c) rfl (fun _ _ => .inl (by simp)) harr⟩
      | pan v => obtain ⟨x, rfl, hx⟩ := h3; exact ⟨_, a1, w1, ⟨en, me, g1, .pan v, h1, ⟨x, rfl, hx⟩, h2⟩, .pass (x := .inLoop c) rfl (fun _ _ => .inl (by simp)) harr⟩
  refine ⟨fun g a w hr b k cs => ?_⟩
  obtain ⟨e, a', w', hq, harr⟩ := key _ x0 rfl h0 _ a w (hr.sub hs) b k cs
  exact ⟨e, a', w', hq, .of_steps (.one step_loop) harr⟩

/-! ### Contracts -/
def callOk (P : Program) (f : Nat) : Bool :=
  match P.funcs[f]? with
  | some fn => !(fn.name == "runtime.NumGoroutine") && fn.body.isSome
  | none => false

/-- What a call comes to: a value, or a panic. -/
inductive Out where
  | ret (v : V)
  | pan (v : V)
def Out.At (w : World) (g : Gh) : Out → Ending → Prop
  | .ret v, e => ∃ x, e = .returned x ∧ Rep w g v x
  | .pan v, e => ∃ x, e = .panicked [{ v := x, recovered := false }] ∧ Rep w g v x
/-- The frame of a call that may write what is lent to it, and nothing else. -/
def lentF (g : Gh) (mi : Mem) (w : World) : Fr0 := ⟨w, g.S, fun b o => ∃ i m, aget mi i = some m ∧ fp g i m b o, g.bx, g.rw, []⟩
/-- The contract of a call to which some memory is lent: what it comes to, and what the memory is behind it. -/
structure LM (P : Program) (f : Nat) (args : List V) (mi : Mem) (R : Out → Mem → Prop) : Prop where
  ok : callOk P f = true
  go : ∀ (g : Gh) (w : World) (vals : Array Value), RelM (lentF g mi w) g mi w → args.length = vals.size → (∀ (j : Nat) u x, args[j]? = some u → vals[j]? = some x → Rep w g u x) →
    Calls P f vals w fun e w' => ∃ o mo g', R o mo ∧ Ev g w g' w' ∧ RelM (lentF g mi w) g' mo w' ∧ Kept (lentF g mi w) g' w' ∧ o.At w' g' e
theorem LM.mono {f : Nat} {args : List V} {mi : Mem} {R R' : Out → Mem → Prop} (h : LM P f args mi R) (hR : ∀ o m, R o m → R' o m) : LM P f args mi R' :=
  ⟨h.ok, fun g w vals h1 h2 h3 => Calls.mono (h.go g w vals h1 h2 h3) fun _ _ ⟨o, mo, g', k, r⟩ => ⟨o, mo, g', hR _ _ k, r⟩⟩
/-- The contract of a call to which nothing is lent, and which leaves nothing but its result. -/
abbrev LF (P : Program) (f : Nat) (args : List V) (out : Option Nat → V) (_row : Option (Nat × Nat × Nat)) : Prop := LM P f args [] fun o m => o = .ret (out none) ∧ m = []
end
end Lf
end Go.Proofs.Ytgeccggkdgpkiaa

/- The lifted walk: code over the lifted state; contracts of functions; calls; loops. -/
import Derived.Test.YtpecjhjpdaifoaaLop3
import Derived.Scope
namespace Go.Proofs.Ytpecjhjpdaifoaa
open Go.RowKit Rg
namespace Lf

abbrev LQ := Exit → Env → Mem → Prop
def liftQ (F : Fr0) (N : Nat) (Q : LQ) : Exit → Act → World → Prop := fun e a w => ∃ env mem g, Rel F N g env mem a w ∧ Q e env mem
structure LC (P : Program) (F : Fr0) (N : Nat) (c : Code) (Q : LQ) (env : Env) (mem : Mem) : Prop where
  go : ∀ g a w, Rel F N g env mem a w → c.wp P (liftQ F N Q) a w
structure LS (P : Program) (F : Fr0) (N : Nat) (ops : Array Oper) (l : List Oper) (Q : LQ) (env : Env) (mem : Mem) : Prop where
  go : ∀ g a w, Rel F N g env mem a w → wpList P ops (liftQ F N Q) l a w
def LThen (next : Env → Mem → Prop) (Q : LQ) : LQ
  | .normal, env, mem => next env mem
  | e, env, mem => Q e env mem
def LBlk (id : Nat) (Q : LQ) : LQ
  | .exit id', env, mem => cond (Nat.beq id' id) (Q .normal env mem) (Q (.exit id') env mem)
  | e, env, mem => Q e env mem
def LNoGoto (Q : LQ) : LQ
  | .goto _, _, _ => False
  | e, env, mem => Q e env mem

def bind (d : Option Nat) (v : V) (env : Env) : Env :=
  match d with
  | some d => (d, v) :: env
  | none => env
def dok (d : Option Nat) (N : Nat) : Bool :=
  match d with
  | some d => Nat.blt d N
  | none => true

/-- Is the operation wanted, by the lifted slots? -/
def gd (ops : Array Oper) (env : Env) (o : Oper) : Option Bool :=
  match o.guard with
  | none => some true
  | some (j, want) =>
    match (ops[j]?).bind (·.dst) with
    | some d =>
      match aget env d with
      | some (.k (.bool b)) => some (b == want)
      | some (.k (.tuple _)) => some false
      | _ => none
    | none => none
theorem gd_wanted {F : Fr0} {N : Nat} {g : Gh} {env : Env} {mem : Mem} {a : Act} {w : World} {ops : Array Oper} {o : Oper} {b : Bool} (h : Rel F N g env mem a w) (hg : gd ops env o = some b) : Region.wanted o (yielded ops a.tmps) = b := by
  unfold gd at hg
  unfold Region.wanted
  split at hg
  · rename_i hn; rw [hn]; cases hg; rfl
  · rename_i j want hn
    rw [hn]
    simp only
    unfold yielded
    split at hg
    · rename_i d hd
      rw [hd]
      simp only [Option.bind_some]
      split at hg
      · rename_i c hc
        cases hg
        obtain ⟨x, h1, h2⟩ := h.env d _ hc
        rw [h1, rep_k h2]
        cases c <;> cases want <;> rfl
      · rename_i c hc
        cases hg
        obtain ⟨x, h1, h2⟩ := h.env d _ hc
        rw [h1, rep_k h2]
        rfl
      · cases hg
    · cases hg

section
variable {P : Program} {F : Fr0} {N : Nat} {Q : LQ} {env : Env} {mem : Mem}

theorem LC.mono {c : Code} {Q' : LQ} (h : LC P F N c Q env mem) (hq : ∀ e env mem, Q e env mem → Q' e env mem) : LC P F N c Q' env mem := ⟨fun g a w hr =>
  wp_mono (h.go g a w hr) fun _ _ _ ⟨en, me, g', h1, h2⟩ => ⟨en, me, g', h1, hq _ _ _ h2⟩⟩
theorem LC.skip (h : Q .normal env mem) : LC P F N .skip Q env mem := ⟨fun g _ _ hr => wp_skip ⟨env, mem, g, hr, h⟩⟩
theorem LC.label {l : Nat} (h : Q .normal env mem) : LC P F N (.label l) Q env mem := ⟨fun g _ _ hr => wp_label ⟨env, mem, g, hr, h⟩⟩
theorem LC.exit {id : Nat} (h : Q (.exit id) env mem) : LC P F N (.exit id) Q env mem := ⟨fun g _ _ hr => wp_exit ⟨env, mem, g, hr, h⟩⟩
theorem LC.ret (h : Q .ret env mem) : LC P F N .ret Q env mem := ⟨fun g _ _ hr => wp_ret ⟨env, mem, g, hr, h⟩⟩
theorem LC.seq {x y : Code} (h : LC P F N x (LThen (fun env mem => LC P F N y Q env mem) Q) env mem) : LC P F N (.seq x y) Q env mem := ⟨fun g a w hr =>
  wp_seq (wp_mono (h.go g a w hr) fun e a' w' ⟨en, me, g', h1, h2⟩ => by
    cases e with
    | normal => exact LC.go h2 g' a' w' h1
    | _ => exact ⟨en, me, g', h1, h2⟩)⟩
theorem LC.cond {c : Operand} {x y : Code} {b : Bool} (hc : evo env c = some (.k (.bool b))) (h1 : b = true → LC P F N x Q env mem) (h2 : b = false → LC P F N y Q env mem) : LC P F N (.cond c x y) Q env mem := ⟨fun g a w hr =>
  wp_cond_split (rep_k (hr.evo hc)) (fun hb => (h1 hb).go g a w hr) (fun hb => (h2 hb).go g a w hr)⟩
theorem LC.condT {c : Operand} {x y : Code} (hc : evo env c = some (.k (.bool true))) (h1 : LC P F N x Q env mem) : LC P F N (.cond c x y) Q env mem := .cond hc (fun _ => h1) (fun h => by cases h)
theorem LC.condF {c : Operand} {x y : Code} (hc : evo env c = some (.k (.bool false))) (h1 : LC P F N y Q env mem) : LC P F N (.cond c x y) Q env mem := .cond hc (fun h => by cases h) (fun _ => h1)
theorem LC.block {id : Nat} {c : Code} (h : LC P F N c (LBlk id Q) env mem) : LC P F N (.block id c) Q env mem := ⟨fun g a w hr =>
  wp_block (wp_mono (h.go g a w hr) fun e a' w' ⟨en, me, g', h1, h2⟩ => by
    cases e with
    | exit id' =>
      simp only [LBlk] at h2
      simp only [Exit.inBlock]
      cases hb : Nat.beq id' id
      · rw [hb] at h2
        have : ¬ id' = id := fun e => by subst e; rw [Nat.beq_refl] at hb; cases hb
        rw [if_neg this]
        exact ⟨en, me, g', h1, h2⟩
      · rw [hb] at h2
        rw [if_pos (Nat.eq_of_beq_eq_true hb)]
        exact ⟨en, me, g', h1, h2⟩
    | _ => exact ⟨en, me, g', h1, h2⟩)⟩
theorem LC.scope {c : Code} (h : LC P F N c (LNoGoto Q) env mem) : LC P F N (.scope c) Q env mem := ⟨fun g a w hr =>
  wp_scope_straight (wp_mono (h.go g a w hr) fun e a' w' ⟨en, me, g', h1, h2⟩ => by
    cases e with
    | goto l => exact h2.elim
    | _ => exact ⟨en, me, g', h1, h2⟩)⟩

theorem LC.region {id : Nat} {l : List Oper} (h : LS P F N l.toArray l Q env mem) : LC P F N (.region id l.toArray false) Q env mem := ⟨fun g a w hr => wp_region_lit (h.go g a w hr)⟩
theorem LS.nil {ops : Array Oper} (h : Q .normal env mem) : LS P F N ops [] Q env mem := ⟨fun g _ _ hr => ⟨env, mem, g, hr, h⟩⟩

theorem Rel.put {g g' : Gh} {a : Act} {w w' : World} {mem' : Mem} {d : Option Nat} {v : V} {x : Value} (h : Rel F N g env mem a w) (he : Ev g w g' w') (hm : RelM F g' mem' w') (hk : Kept F g' w') (hr : Rep w' g' v x) (hd : dok d N = true) : Rel F N g' (bind d v env) mem' (a.put d x) w' := by
  cases d with
  | none =>
    exact ⟨fun t u hu => by obtain ⟨y, h1, h2⟩ := h.env t u hu; exact ⟨y, h1, h2.mono he⟩, hm, hk, h.defers, h.size⟩
  | some d =>
    have hdN : d < N := Nat.le_of_ble_eq_true hd
    refine ⟨fun t u hu => ?_, hm, hk, h.defers, by simp [Act.put, h.size]⟩
    simp only [bind, aget_cons] at hu
    split at hu
    · rename_i e; subst e; cases hu
      exact ⟨x, by simp [Act.put, h.size, hdN], hr⟩
    · rename_i e
      obtain ⟨y, h1, h2⟩ := h.env t u hu
      exact ⟨y, by simp only [Act.put]; rw [Array.getElem?_setIfInBounds_ne e]; exact h1, h2.mono he⟩

theorem Does.run {o : Oper} {v : V} {t : Tch} (h : Does P o env v t) {g : Gh} {a : Act} {w : World} (hr : Rel F N g env mem a w) (ht : tpre t mem) (hd : dok o.dst N = true) {K : Act → World → Prop} {Q' : Exit → Act → World → Prop}
    (hK : ∀ g' a' w', Rel F N g' (bind o.dst v env) (tset t mem) a' w' → K a' w') : o.wp P a w K Q' :=
  h.ex F g a w mem (fun _ _ _ hu => hr.evo hu) hr.mem hr.kept ht hr.defers K Q' fun _ _ _ he hm hk hx => hK _ _ _ (hr.put he hm hk hx hd)

/-- One operation that is wanted; one that is not. -/
theorem LS.step {ops : Array Oper} {o : Oper} {r : List Oper} {v : V} {t : Tch} (hg : gd ops env o = some true) (h : Does P o env v t) (ht : tpre t mem) (hd : dok o.dst N = true) (hK : LS P F N ops r Q (bind o.dst v env) (tset t mem)) : LS P F N ops (o :: r) Q env mem := ⟨fun g a w hr =>
  wpList_step fun _ hK' => by
    rw [gd_wanted hr hg, if_pos rfl]
    exact h.run hr ht hd fun g' a' w' hr' => hK' a' w' (hK.go g' a' w' hr')⟩
theorem LS.pass {ops : Array Oper} {o : Oper} {r : List Oper} (hg : gd ops env o = some false) (hd : dok o.dst N = true) (hK : LS P F N ops r Q (bind o.dst (.k undef) env) mem) : LS P F N ops (o :: r) Q env mem := ⟨fun g a w hr =>
  wpList_step fun _ hK' => by
    rw [gd_wanted hr hg]
    exact hK' _ _ (hK.go g _ w (hr.put (Ev.refl g w) hr.mem hr.kept (.k undef) hd))⟩
theorem tpre_nil : tpre [] mem := fun _ _ _ h => by cases h
theorem tpre_one {i : Nat} {m m' : Option M} (h : aget mem i = m) : tpre [(i, m, m')] mem := fun j n n' hj => by
  rw [List.mem_singleton] at hj; cases hj; exact h
theorem tpre_two {i i2 : Nat} {m m' n n' : Option M} (h : aget mem i = m) (h2 : aget mem i2 = n) : tpre [(i, m, m'), (i2, n, n')] mem := fun j _ _ hj => by
  simp only [List.mem_cons, List.not_mem_nil, or_false] at hj
  rcases hj with hj | hj <;> cases hj
  · exact h
  · exact h2

/-! ### Less is known -/
def SubE (env : Env) : Env → Prop
  | [] => True
  | (t, v) :: r => aget env t = some v ∧ SubE env r
def SubM (mem : Mem) : Mem → Prop
  | [] => True
  | (i, m) :: r => aget mem i = some m ∧ SubM mem r
theorem SubE.get {env' : Env} (h : SubE env env') {t : Nat} {v : V} (ht : aget env' t = some v) : aget env t = some v := by
  induction env' with
  | nil => cases ht
  | cons x r ih =>
    obtain ⟨n, u⟩ := x
    rw [aget_cons] at ht
    split at ht
    · rename_i e; subst e; cases ht; exact h.1
    · exact ih h.2 ht
theorem SubM.get {mem' : Mem} (h : SubM mem mem') {t : Nat} {v : M} (ht : aget mem' t = some v) : aget mem t = some v := by
  induction mem' with
  | nil => cases ht
  | cons x r ih =>
    obtain ⟨n, u⟩ := x
    rw [aget_cons] at ht
    split at ht
    · rename_i e; subst e; cases ht; exact h.1
    · exact ih h.2 ht
/-- The value names no box and no row but those of the list. -/
def V.refs (mem : Mem) : V → Bool
  | .k _ => true
  | .a cs => go mem cs
  | .t cs => go mem cs
  | .s none _ => true
  | .s (some r) _ => (aget mem r).isSome
  | .nil => true
  | .p j _ => (aget mem j).isSome
  | .sb j _ _ _ => (aget mem j).isSome
  | .q _ => true
  | .f _ xs ys => go mem xs && go mem ys
  | .i _ v => v.refs mem
where go (mem : Mem) : List V → Bool
  | [] => true
  | v :: r => v.refs mem && go mem r
def refsE (mem : Mem) : Env → Bool
  | [] => true
  | (_, v) :: r => v.refs mem && refsE mem r
def refsM (mem : Mem) : Mem → Bool
  | [] => true
  | (_, .b cs) :: r => V.refs.go mem cs && refsM mem r
  | _ :: r => refsM mem r
theorem refs_go {mem : Mem} {cs : List V} (h : V.refs.go mem cs = true) : ∀ u ∈ cs, u.refs mem = true := by
  induction cs with
  | nil => simp
  | cons x r ih =>
    simp only [V.refs.go, Bool.and_eq_true] at h
    intro u hu
    rcases List.mem_cons.1 hu with rfl | hu
    · exact h.1
    · exact ih h.2 u hu
theorem refs_of_all {mem : Mem} {cs : List V} (h : ∀ u ∈ cs, u.refs mem = true) : V.refs.go mem cs = true := by
  induction cs with
  | nil => rfl
  | cons x r ih => simp only [V.refs.go, Bool.and_eq_true]; exact ⟨h x (by simp), ih fun u hu => h u (by simp [hu])⟩

/-- The ghost without what is no more in the list. -/
def Gh.only (g : Gh) (mem : Mem) : Gh := ⟨g.S, fun i => if (aget mem i).isSome then g.bx i else none, fun i => if (aget mem i).isSome then g.rw i else none⟩
theorem Rep.only {g : Gh} {w : World} {v : V} {x : Value} (h : Rep w g v x) (hv : v.refs mem = true) : Rep w (g.only mem) v x := by
  induction h with
  | k v => exact .k v
  | a hl h1 _ ih => exact .a hl h1 fun j u x h h' => ih j u x h h' (refs_go (by simpa [V.refs] using hv) u (List.mem_of_getElem? h))
  | t hl _ ih => exact .t hl fun j u x h h' => ih j u x h h' (refs_go (by simpa [V.refs] using hv) u (List.mem_of_getElem? h))
  | nil => exact .nil
  | s0 ht =>
    refine .s0 fun r hr => ?_
    subst hr
    obtain ⟨a, l, c, h1, h2⟩ := ht r rfl
    exact ⟨a, l, c, by simp only [Gh.only]; rw [if_pos (by simpa [V.refs] using hv)]; exact h1, h2⟩
  | s xs hn hm hp hs hx hc ht _ =>
    refine .s xs hn hm hp hs hx hc fun r hr => ?_
    subst hr
    obtain ⟨a, l, c, h1, h2⟩ := ht r rfl
    exact ⟨a, l, c, by simp only [Gh.only]; rw [if_pos (by simpa [V.refs] using hv)]; exact h1, h2⟩
  | p h => exact .p (by simp only [Gh.only]; rw [if_pos (by simpa [V.refs] using hv)]; exact h)
  | sb h => exact .sb (by simp only [Gh.only]; rw [if_pos (by simpa [V.refs] using hv)]; exact h)
  | q xs h1 hx hc _ => exact .q xs h1 hx hc
  | f h1 h2 _ _ ih1 ih2 =>
    simp only [V.refs, Bool.and_eq_true] at hv
    exact .f h1 h2 (fun j u x h h' => ih1 j u x h h' (refs_go hv.1 u (List.mem_of_getElem? h))) (fun j u x h h' => ih2 j u x h h' (refs_go hv.2 u (List.mem_of_getElem? h)))
  | i _ ih => exact .i (ih (by simpa [V.refs] using hv))
theorem refsM_get {mem0 mem' : Mem} (h : refsM mem0 mem' = true) {i : Nat} {cs : List V} (hi : aget mem' i = some (.b cs)) : V.refs.go mem0 cs = true := by
  induction mem' with
  | nil => cases hi
  | cons x r ih =>
    obtain ⟨n, m⟩ := x
    rw [aget_cons] at hi
    split at hi
    · cases hi
      simp only [refsM, Bool.and_eq_true] at h
      exact h.1
    · refine ih ?_ hi
      cases m with
      | b ds => simp only [refsM, Bool.and_eq_true] at h; exact h.2
      | r => simpa [refsM] using h
      | x => simpa [refsM] using h
theorem refsE_get {env' : Env} (h : refsE mem env' = true) {t : Nat} {v : V} (ht : aget env' t = some v) : v.refs mem = true := by
  induction env' with
  | nil => cases ht
  | cons x r ih =>
    obtain ⟨n, m⟩ := x
    simp only [refsE, Bool.and_eq_true] at h
    rw [aget_cons] at ht
    split at ht
    · cases ht; exact h.1
    · exact ih h.2 ht

/-- Less is known: a shorter list of slots, a shorter list of boxes and rows. -/
structure Sub (env : Env) (mem : Mem) (env' : Env) (mem' : Mem) : Prop where
  e : SubE env env'
  m : SubM mem mem'
  r : (refsE mem' env' && refsM mem' mem') = true
theorem Rel.sub {g : Gh} {a : Act} {w : World} {env' : Env} {mem' : Mem} (h : Rel F N g env mem a w) (hs : Sub env mem env' mem') : Rel F N (g.only mem') env' mem' a w := by
  obtain ⟨hE, hM, hR⟩ := hs
  simp only [Bool.and_eq_true] at hR
  have hb : ∀ i m, aget mem' i = some m → (g.only mem').bx i = g.bx i ∧ (g.only mem').rw i = g.rw i := fun i m hi => by simp [Gh.only, hi]
  refine ⟨fun t v ht => ?_, ⟨fun i cs hi => ?_, fun i E sz n hi => ?_, fun i j cs ds b o1 o2 hij hi hj h1 h2 => ?_, fun i j cs E sz n b o1 b' l c hi hj h1 h2 => ?_, fun i j E sz n E' sz' n' b l c b' l' c' hij hi hj h1 h2 => ?_, fun i hi => by simp [Gh.only, hi], fun i hi => by simp [Gh.only, hi], h.mem.fut⟩, h.kept.ghost rfl, h.defers, h.size⟩
  · obtain ⟨x, h1, h2⟩ := h.env t v (hE.get ht)
    exact ⟨x, h1, h2.only (refsE_get hR.1 ht)⟩
  · obtain ⟨b, off, h1, h2⟩ := h.mem.box i cs (hM.get hi)
    refine ⟨b, off, by rw [(hb i _ hi).1]; exact h1, h2.lt, h2.one, fun j u hj => ?_⟩
    obtain ⟨a1, a2, a3, x, a4, a5⟩ := h2.at_ j u hj
    exact ⟨a1, a2, a3, x, a4, a5.only (refs_go (refsM_get hR.2 hi) u (List.mem_of_getElem? hj))⟩
  · obtain ⟨a, c, h1, h2⟩ := h.mem.row i E sz n (hM.get hi)
    exact ⟨a, c, by rw [(hb i _ hi).2]; exact h1, h2.mono fun _ _ => ⟨rfl, fun _ hn => hn⟩⟩
  · rw [(hb i _ hi).1] at h1
    rw [(hb j _ hj).1] at h2
    exact h.mem.bb i j cs ds b o1 o2 hij (hM.get hi) (hM.get hj) h1 h2
  · rw [(hb i _ hi).1] at h1
    rw [(hb j _ hj).2] at h2
    exact h.mem.br i j cs E sz n b o1 b' l c (hM.get hi) (hM.get hj) h1 h2
  · rw [(hb i _ hi).2] at h1
    rw [(hb j _ hj).2] at h2
    exact h.mem.rr i j E sz n E' sz' n' b l c b' l' c' hij (hM.get hi) (hM.get hj) h1 h2

theorem LC.weak {c : Code} {env' : Env} {mem' : Mem} (hs : Sub env mem env' mem') (h : LC P F N c Q env' mem') : LC P F N c Q env mem := ⟨fun _ a w hr => h.go _ a w (hr.sub hs)⟩
theorem LS.weak {ops : Array Oper} {l : List Oper} {env' : Env} {mem' : Mem} (hs : Sub env mem env' mem') (h : LS P F N ops l Q env' mem') : LS P F N ops l Q env mem := ⟨fun _ a w hr => h.go _ a w (hr.sub hs)⟩

/-- A loop: what holds of the slots and the boxes at every round's head, by a ghost of one's own that a measure lowers. -/
theorem LC.loop {α : Type} {c : Code} (I : α → Env) (J : α → Mem) (ok : α → Prop) (μ : α → Nat) (x0 : α) (h0 : ok x0) (hs : Sub env mem (I x0) (J x0))
    (round : ∀ x, ok x → LC P F N c (LThen (fun env' mem' => ∃ y, ok y ∧ μ y < μ x ∧ Sub env' mem' (I y) (J y)) Q) (I x) (J x)) : LC P F N (.loop c) Q env mem := by
  have key : ∀ n x, μ x = n → ok x → ∀ g a w, Rel F N g (I x) (J x) a w → ∀ (b : Frame) (k : List Item) (cs : List Frame),
      ∃ e a' w', liftQ F N Q e a' w' ∧ Arrives P (lone (b.at a (.code c :: .inLoop c :: k)) cs w) b k cs e a' w' := by
    intro n
    induction n using Nat.strongRecOn with
    | _ n ih =>
      intro x hn hx g a w hr b k cs
      obtain ⟨e, a1, w1, hq, harr⟩ := (round x hx).go g a w hr b (.inLoop c :: k) cs
      obtain ⟨en, me, g1, h1, h2⟩ := hq
      cases e with
      | normal =>
        obtain ⟨y, hy, hlt, hsub⟩ := h2
        obtain ⟨e2, a2, w2, hq2, harr2⟩ := ih (μ y) (hn ▸ hlt) y rfl hy _ a1 w1 (h1.sub hsub) b k cs
        exact ⟨e2, a2, w2, hq2, .of_steps (Steps.trans harr (.one step_inLoop)) harr2⟩
      | exit id => exact ⟨_, a1, w1, ⟨en, me, g1, h1, h2⟩, .pass (x := .inLoop c) rfl (fun _ _ => .inl (by simp)) harr⟩
      | goto l => exact ⟨_, a1, w1, ⟨en, me, g1, h1, h2⟩, .pass (x := .inLoop c) rfl (fun _ _ => .inl (by simp)) harr⟩
      | ret => exact ⟨_, a1, w1, ⟨en, me, g1, h1, h2⟩, .pass (x := .inLoop c) rfl (fun _ _ => .inl (by simp)) harr⟩
      | panic ch => exact ⟨_, a1, w1, ⟨en, me, g1, h1, h2⟩, .pass (x := .inLoop c) rfl (fun _ _ => .inl (by simp)) harr⟩
      | outgrown => exact ⟨_, a1, w1, ⟨en, me, g1, h1, h2⟩, .pass (x := .inLoop c) rfl (fun _ _ => .inl (by simp)) harr⟩
  refine ⟨fun g a w hr b k cs => ?_⟩
  obtain ⟨e, a', w', hq, harr⟩ := key _ x0 rfl h0 _ a w (hr.sub hs) b k cs
  exact ⟨e, a', w', hq, .of_steps (.one step_loop) harr⟩

/-! ### Contracts -/
def callOk (P : Program) (f : Nat) : Bool :=
  match P.funcs[f]? with
  | some fn => !(fn.name == "runtime.NumGoroutine") && fn.body.isSome
  | none => false

/-- The value with the row r's number made o, others struck. -/
def V.retag (r : Nat) (o : Option Nat) : V → Option V
  | .k v => some (.k v)
  | .a cs => (go r o cs).map .a
  | .t cs => (go r o cs).map .t
  | .s (some r') es => some (.s (cond (Nat.beq r' r) o none) es)
  | .s none es => some (.s none es)
  | .nil => some .nil
  | .q cs => some (.q cs)
  | .f fn [] [] => some (.f fn [] [])
  | .i T v => (v.retag r o).map (.i T)
  | _ => none
where go (r : Nat) (o : Option Nat) : List V → Option (List V)
  | [] => some []
  | v :: vs => match v.retag r o, go r o vs with
    | some v', some vs' => some (v' :: vs')
    | _, _ => none
theorem retag_one {r : Nat} {o : Option Nat} {v v' : V} (h : v.retag r o = some v') : v'.one = v.one := by
  cases v <;> try simp only [V.retag] at h
  case k => cases h; rfl
  case a cs => obtain ⟨_, _, rfl⟩ := Option.map_eq_some_iff.1 h; rfl
  case t cs => obtain ⟨_, _, rfl⟩ := Option.map_eq_some_iff.1 h; rfl
  case s o es => cases o <;> simp only [V.retag] at h <;> cases h <;> rfl
  case nil => cases h; rfl
  case p => cases h
  case sb => cases h
  case q => cases h; rfl
  case f fn fi ca => cases fi <;> cases ca <;> simp [V.retag] at h; subst h; rfl
  case i => obtain ⟨_, _, rfl⟩ := Option.map_eq_some_iff.1 h; rfl
theorem retag_go {r : Nat} {o : Option Nat} {cs cs' : List V} (h : V.retag.go r o cs = some cs') : cs.length = cs'.length ∧ ∀ (j : Nat) (u' : V), cs'[j]? = some u' → ∃ u : V, cs[j]? = some u ∧ u.retag r o = some u' := by
  induction cs generalizing cs' with
  | nil => simp [V.retag.go] at h; subst h; simp
  | cons v s ih =>
    simp only [V.retag.go] at h
    split at h
    · rename_i v' r' hv hr
      cases h
      obtain ⟨h1, h2⟩ := ih hr
      refine ⟨by simp [h1], fun j u' hj => ?_⟩
      cases j with
      | zero => simp at hj; subst hj; exact ⟨v, by simp, hv⟩
      | succ j => simp at hj; obtain ⟨u, hu, hb⟩ := h2 j u' hj; exact ⟨u, by simpa using hu, hb⟩
    · cases h
def oneRow (S : Nat → Nat → Prop) (i : Nat) (z : Option Nat × Nat × Nat) : Gh := ⟨S, fun _ => none, fun j => if j = i then some z else none⟩
theorem Rep.retag {g : Gh} {w : World} {r i : Nat} {z : Option Nat × Nat × Nat} (hz : g.rw r = some z) {v : V} {x : Value} (h : Rep w g v x) : ∀ {v' : V}, v.retag r (some i) = some v' → Rep w (oneRow g.S i z) v' x := by
  induction h with
  | k v => intro v' hb; simp only [V.retag] at hb; cases hb; exact .k v
  | a hl h1 hc ih =>
    intro v' hb
    simp only [V.retag] at hb
    obtain ⟨cs', hg, rfl⟩ := Option.map_eq_some_iff.1 hb
    obtain ⟨e1, e2⟩ := retag_go hg
    refine .a (e1 ▸ hl) (fun u hu => ?_) (fun j u x hj hx => ?_)
    · obtain ⟨j, hj⟩ := List.getElem?_of_mem hu
      obtain ⟨u0, hu0, hb0⟩ := e2 j u hj
      rw [retag_one hb0]; exact h1 u0 (List.mem_of_getElem? hu0)
    · obtain ⟨u0, hu0, hb0⟩ := e2 j u hj
      exact ih j u0 x hu0 hx hz hb0
  | t hl hc ih =>
    intro v' hb
    simp only [V.retag] at hb
    obtain ⟨cs', hg, rfl⟩ := Option.map_eq_some_iff.1 hb
    obtain ⟨e1, e2⟩ := retag_go hg
    refine .t (e1 ▸ hl) (fun j u x hj hx => ?_)
    obtain ⟨u0, hu0, hb0⟩ := e2 j u hj
    exact ih j u0 x hu0 hx hz hb0
  | nil => intro v' hb; simp only [V.retag] at hb; cases hb; exact .nil
  | @s0 g o ht =>
    intro v' hb
    cases o with
    | none => simp only [V.retag] at hb; cases hb; exact .s0 (fun _ h => by cases h)
    | some r' =>
      simp only [V.retag] at hb; cases hb
      cases hrr : Nat.beq r' r
      · exact .s0 (fun _ h => by cases h)
      · obtain rfl := Nat.eq_of_beq_eq_true hrr
        refine .s0 fun k hk => ?_
        cases hk
        obtain ⟨a, l, c, h1, h2⟩ := ht r' rfl
        rw [hz] at h1; cases h1
        exact ⟨a, l, c, by simp [oneRow], h2⟩
  | @s g o es b off cap size xs hn hm hp hs hx hc ht ih =>
    intro v' hb
    cases o with
    | none => simp only [V.retag] at hb; cases hb; exact .s xs hn hm hp hs hx hc (fun _ h => by cases h)
    | some r' =>
      simp only [V.retag] at hb; cases hb
      cases hrr : Nat.beq r' r
      · exact .s xs hn hm hp hs hx hc (fun _ h => by cases h)
      · obtain rfl := Nat.eq_of_beq_eq_true hrr
        refine .s xs hn hm hp hs hx hc fun k hk => ?_
        cases hk
        obtain ⟨a, l, c, h1, h2⟩ := ht r' rfl
        rw [hz] at h1; cases h1
        exact ⟨a, l, c, by simp [oneRow], h2⟩
  | p h => intro v' hb; simp [V.retag] at hb
  | sb h => intro v' hb; simp [V.retag] at hb
  | q xs h1 hx hc ih => intro v' hb; simp only [V.retag] at hb; cases hb; exact .q xs h1 hx hc
  | @f g fn fi ca vs us h1 h2 hf hc ih1 ih2 =>
    intro v' hb
    cases fi <;> cases ca <;> simp [V.retag] at hb
    subst hb
    exact .f h1 h2 (fun j u x h => by simp at h) (fun j u x h => by simp at h)
  | i h ih =>
    intro v' hb
    simp only [V.retag] at hb
    obtain ⟨v1, h1, rfl⟩ := Option.map_eq_some_iff.1 hb
    exact .i (ih hz h1)

/-- What a call hands back: a value that names no box; or one with a row of its own. -/
def Ret (w w' : World) (S : Nat → Nat → Prop) (x : Value) (out : Option Nat → V) : Option (Nat × Nat × Nat) → Prop
  | none => ∃ S' : Nat → Nat → Prop, (∀ b o, b < w.heap.size → (S' b o ↔ S b o)) ∧ (∀ b o, w'.heap.size ≤ b → S' b o) ∧ Rep w' ⟨S', fun _ => none, fun _ => none⟩ (out none) x
  | some (E, sz, n) => ∃ S' : Nat → Nat → Prop, (∀ b o, b < w.heap.size → (S' b o ↔ S b o)) ∧ (∀ b o, w'.heap.size ≤ b → S' b o) ∧ ∃ a c, 0 < sz ∧ (∃ xs, w'.ownsRow 0 E sz (.slice (a.map fun b => ⟨b, 0, none⟩) n c) n xs) ∧
      (∀ b, a = some b → w.heap.size ≤ b ∧ ∀ o, n * sz ≤ o → ¬ S' b o) ∧ ∀ i, Rep w' (oneRow S' i (a, n, c)) (out (some i)) x

/-- The contract of a call that leaves all old memory as it was. -/
structure LFx (P : Program) (f : Nat) (args : List V) (R : (Option Nat → V) → Option (Nat × Nat × Nat) → Prop) : Prop where
  ok : callOk P f = true
  calls : ∀ (S : Nat → Nat → Prop) (w : World) (vals : Array Value), (∀ b o, w.heap.size ≤ b → S b o) → args.length = vals.size → (∀ (j : Nat) u x, args[j]? = some u → vals[j]? = some x → Rep w ⟨S, fun _ => none, fun _ => none⟩ u x) →
    Calls P f vals w fun e w' => ∃ x out row, e = .returned x ∧ R out row ∧ Ext w w' ∧ Ret w w' S x out row
/-- The same, where the result is known. -/
abbrev LF (P : Program) (f : Nat) (args : List V) (out : Option Nat → V) (row : Option (Nat × Nat × Nat)) : Prop := LFx P f args fun o r => o = out ∧ r = row
end
end Lf
end Go.Proofs.Ytpecjhjpdaifoaa
open Go.Proofs.Ytpecjhjpdaifoaa.Lf in
example : (V.a [.k (.bool true), .s (some 3) []]).bare = some (.a [.k (.bool true), .s none []]) := rfl
open Go.Proofs.Ytpecjhjpdaifoaa.Lf in
example : (V.t [.k (.bool true), .s (some 3) []]).retag 3 (some 7) = some (.t [.k (.bool true), .s (some 7) []]) := rfl

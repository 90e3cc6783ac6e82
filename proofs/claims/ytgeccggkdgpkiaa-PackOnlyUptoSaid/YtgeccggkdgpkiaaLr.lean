/- A region that draws its order: from the walk of one plan to every order. -/
import Derived.Test.YtgeccggkdgpkiaaLd
namespace Go.Proofs.Ytgeccggkdgpkiaa
open Go.RowKit Rg
namespace Lf
def pickI (l : List Oper) : List Nat → List (Nat × Oper)
  | [] => []
  | i :: r => (i, nth l i) :: pickI l r
def extOk (ops : Array Oper) : List Nat → List Nat → Bool
  | _, [] => true
  | done, i :: r => (match ops[i]? with | some o => o.after.toList.all fun e => !Region.binds .any e || done.contains e.on | none => false) && extOk ops (i :: done) r
def apOk (ops : Array Oper) (W : Array Nat) : List Nat → Bool
  | [] => true
  | i :: r => (r.all fun j => !Nat.beq i j && (waits W j i || (match ops[i]?, ops[j]? with | some a, some b => a.apart ops b | _, _ => false))) && apOk ops W r
def planOk (ops : Array Oper) (W : Array Nat) (plan : List Nat) : Bool := plan.all (fun i => Nat.blt i ops.size) && ((List.range ops.size).all (fun i => plan.contains i) && (extOk ops [] plan && (apOk ops W plan && Nat.beq plan.length ops.size)))
def chkT (W : Array Nat) : List (Nat × Tch) → Bool
  | [] => true
  | x :: r => (r.all fun y => compat x.2 y.2 || waits W y.1 x.1) && chkT W r

inductive DR (P : Program) (N : Nat) (ops : Array Oper) (chk : List (Nat × Tch) → Bool) (K : Env → Mem → Prop) : List (Nat × Oper) → List (Nat × Tch) → Env → Mem → Prop
  | nl {acc env mem} (hc : chk acc.reverse = true) (h : K env mem) : DR P N ops chk K [] acc env mem
  | run {i o r acc env mem v t} (hd : dok o.dst N = true) (hg : gd ops env o = some true) (h : Does P o env v t) (ht : tpre t mem) (hK : DR P N ops chk K r ((i, t) :: acc) (bind o.dst v env) (tset t mem)) : DR P N ops chk K ((i, o) :: r) acc env mem
  | pass {i o r acc env mem} (hd : dok o.dst N = true) (hg : gd ops env o = some false) (hK : DR P N ops chk K r ((i, []) :: acc) (bind o.dst (.k undef) env) mem) : DR P N ops chk K ((i, o) :: r) acc env mem

section
variable {P : Program} {N : Nat} {ops : Array Oper} {chk : List (Nat × Tch) → Bool}
theorem DR.script {K : Env → Mem → Prop} {l : List (Nat × Oper)} {acc : List (Nat × Tch)} {env : Env} {mem : Mem} (h : DR P N ops chk K l acc env mem) : (∀ x ∈ l, ops[x.1]? = some x.2) →
    ∃ its, SR P N ops its env mem ∧ its.map (·.i) = l.map (·.1) ∧ chk (acc.reverse ++ its.map fun x => (x.i, x.tt)) = true ∧ K (finE its env) (finM its mem) := by
  induction h with
  | nl hc h => exact fun _ => ⟨[], trivial, rfl, by simpa using hc, h⟩
  | @run i o r acc env mem v t hd hg hv ht _ ih =>
    intro hl
    have ho : ops[i]? = some o := hl (i, o) (by simp)
    obtain ⟨its, k1, k2, k3, k4⟩ := ih fun x hx => hl x (by simp [hx])
    exact ⟨⟨i, o, false, v, t⟩ :: its, ⟨⟨ho, hg, fun _ => ⟨hv, ht⟩, hd⟩, k1⟩, by simp [k2], by simpa [It.tt] using k3, k4⟩
  | @pass i o r acc env mem hd hg _ ih =>
    intro hl
    have ho : ops[i]? = some o := hl (i, o) (by simp)
    obtain ⟨its, k1, k2, k3, k4⟩ := ih fun x hx => hl x (by simp [hx])
    exact ⟨⟨i, o, true, .k undef, []⟩ :: its, ⟨⟨ho, hg, fun h => (by cases h), hd⟩, k1⟩, by simp [k2], by simpa [It.tt] using k3, k4⟩

theorem extOk_spec : ∀ {plan done : List Nat}, extOk ops done plan = true → ∀ pre i post, plan = pre ++ i :: post → ∀ o, ops[i]? = some o → ∀ e ∈ o.after, Region.binds .any e = true → e.on ∈ done ∨ e.on ∈ pre
  | [], _, _, pre, i, post, h, _, _, _, _, _ => by simp at h
  | j :: r, done, hx, [], i, post, h, o, ho, e, he, hb => by
    simp only [List.nil_append, List.cons.injEq] at h
    obtain ⟨rfl, rfl⟩ := h
    simp only [extOk, ho, Bool.and_eq_true, List.all_eq_true] at hx
    have := hx.1 e (by simpa using he)
    simp [hb] at this
    exact .inl this
  | j :: r, done, hx, k :: pre, i, post, h, o, ho, e, he, hb => by
    simp only [List.cons_append, List.cons.injEq] at h
    obtain ⟨rfl, h⟩ := h
    simp only [extOk, Bool.and_eq_true] at hx
    rcases extOk_spec hx.2 pre i post h o ho e he hb with h1 | h1
    · rcases List.mem_cons.1 h1 with h1 | h1
      · exact .inr (by simp [h1])
      · exact .inl h1
    · exact .inr (by simp [h1])
theorem apOk_spec {W : Array Nat} : ∀ {plan : List Nat}, apOk ops W plan = true → plan.Pairwise fun i j => i ≠ j ∧ (waits W j i = true ∨ ∃ a b, ops[i]? = some a ∧ ops[j]? = some b ∧ a.apart ops b = true)
  | [], _ => .nil
  | i :: r, h => by
    simp only [apOk, Bool.and_eq_true, List.all_eq_true] at h
    refine .cons (fun j hj => ?_) (apOk_spec h.2)
    have h1 := h.1 j hj
    simp only [Bool.not_eq_true', Bool.or_eq_true] at h1
    refine ⟨fun e => ?_, ?_⟩
    · subst e; rw [Nat.beq_refl] at h1; exact absurd h1.1 (by simp)
    · rcases h1.2 with h2 | h2
      · exact .inl h2
      · split at h2
        · rename_i a b ha hb; exact .inr ⟨a, b, ha, hb, h2⟩
        · cases h2
theorem chkT_spec {W : Array Nat} : ∀ {l : List (Nat × Tch)}, chkT W l = true → l.Pairwise fun x y => compat x.2 y.2 = true ∨ waits W y.1 x.1 = true
  | [], _ => .nil
  | x :: r, h => by
    simp only [chkT, Bool.and_eq_true, List.all_eq_true] at h
    exact .cons (fun y hy => by have := h.1 y hy; simpa using this) (chkT_spec h.2)

def enumI : Nat → List Oper → List (Nat × Oper)
  | _, [] => []
  | k, o :: r => (k, o) :: enumI (k + 1) r
theorem enumI_fst : ∀ (k : Nat) (l : List Oper), (enumI k l).map (·.1) = List.range' k l.length
  | _, [] => rfl
  | k, o :: r => by simp [enumI, enumI_fst (k + 1) r, List.range'_succ]
theorem enumI_mem : ∀ (k : Nat) (l : List Oper), ∀ x ∈ enumI k l, k ≤ x.1 ∧ l[x.1 - k]? = some x.2
  | _, [], x, h => by simp [enumI] at h
  | k, o :: r, x, h => by
    simp only [enumI, List.mem_cons] at h
    rcases h with rfl | h
    · simp
    · obtain ⟨h1, h2⟩ := enumI_mem (k + 1) r x h
      refine ⟨by omega, ?_⟩
      rw [show x.1 - k = (x.1 - (k + 1)) + 1 from by omega, List.getElem?_cons_succ]
      exact h2
theorem pickI_fst (l : List Oper) (plan : List Nat) : (pickI l plan).map (·.1) = plan := by
  induction plan with
  | nil => rfl
  | cons i r ih => simp [pickI, ih]
theorem pickI_mem {l : List Oper} {plan : List Nat} (h : ∀ i ∈ plan, i < l.length) : ∀ x ∈ pickI l plan, l.toArray[x.1]? = some x.2 := by
  induction plan with
  | nil => simp [pickI]
  | cons i r ih =>
    intro x hx
    simp only [pickI, List.mem_cons] at hx
    rcases hx with rfl | hx
    · have hi := h i (by simp)
      have : l[i]? = some l[i] := List.getElem?_eq_getElem hi
      rw [nth_of this]
      simp
    · exact ih (fun j hj => h j (by simp [hj])) x hx

theorem LC.drawG {F : Fr0} {Q : LQ} {env : Env} {mem : Mem} {id : Nat} {l : List Oper} (plan : List Nat) (pk : List (Nat × Oper)) (hpk : pk.map (·.1) = plan) (hpm : ∀ x ∈ pk, l.toArray[x.1]? = some x.2) (hm : P.follows .mixedOrders = true) (hB : (waitsB .any l.toArray (Region.before l.toArray) && planOk l.toArray (Region.before l.toArray) plan) = true)
    (h : DR P N l.toArray (chkT (Region.before l.toArray)) (fun env mem => Q .normal env mem) pk [] env mem) : LC P F N (.region id l.toArray true) Q env mem := by
  refine ⟨fun g a w hr => ?_⟩
  simp only [planOk, Bool.and_eq_true] at hB
  obtain ⟨hW, hlt, hall, hext, hap, hlen⟩ := hB
  have hlt' : ∀ i ∈ plan, i < l.length := fun i hi => by
    have h1 := Nat.le_of_ble_eq_true (List.all_eq_true.1 hlt i hi)
    simp at h1
    omega
  obtain ⟨its, k1, k2, k3, k4⟩ := DR.script h hpm
  rw [hpk] at k2
  have hat : ∀ (l' : List It) (env : Env) (mem : Mem), SR P N l.toArray l' env mem → ∀ x ∈ l', l.toArray[x.i]? = some x.o := by
    intro l'
    induction l' with
    | nil => intro _ _ _ x hx; cases hx
    | cons y r ih =>
      intro env mem hs x hx
      rcases List.mem_cons.1 hx with rfl | hx
      · exact hs.1.at_
      · exact ih _ _ hs.2 x hx
  have hato := hat its env mem k1
  have hlen' : its.length = l.toArray.size := by
    rw [← Nat.eq_of_beq_eq_true hlen, ← k2, List.length_map]
  have hplan : Plan l.toArray (Region.before l.toArray) (Array.replicate l.length false) its := by
    refine ⟨fun i hi => ?_, fun x hx => ?_, ?_, fun pre x post hits o ho e he hb => ?_, ?_, by simp⟩
    · have hi' : i < l.length := by simpa using hi
      have : (Array.replicate l.length false).getD i true = false := by simp [Array.getD, hi']
      refine ⟨fun _ => ?_, fun _ => this⟩
      have h1 := List.all_eq_true.1 hall i (by simpa using hi')
      have h2 : i ∈ plan := by simpa using h1
      rw [← k2] at h2
      obtain ⟨x, hx, hxi⟩ := List.mem_map.1 h2
      exact ⟨x, hx, hxi⟩
    · have := hlt' x.i (by rw [← k2]; exact List.mem_map_of_mem hx)
      simpa using this
    · have := (apOk_spec hap).imp fun h => h.1
      rw [← k2, List.pairwise_map] at this
      exact this
    · have hp2 : plan = pre.map (·.i) ++ x.i :: post.map (·.i) := by rw [← k2, hits]; simp
      have h1 := extOk_spec hext (pre.map (·.i)) x.i (post.map (·.i)) hp2 o ho e he hb
      have h2 : e.on ∈ pre.map (·.i) := by
        rcases h1 with h1 | h1
        · cases h1
        · exact h1
      have hnd := (apOk_spec hap).imp fun h => h.1
      rw [hp2] at hnd
      have h3 := (List.pairwise_append.1 hnd).2.2 e.on h2
      refine ⟨?_, fun y hy hye => ?_⟩
      · have := hlt' e.on (by rw [hp2]; exact List.mem_append_left _ h2)
        simpa using this
      · exact h3 y.i (by
          rcases List.mem_cons.1 hy with rfl | hy
          · simp
          · exact List.mem_cons_of_mem _ (List.mem_map_of_mem hy)) hye.symm
    · have h1 := apOk_spec hap
      rw [← k2, List.pairwise_map] at h1
      have h2 := chkT_spec k3
      simp only [List.reverse_nil, List.nil_append, List.pairwise_map] at h2
      refine (h1.and h2).imp_of_mem fun {x y} hx hy h => ?_
      obtain ⟨⟨_, h3⟩, h4⟩ := h
      rcases h3 with h3 | ⟨p, q, hp, hq, h3⟩
      · exact .inl h3
      · rcases h4 with h4 | h4
        · have e1 := hato x hx
          have e2 := hato y hy
          rw [hp] at e1; cases e1
          rw [hq] at e2; cases e2
          exact .inr ⟨h3, h4⟩
        · exact .inl h4
  have hclosed : Closed .any l.toArray (Array.replicate l.length false) := by
    intro j o _ hl
    exfalso
    simp [Array.getElem?_replicate] at hl
    split at hl <;> simp_all
  have hr' : Rel F N g env mem a { w with drawn := w.drawn + 1 } := by
    have hx : Ext w { w with drawn := w.drawn + 1 } := Below.drew (Below.refl _ w)
    obtain ⟨e1, e2, e3⟩ := hr.mem.ext (g' := g) hr.kept hx (fun _ _ _ => Iff.rfl) rfl rfl hr.mem.fut
    exact ⟨fun t v ht => by obtain ⟨x, h1, h2⟩ := hr.env t v ht; exact ⟨x, h1, h2.mono e1⟩, e2, e3, hr.defers, hr.size, hr.big⟩
  refine wp_region_any hm ?_
  have := any_run (P := P) (N := N) (F := F) (Q := liftQ F N Q) hW its.length its env mem (Array.replicate l.length false) g a _ rfl k1 hplan hclosed hr' fun g2 a2 w2 hr2 => ⟨_, _, g2, .normal, hr2, rfl, k4⟩
  rw [hlen'] at this
  simpa using this

/-- A region that draws its order: a plan is walked. -/
theorem LC.drawP {F : Fr0} {Q : LQ} {env : Env} {mem : Mem} {id : Nat} {l : List Oper} (plan : List Nat) (hm : P.follows .mixedOrders = true) (hB : (waitsB .any l.toArray (Region.before l.toArray) && planOk l.toArray (Region.before l.toArray) plan) = true)
    (h : DR P N l.toArray (chkT (Region.before l.toArray)) (fun env mem => Q .normal env mem) (pickI l plan) [] env mem) : LC P F N (.region id l.toArray true) Q env mem := by
  refine LC.drawG plan (pickI l plan) (pickI_fst l plan) (pickI_mem fun i hi => ?_) hm hB h
  simp only [planOk, Bool.and_eq_true] at hB
  have h1 := Nat.le_of_ble_eq_true (List.all_eq_true.1 hB.2.1 i hi)
  simp at h1
  omega
/-- A region that draws its order, walked in the order of the text. -/
theorem LC.draw {F : Fr0} {Q : LQ} {env : Env} {mem : Mem} {id : Nat} {l : List Oper} (hm : P.follows .mixedOrders = true) (hB : (waitsB .any l.toArray (Region.before l.toArray) && planOk l.toArray (Region.before l.toArray) (List.range l.length)) = true)
    (h : DR P N l.toArray (chkT (Region.before l.toArray)) (fun env mem => Q .normal env mem) (enumI 0 l) [] env mem) : LC P F N (.region id l.toArray true) Q env mem := by
  refine LC.drawG (List.range l.length) (enumI 0 l) (by rw [enumI_fst, List.range_eq_range']) (fun x hx => ?_) hm hB h
  have := (enumI_mem 0 l x hx).2
  simpa using this

/-! ### Steps -/
variable {o : Oper} {i d j : Nat} {rs : List (Nat × Oper)} {acc : List (Nat × Tch)} {env : Env} {mem : Mem} {K : Env → Mem → Prop} {v : V} {m : Option M} {m' mm : M} {t : Tch}
theorem gd_none (h : o.guard = none) : gd ops env o = some true := by unfold gd; rw [h]
theorem DR.step (hg : gd ops env o = some true) (h : Does P o env v t) (ht : tpre t mem) (hd : dok o.dst N = true) (hK : DR P N ops chk K rs ((i, t) :: acc) (bind o.dst v env) (tset t mem)) : DR P N ops chk K ((i, o) :: rs) acc env mem :=
  .run hd hg h ht hK
theorem DR.pp (hg : gd ops env o = some true) (hds : o.dst = some d) (h : Does P o env v []) (hd : Nat.blt d N = true) (hK : DR P N ops chk K rs ((i, []) :: acc) ((d, v) :: env) mem) : DR P N ops chk K ((i, o) :: rs) acc env mem :=
  .step hg h tpre_nil (by rw [hds]; exact hd) (by rw [hds]; exact hK)
theorem DR.rr (hg : gd ops env o = some true) (hds : o.dst = some d) (h : Does P o env v [(j, some mm, none)]) (ht : aget mem j = some mm) (hd : Nat.blt d N = true) (hK : DR P N ops chk K rs ((i, [(j, some mm, none)]) :: acc) ((d, v) :: env) mem) : DR P N ops chk K ((i, o) :: rs) acc env mem :=
  .step hg h (tpre_one ht) (by rw [hds]; exact hd) (by rw [hds]; exact hK)
theorem DR.ww (hg : gd ops env o = some true) (hds : o.dst = some d) (h : Does P o env v [(j, m, some m')]) (ht : aget mem j = m) (hd : Nat.blt d N = true) (hK : DR P N ops chk K rs ((i, [(j, m, some m')]) :: acc) ((d, v) :: env) ((j, m') :: mem)) : DR P N ops chk K ((i, o) :: rs) acc env mem :=
  .step hg h (tpre_one ht) (by rw [hds]; exact hd) (by rw [hds]; exact hK)
theorem DR.nn (hg : gd ops env o = some true) (hds : o.dst = some d) (h : Does P o env v [(d, none, some m')]) (ht : aget mem d = none) (hd : Nat.blt d N = true) (hK : DR P N ops chk K rs ((i, [(d, none, some m')]) :: acc) ((d, v) :: env) ((d, m') :: mem)) : DR P N ops chk K ((i, o) :: rs) acc env mem :=
  .step hg h (tpre_one ht) (by rw [hds]; exact hd) (by rw [hds]; exact hK)
theorem DR.ss (hg : gd ops env o = some true) (hds : o.dst = none) (h : Does P o env v [(j, m, some m')]) (ht : aget mem j = m) (hK : DR P N ops chk K rs ((i, [(j, m, some m')]) :: acc) env ((j, m') :: mem)) : DR P N ops chk K ((i, o) :: rs) acc env mem :=
  .step hg h (tpre_one ht) (by rw [hds]; rfl) (by rw [hds]; exact hK)
theorem DR.pz (hg : gd ops env o = some true) (hds : o.dst = none) (h : Does P o env v []) (hK : DR P N ops chk K rs ((i, []) :: acc) env mem) : DR P N ops chk K ((i, o) :: rs) acc env mem :=
  .step hg h tpre_nil (by rw [hds]; rfl) (by rw [hds]; exact hK)
theorem DR.ld {T off : Nat} {x : Operand} {cs : List V} (X : TOk P) {ti : TI} (hg : gd ops env o = some true) (hds : o.dst = some d) (ho : o.op = .load T x) (hx : evo env x = some (.p j off)) (hm : aget mem j = some (.b cs)) (hT : aget X.tab T = some ti) (hv : ti.part cs off = some v) (hd : Nat.blt d N = true) (hK : DR P N ops chk K rs ((i, [(j, some (.b cs), none)]) :: acc) ((d, v) :: env) mem) : DR P N ops chk K ((i, o) :: rs) acc env mem :=
  DR.rr hg hds (Does.load X ho hx hm hT hv) hm hd hK
theorem DR.st {T off : Nat} {x y : Operand} {cs cs' : List V} {u : V} (X : TOk P) {ti : TI} (hg : gd ops env o = some true) (hds : o.dst = none) (ho : o.op = .store T x y) (hx : evo env x = some (.p j off)) (hy : evo env y = some u) (hm : aget mem j = some (.b cs)) (hT : aget X.tab T = some ti) (hu : u.ok = true) (hs : Nat.beq u.cells.length ti.size = true) (hle : Nat.ble (off + u.cells.length) cs.length = true) (hcs : splice cs off u.cells = cs')
    (hK : DR P N ops chk K rs ((i, [(j, some (.b cs), some (.b cs'))]) :: acc) env ((j, .b cs') :: mem)) : DR P N ops chk K ((i, o) :: rs) acc env mem :=
  DR.ss hg hds (Does.store X ho hx hy hm hT hu hs hle hcs) hm hK
theorem DR.ap {T Tx E Ex sz : Nat} {x y : Operand} {s : Option Nat} {es ys : List V} (X : TOk P) {ti xi ei : TI} (hg : gd ops env o = some true) (hds : o.dst = some d) (ho : o.op = .call { callee := .builtin .append, args := #[x, y], argTypes := #[T, Tx] }) (hx : evo env x = some (.s (some j) es)) (hy : evo env y = some (.s s ys))
    {n0 : Nat} (hm : aget mem j = some (.r E sz n0)) (hn0 : es.length = n0) (hT : aget X.tab T = some ti) (hdt : ti.d = .sl E) (hE : aget X.tab E = some ei) (hsz : ei.size = sz) (hX : aget X.tab Tx = some xi) (hdx : xi.d = .sl Ex)
    (hes : ∀ e ∈ es, e.cells.length = sz) (hys : ∀ e ∈ ys, e.cells.length = sz) {n : Nat} (hn : es.length + ys.length = n) (hmax : n ≤ 140737488355328) (hb : n * ei.bytes ≤ 140737488355328) (hd : Nat.blt d N = true)
    (hK : DR P N ops chk K rs ((i, [(j, some (.r E sz es.length), some (.r E sz n))]) :: acc) ((d, .s (some j) (es ++ ys)) :: env) ((j, .r E sz n) :: mem)) : DR P N ops chk K ((i, o) :: rs) acc env mem :=
  DR.ww hg hds (Does.app X ho hx hy (by rw [hn0]; exact hm) hT hdt hE hsz hX hdx hes hys hn hmax hb) (by rw [hn0]; exact hm) hd hK
theorem DR.skip (hg : gd ops env o = some false) (hds : o.dst = some d) (hd : Nat.blt d N = true) (hK : DR P N ops chk K rs ((i, []) :: acc) ((d, .k undef) :: env) mem) : DR P N ops chk K ((i, o) :: rs) acc env mem :=
  .pass (by rw [hds]; exact hd) hg (by rw [hds]; exact hK)
theorem DR.skipz (hg : gd ops env o = some false) (hds : o.dst = none) (hK : DR P N ops chk K rs ((i, []) :: acc) env mem) : DR P N ops chk K ((i, o) :: rs) acc env mem :=
  .pass (by rw [hds]; rfl) hg (by rw [hds]; exact hK)
end
end Lf
end Go.Proofs.Ytgeccggkdgpkiaa

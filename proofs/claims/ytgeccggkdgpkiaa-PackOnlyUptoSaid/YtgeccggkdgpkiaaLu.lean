/- Panics inside regions: a plain region up to the operation that panics; a region that draws its order, one of whose operations panics, while those that may come ahead of it only read. -/
import Derived.Test.YtgeccggkdgpkiaaLy
namespace Go.Proofs.Ytgeccggkdgpkiaa
open Go.RowKit Rg
namespace Lf
section
variable {P : Program} {F : Fr0} {N : Nat} {Q : LQ} {env : Env} {mem : Mem}
theorem DR.plain2 {ops : Array Oper} {chk : List (Nat × Tch) → Bool} {post : List Oper} {l : List (Nat × Oper)} {acc : List (Nat × Tch)} (h : DR P N ops chk (fun env mem => LS P F N ops post Q env mem) l acc env mem) : ∀ {k : Nat} {os : List Oper}, l = enumI k os → LS P F N ops (os ++ post) Q env mem := by
  induction h with
  | nl _ h =>
    intro k os hl
    cases os with
    | nil => exact h
    | cons o r => cases hl
  | run hd hg h ht _ ih =>
    intro k os hl
    cases os with
    | nil => cases hl
    | cons o' r => cases hl; exact LS.step hg h ht hd (ih rfl)
  | pass hd hg _ ih =>
    intro k os hl
    cases os with
    | nil => cases hl
    | cons o' r => cases hl; exact LS.pass hg hd (ih rfl)
/-- A plain region up to its k-th operation. -/
theorem LC.upTo (k : Nat) {id : Nat} {l : List Oper} (h : DR P N l.toArray (fun _ => true) (fun env mem => LS P F N l.toArray (l.drop k) Q env mem) (enumI 0 (l.take k)) [] env mem) : LC P F N (.region id l.toArray false) Q env mem := by
  refine LC.region ?_
  have := h.plain2 rfl
  rwa [List.take_append_drop] at this
theorem LS.panic {ops : Array Oper} {o : Oper} {r : List Oper} {x : Operand} {T : TypeId} {v : V} (ho : o.op = .panic x) (hg : gd ops env o = some true) (hx : evo env x = some (.i T v)) (hQ : Q (.pan (.i T v)) env mem) : LS P F N ops (o :: r) Q env mem := LS.pan hg (Pans.panic ho hx) tpre_nil hQ
theorem LS.panC {ops : Array Oper} {o : Oper} {r : List Oper} {fx : Nat} {xs : List Operand} {ts : Array Nat} {us args : List V} {mi mo : Mem} {v : V} (hc : LM P fx args mi fun o m => o = .pan v ∧ m = mo) (ho : o.op = .call { callee := .value (.func fx), args := xs.toArray, argTypes := ts }) (hg : gd ops env o = some true) (hx : evs env xs = some us) (hu : Fits us args) (hr : (V.refs.go mi args && (refsM mi mi && keysOk mi mo)) = true) (ht : TPre mi mo mem) (hQ : Q (.pan v) env (mo ++ mem)) : LS P F N ops (o :: r) Q env mem :=
  LS.pc hg (Pans.callM hc ho hx hu hr) ht hQ
theorem thP {next : Env → Mem → Prop} {Q : LQ} {v : V} {env : Env} {mem : Mem} (h : Q (.pan v) env mem) : LThen next Q (.pan v) env mem := h
theorem blkP {i : Nat} {Q : LQ} {v : V} {env : Env} {mem : Mem} (h : Q (.pan v) env mem) : LBlk i Q (.pan v) env mem := h
theorem ngP {Q : LQ} {v : V} {env : Env} {mem : Mem} (h : Q (.pan v) env mem) : LNoGoto Q (.pan v) env mem := h
theorem LRet.pan {X : TOk P} {rs : List ResultVar} {R : Out → Mem → Prop} {v : V} {env : Env} {mem : Mem} (mo : Mem) (hm : SubM mem mo) (hr : (v.refs mo && refsM mo mo) = true) (hR : R (.pan v) mo) : LRet X rs R (.pan v) env mem := ⟨v, mo, ⟨⟨_, _, cv_same v⟩, hm, hr⟩, hR⟩
/-- A loop by two states; the first one's measure falls. -/
structure LNext3 {β γ : Type} (I : β → γ → Env) (J : β → γ → Mem) (ok : β → γ → Prop) (μ : β → Nat) (b : β) (env : Env) (mem : Mem) : Prop where
  ex : ∃ y z, ok y z ∧ μ y < μ b ∧ Sub env mem (I y z) (J y z)
theorem LNext3.go {β γ : Type} {I : β → γ → Env} {J : β → γ → Mem} {ok : β → γ → Prop} {μ : β → Nat} {b : β} {y : β} {z : γ} (he : SubE env (I y z)) (hm : SubM mem (J y z)) (hk : (mem.all fun x => Nat.blt x.1 1000 || (aget (J y z) x.1).isSome) = true)
    (hrE : refsE (J y z) (I y z) = true) (hrM : refsM (J y z) (J y z) = true) (hok : ok y z) (hlt : μ y < μ b) : LNext3 I J ok μ b env mem := ⟨y, z, hok, hlt, he, hm, by rw [hk, hrE, hrM]; rfl⟩
theorem LC.loop3 {β γ : Type} {c : Code} (I : β → γ → Env) (J : β → γ → Mem) (ok : β → γ → Prop) (μ : β → Nat) (b0 : β) (c0 : γ) (h0 : ok b0 c0) (he : SubE env (I b0 c0)) (hm : SubM mem (J b0 c0)) (hk : (mem.all fun x => Nat.blt x.1 1000 || (aget (J b0 c0) x.1).isSome) = true)
    (hrE : refsE (J b0 c0) (I b0 c0) = true) (hrM : refsM (J b0 c0) (J b0 c0) = true)
    (round : ∀ b z, ok b z → LC P F N c (LThen (LNext3 I J ok μ b) Q) (I b z) (J b z)) : LC P F N (.loop c) Q env mem :=
  LC.loop (fun x : β × γ => I x.1 x.2) (fun x => J x.1 x.2) (fun x => ok x.1 x.2) (fun x => μ x.1) (b0, c0) h0 ⟨he, hm, by rw [hk, hrE, hrM]; rfl⟩ fun x hx => (round x.1 x.2 hx).mono fun e env' mem' h => by
    cases e with
    | normal => obtain ⟨y, z, h1, h2, h3⟩ := h.ex; exact ⟨(y, z), h1, h2, h3⟩
    | _ => exact h
/-- A nil slice in a cell of a box is taken for the beginning of a row. -/
theorem LC.nilcell {c : Code} {cs : List V} (i j r E sz : Nat) (hi : aget mem i = some (.b cs)) (hj : cs[j]? = some .nil) (hr : aget mem r = none) (hne : r ≠ i) (hp : Nat.blt 0 sz = true) (h : LC P F N c Q env ((i, .b (cs.set j (.s (some r) []))) :: (r, .r E sz 0) :: mem)) : LC P F N c Q env mem := ⟨fun g a w hrel => by
  have hown0 : w.oRow 0 E sz (.slice (Option.map (fun b => (⟨b, 0, none⟩ : Addr)) none) 0 0) 0 [] := oRow_nil w 0 E sz
  have hgi : (g.addRow r (none, 0, 0)).rw r = some (none, 0, 0) := by simp [Gh.addRow]
  obtain ⟨he, h2, h3⟩ := hrel.mem.nilRow hrel.kept (m := .r E sz 0) hr (.r hgi ⟨Nat.le_of_ble_eq_true hp, ⟨_, hown0⟩, fun _ h => by cases h⟩) fun b o ⟨l, c, hp⟩ => by rw [hgi] at hp; cases hp
  have hi2 : aget ((r, M.r E sz 0) :: mem) i = some (.b cs) := by rw [aget_ne hne]; exact hi
  obtain ⟨b, off, hb, hlt, hB⟩ := h2.box hi2
  have hjl := (List.getElem?_eq_some_iff.1 hj).1
  have hob : ObjAt (g.addRow r (none, 0, 0)) w i (.b (cs.set j (.s (some r) []))) := .b hb hlt ⟨fun u hu => by
    obtain ⟨k, hk⟩ := List.getElem?_of_mem hu
    rw [List.getElem?_set] at hk
    split at hk
    · first
      | (cases hk; rfl)
      | (split at hk
         · cases hk; rfl
         · cases hk)
    · exact hB.one u (List.mem_of_getElem? hk), fun k u hk => by
    rw [List.getElem?_set] at hk
    split at hk
    · rename_i e
      subst e
      (try rw [if_pos hjl] at hk)
      cases hk
      obtain ⟨a1, a2, x, a3, a4⟩ := hB.at_ j .nil hj
      cases a4
      exact ⟨a1, a2, _, a3, .s0 fun r' hr' => by cases hr'; exact ⟨none, 0, 0, hgi, Nat.le_refl _, fun _ => .inl rfl⟩⟩
    · exact hB.at_ k u hk⟩
  obtain ⟨k1, k2⟩ := h2.step h3 (i := i) (Ev.refl _ w) rfl rfl rfl (fun _ _ _ _ => ⟨rfl, rfl, fun hs => hs⟩) (fun _ _ _ => rfl) (fun _ _ => rfl) (fun _ _ => rfl) hob (fun b' o hp' => .inl ⟨_, hi2, by
    obtain ⟨off', q1, q2, q3⟩ := hp'
    exact ⟨off', q1, q2, by simpa using q3⟩⟩) h2.fut
  exact h.go _ a w ⟨fun t' v hv => by obtain ⟨x, h1, h4⟩ := hrel.env t' v hv; exact ⟨x, h1, h4.mono he⟩, k1, k2, hrel.defers, hrel.size, hrel.big⟩⟩
/-! ### Regions that draw -/
theorem Pans.congr {o : Oper} {env env' : Env} {v : V} {t : Tch} (h : Pans P o env v t) (he : ∀ x ∈ o.op.operands.toList, evo env x = evo env' x) : Pans P o env' v t :=
  ⟨fun F g a w mem h1 => h.ex F g a w mem fun x hx u hu => h1 x hx u (by rw [← he x hx]; exact hu)⟩
def quiet (t : Tch) : Bool := t.all fun x => x.2.2.isNone
theorem tset_quiet {t : Tch} (h : quiet t = true) (mem : Mem) : tset t mem = mem := by
  induction t with
  | nil => rfl
  | cons x r ih =>
    obtain ⟨i, m, m'⟩ := x
    simp only [quiet, List.all_cons, Bool.and_eq_true] at h
    cases m' with
    | none => exact ih h.2
    | some m' => simp at h
theorem compat_quiet {s t : Tch} (hs : quiet s = true) (ht : quiet t = true) : compat s t = true := by
  unfold compat
  rw [List.all_eq_true]
  intro x hx
  rw [List.all_eq_true]
  intro y hy
  have h1 := List.all_eq_true.1 hs x hx
  have h2 := List.all_eq_true.1 ht y hy
  simp only [h1, h2, Bool.and_self, Bool.or_true]
theorem fin_quiet : ∀ {l : List It} {env : Env} {mem : Mem}, (∀ x ∈ l, quiet x.tt = true) → finM l mem = mem
  | [], _, _, _ => rfl
  | x :: r, env, mem, h => by
    have h1 := tset_quiet (h x (by simp)) mem
    show finM r (tset x.tt mem) = mem
    rw [h1]
    exact fin_quiet (env := env) fun y hy => h y (by simp [hy])
theorem finE_keep {t : Nat} : ∀ {l : List It} {env : Env}, (∀ x ∈ l, x.o.dst ≠ some t) → aget (finE l env) t = aget env t
  | [], _, _ => rfl
  | x :: r, env, h => by
    show aget (finE r (appE x env)) t = _
    rw [finE_keep fun y hy => h y (by simp [hy]), aget_appE (h x (by simp))]
/-- What is left ahead of the operation that panics. -/
structure PlanP (ops : Array Oper) (W : Array Nat) (k : Nat) (ok : Oper) (listed : Array Bool) (its : List It) : Prop where
  cov : ∀ i, i < ops.size → listed.getD i true = false → (∃ x ∈ its, x.i = i) ∨ i = k ∨ waits W i k = true
  un : ∀ x ∈ its, listed.getD x.i true = false
  lt : ∀ x ∈ its, x.i < ops.size
  nodup : its.Pairwise fun x y => x.i ≠ y.i
  ne : ∀ x ∈ its, x.i ≠ k
  ind : its.Pairwise fun x y => waits W y.i x.i = true ∨ Indep ops x y
  indk : ∀ x ∈ its, waits W k x.i = true ∨ x.o.apart ops ok = true
  q : ∀ x ∈ its, quiet x.tt = true
  back : ∀ (i : Nat) (o : Oper), ops[i]? = some o → ∀ e ∈ o.after, Region.binds .any e = true → e.on < i
  kk : listed.getD k true = false
  klt : k < ops.size
  at_ : ops[k]? = some ok
  size : listed.size = ops.size
theorem getD_tf {listed : Array Bool} {i : Nat} (h : i < listed.size) : (listed.getD i true = false ↔ ¬ listed.getD i false = true) := by
  simp only [Array.getD, h, dif_pos]
  cases listed.getInternal i h <;> simp
theorem any_pan {F : Fr0} {Q : Exit → Act → World → Prop} {ops : Array Oper} {W : Array Nat} (hW : waitsB .any ops W = true) {k : Nat} {ok : Oper} {v : V} {t : Tch} : ∀ (n : Nat) (its : List It) (env : Env) (mem : Mem) (listed : Array Bool) (g : Gh) (a : Act) (w : World), its.length < n → SR P N ops its env mem → PlanP ops W k ok listed its → Closed .any ops listed → Rel F N g env mem a w →
    gd ops (finE its env) ok = some true → Pans P ok (finE its env) v t → tpre t mem →
    (∀ g a w env' x, Rel F N g env' (tset t mem) a w → Rep w g v x → Q (.panic [{ v := x, recovered := false }]) a w) → wpAny P .any ops Q n listed a w
  | 0, its, env, mem, listed, g, a, w, hl, _, _, _, _, _, _, _, _ => by omega
  | n + 1, its, env, mem, listed, g, a, w, hl, hs, hp, hc, hr, hgk, hpk, htk, hQ => by
    constructor
    · -- the least one that is not listed is ready
      intro h0
      have key : ∀ m, ∀ i, i ≤ m → i < ops.size → listed.getD i true = false → False := by
        intro m
        induction m with
        | zero =>
          intro i him hi hun
          have ho := Array.getElem?_eq_getElem hi
          have : i ∈ Region.ready .any ops listed := mem_ready.2 ⟨by simpa using hun, _, ho, fun e he hb => by have := hp.back i _ ho e he hb; omega⟩
          rw [h0] at this; cases this
        | succ m ih =>
          intro i him hi hun
          have ho := Array.getElem?_eq_getElem hi
          have : i ∈ Region.ready .any ops listed := mem_ready.2 ⟨by simpa using hun, _, ho, fun e he hb => by
            have hlt := hp.back i _ ho e he hb
            have hes : e.on < listed.size := by rw [hp.size]; omega
            refine Classical.byContradiction fun hn => ih e.on (by omega) (by omega) ((getD_tf hes).2 hn)⟩
          rw [h0] at this; cases this
      exact (key k k (Nat.le_refl _) hp.klt hp.kk).elim
    · intro j hj
      obtain ⟨hun, o, ho, hall⟩ := mem_ready.1 hj
      have hjlt := (Array.getElem?_eq_some_iff.1 ho).1
      have hunl : ∀ i, i < ops.size → listed.getD i true = false → ¬ waits W j i = true := fun i hi hu hw => by
        have hxl := waits_listed hW hc hi j j o (Nat.le_refl _) ho hall hw
        have hsz : i < listed.size := by rw [hp.size]; exact hi
        exact (getD_tf hsz).1 hu hxl
      rcases hp.cov j hjlt (by simpa using hun) with ⟨y, hy, hyj⟩ | hjk | hjw
      · subst hyj
        obtain ⟨pre, post, hits⟩ := List.append_of_mem hy
        subst hits
        have hind : ∀ x ∈ pre, Indep ops x y := fun x hx => by
          rcases (List.pairwise_append.1 hp.ind).2.2 x hx y (by simp) with h1 | h1
          · exact absurd h1 (hunl x.i (hp.lt x (by simp [hx])) (hp.un x (by simp [hx])))
          · exact h1
        obtain ⟨k1, k2⟩ := hs.first hind
        obtain ⟨hv, hrest⟩ := k1
        have hov : y.o = o := by have := hv.at_; rw [ho] at this; exact (Option.some.inj this).symm
        subst hov
        have hnd := List.pairwise_append.1 hp.nodup
        have hnd2 := List.pairwise_cons.1 hnd.2.1
        have hne : ∀ z ∈ pre ++ post, z.i ≠ y.i := fun z hz => by
          rcases List.mem_append.1 hz with hz | hz
          · exact hnd.2.2 z hz y (by simp)
          · exact (hnd2.1 z hz).symm
        have hsub : ∀ z ∈ pre ++ post, z ∈ pre ++ y :: post := fun z hz => by rcases List.mem_append.1 hz with h | h <;> simp [h]
        have hysz : y.i < listed.size := by rw [hp.size]; exact hjlt
        have hp' : PlanP ops W k ok (listed.setIfInBounds y.i true) (pre ++ post) := by
          have hpi := List.pairwise_append.1 hp.ind
          refine ⟨fun i hi hu => ?_, fun x hx => ?_, fun x hx => hp.lt x (hsub x hx), List.pairwise_append.2 ⟨hnd.1, hnd2.2, fun a ha b hb => hnd.2.2 a ha b (by simp [hb])⟩, fun x hx => hp.ne x (hsub x hx),
            List.pairwise_append.2 ⟨hpi.1, (List.pairwise_cons.1 hpi.2.1).2, fun a ha b hb => hpi.2.2 a ha b (by simp [hb])⟩, fun x hx => hp.indk x (hsub x hx), fun x hx => hp.q x (hsub x hx), hp.back, ?_, hp.klt, hp.at_, by simp [hp.size]⟩
          · by_cases hiy : y.i = i
            · subst hiy
              simp [Array.getD, hysz] at hu
            · rw [getD_set_ne true hiy] at hu
              rcases hp.cov i hi hu with ⟨x, hx, hxi⟩ | h | h
              · refine .inl ⟨x, ?_, hxi⟩
                rcases List.mem_append.1 hx with h | h
                · simp [h]
                · rcases List.mem_cons.1 h with rfl | h
                  · exact absurd hxi hiy
                  · simp [h]
              · exact .inr (.inl h)
              · exact .inr (.inr h)
          · rw [getD_set_ne true (hne x hx).symm]; exact hp.un x (hsub x hx)
          · rw [getD_set_ne true (hp.ne y (by simp))]; exact hp.kk
        have hq2 : finM (pre ++ post) (appM y mem) = appM y mem := fin_quiet (env := env) fun x hx => hp.q x (hsub x hx)
        have hym : appM y mem = mem := tset_quiet (hp.q y (by simp)) mem
        have next : ∀ g' a' w', Rel F N g' (appE y env) (appM y mem) a' w' → wpAny P .any ops Q n (listed.setIfInBounds y.i true) a' w' := fun g' a' w' hr' => by
          rw [hym] at hr' hrest
          have ee : ∀ t', aget (finE (pre ++ y :: post) env) t' = aget (finE (pre ++ post) (appE y env)) t' := fun t' => k2.e t'
          exact any_pan hW n (pre ++ post) _ _ _ g' a' w' (by simp at hl ⊢; omega) hrest hp' (hc.step hj) hr' (by rw [← hgk]; exact (gd_congr fun _ _ d _ _ => (ee d).symm)) (hpk.congr fun x _ => evo_congr fun t' _ => ee t') htk hQ
        unfold wpOp
        rw [ho]
        simp only
        have hwant := gd_wanted hr hv.gdd
        rw [hwant]
        cases hsk : y.skip
        · simp only [Bool.not_false, if_true]
          refine .inl ((hv.does hsk).1.run hr (hv.does hsk).2 hv.dst fun g' a' w' hr' => next g' a' w' ?_)
          simpa [appE, appM, It.vv, It.tt, hsk] using hr'
        · simp only [Bool.not_true, Bool.false_eq_true, if_false]
          refine next g _ w ?_
          have := hr.put (d := y.o.dst) (v := .k undef) (x := undef) (Ev.refl g w) hr.mem hr.kept (.k undef) hv.dst
          simpa [appE, appM, It.vv, It.tt, hsk, tset] using this
      · subst hjk
        have hok : ok = o := by have := hp.at_; rw [ho] at this; exact (Option.some.inj this).symm
        subst hok
        have hap : ∀ x ∈ its, x.o.apart ops ok = true := fun x hx => by
          rcases hp.indk x hx with h1 | h1
          · exact absurd h1 (hunl x.i (hp.lt x hx) (hp.un x hx))
          · exact h1
        have ee : ∀ d, d ∈ ok.looksAt ops → aget (finE its env) d = aget env d := fun d hd => finE_keep fun x hx e => (Oper.apart_spec (hap x hx)).1 d e hd
        have hg' : gd ops env ok = some true := by
          rw [← hgk]
          exact gd_congr fun jj want d hgd hd => (ee d (by simp only [Oper.looksAt, hgd, hd, List.mem_append]; exact .inr (by simp))).symm
        have hp2 : Pans P ok env v t := hpk.congr fun z hz => evo_congr fun t' ht' => ee t' (by
          subst ht'
          simp only [Oper.looksAt, List.mem_append, List.mem_filterMap]
          exact .inl ⟨_, hz, rfl⟩)
        unfold wpOp
        rw [ho]
        simp only
        rw [gd_wanted hr hg', if_pos rfl]
        exact .inl (hp2.ex F g a w mem (fun _ _ _ hu => hr.evo hu) hr.mem hr.kept htk hr.defers _ _ fun x g' w' he hm hk hx => hQ g' a w' env x ⟨fun t u hu => by obtain ⟨y, h1, h2⟩ := hr.env t u hu; exact ⟨y, h1, h2.mono he⟩, hm, hk, hr.defers, hr.size, hr.big⟩ hx)
      · exact absurd hjw (hunl k hp.klt hp.kk)
def backOk (ops : Array Oper) : Bool := (List.range ops.size).all fun i => match ops[i]? with | some o => o.after.toList.all fun e => !Region.binds .any e || Nat.blt e.on i | none => true
def panOk (ops : Array Oper) (W : Array Nat) (k : Nat) (plan : List Nat) : Bool :=
  Nat.blt k ops.size && (plan.all (fun i => Nat.blt i ops.size && !Nat.beq i k && (waits W k i || (match ops[i]?, ops[k]? with | some a, some b => a.apart ops b | _, _ => false))) &&
    ((List.range ops.size).all (fun i => plan.contains i || Nat.beq i k || waits W i k) && (apOk ops W plan && backOk ops)))
/-- What a region that draws comes to, if its k-th operation panics: those of the plan may come ahead of it. -/
structure PanAt (P : Program) (F : Fr0) (N : Nat) (ops : Array Oper) (k : Nat) (Q : LQ) (env : Env) (mem : Mem) : Prop where
  ex : ∃ (o : Oper) (v : V) (t : Tch), ops[k]? = some o ∧ gd ops env o = some true ∧ Pans P o env v t ∧ tpre t mem ∧ ∀ env', Q (.pan v) env' (tset t mem)
theorem PanAt.call {ops : Array Oper} {k : Nat} {o : Oper} {fx : Nat} {xs : List Operand} {ts : Array Nat} {us args : List V} {mi mo : Mem} {v : V} (hk : ops[k]? = some o) (hc : LM P fx args mi fun o m => o = .pan v ∧ m = mo) (ho : o.op = .call { callee := .value (.func fx), args := xs.toArray, argTypes := ts }) (hg : gd ops env o = some true) (hx : evs env xs = some us) (hu : Fits us args) (hr : (V.refs.go mi args && (refsM mi mi && keysOk mi mo)) = true) (ht : TPre mi mo mem) (hQ : ∀ env', Q (.pan v) env' (mo ++ mem)) : PanAt P F N ops k Q env mem :=
  ⟨o, v, callT mi mo, hk, hg, Pans.callM hc ho hx hu hr, tpre_callT ht, fun env' => by rw [tset_call]; exact hQ env'⟩
theorem nodup_le : ∀ {n : Nat} {l : List Nat}, l.Nodup → (∀ i ∈ l, i < n) → l.length ≤ n
  | 0, l, _, h => by cases l with | nil => simp | cons a r => have := h a (by simp); omega
  | n + 1, l, hn, h => by
    by_cases hm : n ∈ l
    · have h1 := nodup_le (n := n) (hn.erase n) fun i hi => by
        have h2 := (hn.mem_erase_iff.1 hi)
        have := h i h2.2
        omega
      rw [List.length_erase_of_mem hm] at h1
      omega
    · have := nodup_le (n := n) hn fun i hi => by
        have := h i hi
        have : i ≠ n := fun e => hm (e ▸ hi)
        omega
      omega
theorem LC.drawPan {id : Nat} {l : List Oper} (k : Nat) (plan : List Nat) (hm : P.follows .mixedOrders = true) (hB : (waitsB .any l.toArray (Region.before l.toArray) && panOk l.toArray (Region.before l.toArray) k plan) = true)
    (h : DR P N l.toArray (fun acc => acc.all fun x => quiet x.2) (fun env mem => PanAt P F N l.toArray k Q env mem) (pickI l plan) [] env mem) : LC P F N (.region id l.toArray true) Q env mem := by
  refine ⟨fun g a w hr => ?_⟩
  simp only [panOk, Bool.and_eq_true] at hB
  obtain ⟨hW, hkl, hpl, hcov, hap, hbk⟩ := hB
  have hkl' : k < l.toArray.size := Nat.le_of_ble_eq_true hkl
  have hlt' : ∀ i ∈ plan, i < l.length := fun i hi => by
    have h1 := List.all_eq_true.1 hpl i hi
    simp only [Bool.and_eq_true] at h1
    have := Nat.le_of_ble_eq_true h1.1.1
    simp at this
    omega
  obtain ⟨its, k1, k2, k3, k4⟩ := DR.script h (pickI_mem hlt')
  rw [pickI_fst] at k2
  have hat : ∀ (l' : List It) (env : Env) (mem : Mem), SR P N l.toArray l' env mem → ∀ x ∈ l', l.toArray[x.i]? = some x.o := by
    intro l'
    induction l' with
    | nil => intro _ _ _ x hx; cases hx
    | cons y r ih =>
      intro env mem hs x hx
      rcases List.mem_cons.1 hx with rfl | hx
      · exact hs.1.at_
      · exact ih _ _ hs.2 x hx
  have hato := hat its env mem k1
  have hq : ∀ x ∈ its, quiet x.tt = true := fun x hx => by
    simp only [List.reverse_nil, List.nil_append] at k3
    exact List.all_eq_true.1 k3 (x.i, x.tt) (List.mem_map.2 ⟨x, hx, rfl⟩)
  have hfm : finM its mem = mem := fin_quiet (env := env) hq
  obtain ⟨o, v, t, hk, hg, hpan, htp, hQ⟩ := k4.ex
  rw [hfm] at htp hQ
  have hmem : ∀ x ∈ its, x.i ∈ plan := fun x hx => by rw [← k2]; exact List.mem_map_of_mem hx
  have hplan : PlanP l.toArray (Region.before l.toArray) k o (Array.replicate l.length false) its := by
    refine ⟨fun i hi _ => ?_, fun x hx => ?_, fun x hx => by have := hlt' x.i (hmem x hx); simpa using this, ?_, fun x hx => ?_, ?_, fun x hx => ?_, hq, fun i o' ho' e he hb => ?_, ?_, hkl', hk, by simp⟩
    · have h1 := List.all_eq_true.1 hcov i (by simpa using hi)
      simp only [Bool.or_eq_true] at h1
      rcases h1 with (h1 | h1) | h1
      · have h2 : i ∈ plan := by simpa using h1
        rw [← k2] at h2
        obtain ⟨x, hx, hxi⟩ := List.mem_map.1 h2
        exact .inl ⟨x, hx, hxi⟩
      · exact .inr (.inl (Nat.eq_of_beq_eq_true h1))
      · exact .inr (.inr h1)
    · have := hlt' x.i (hmem x hx)
      simp [Array.getD, this]
    · have := (apOk_spec hap).imp fun h => h.1
      rw [← k2, List.pairwise_map] at this
      exact this
    · have h1 := List.all_eq_true.1 hpl x.i (hmem x hx)
      simp only [Bool.and_eq_true, Bool.not_eq_true'] at h1
      intro e
      rw [e, Nat.beq_refl] at h1
      exact Bool.noConfusion h1.1.2
    · have h1 := apOk_spec hap
      rw [← k2, List.pairwise_map] at h1
      refine h1.imp_of_mem fun {x y} hx hy h => ?_
      rcases h.2 with h3 | ⟨p, q, hp, hq', h3⟩
      · exact .inl h3
      · have e1 := hato x hx
        have e2 := hato y hy
        rw [hp] at e1; cases e1
        rw [hq'] at e2; cases e2
        exact .inr ⟨h3, compat_quiet (hq x hx) (hq y hy)⟩
    · have h1 := List.all_eq_true.1 hpl x.i (hmem x hx)
      simp only [Bool.and_eq_true, Bool.or_eq_true] at h1
      rcases h1.2 with h2 | h2
      · exact .inl h2
      · rw [hato x hx, hk] at h2
        exact .inr h2
    · have hi := (Array.getElem?_eq_some_iff.1 ho').1
      unfold backOk at hbk
      have h1 := List.all_eq_true.1 hbk i (by simpa using hi)
      rw [ho'] at h1
      have h2 := List.all_eq_true.1 h1 e (by simpa using he)
      rw [hb] at h2
      simpa using h2
    · have : k < l.length := by simpa using hkl'
      simp [Array.getD, this]
  have hclosed : Closed .any l.toArray (Array.replicate l.length false) := by
    intro j o _ hl
    exfalso
    simp [Array.getElem?_replicate] at hl
    split at hl <;> simp_all
  have hr' : Rel F N g env mem a { w with drawn := w.drawn + 1 } := by
    have hx : Ext w { w with drawn := w.drawn + 1 } := Below.drew (Below.refl _ w)
    obtain ⟨e1, e2, e3⟩ := hr.mem.ext (g' := g) hr.kept hx (fun _ _ _ => Iff.rfl) rfl rfl hr.mem.fut
    exact ⟨fun t v ht => by obtain ⟨x, h1, h2⟩ := hr.env t v ht; exact ⟨x, h1, h2.mono e1⟩, e2, e3, hr.defers, hr.size, hr.big⟩
  have hlen : its.length < l.toArray.size := by
    have hnd := (apOk_spec hap).imp fun h => h.1
    have hnd2 : (k :: plan).Nodup := by
      refine List.nodup_cons.2 ⟨fun hkp => ?_, hnd⟩
      have h1 := List.all_eq_true.1 hpl k hkp
      simp [Nat.beq_refl] at h1
    have hsub : ∀ i ∈ k :: plan, i < l.toArray.size := fun i hi => by
      rcases List.mem_cons.1 hi with rfl | hi
      · exact hkl'
      · have := hlt' i hi; simpa using this
    have h3 := nodup_le hnd2 hsub
    have h4 : its.length = plan.length := by rw [← k2, List.length_map]
    simp only [List.length_cons] at h3
    omega
  refine wp_region_any hm ?_
  exact any_pan (P := P) (N := N) (F := F) (Q := liftQ F N Q) hW l.toArray.size its env mem (Array.replicate l.length false) g a _ hlen k1 hplan hclosed hr' hg hpan htp fun g2 a2 w2 env2 x hr2 hx => ⟨env2, _, g2, .pan v, hr2, ⟨x, rfl, hx⟩, hQ env2⟩
/-- Where the walk is to expect a panic: the region, the operation; those that may come ahead of it. -/
structure PanIn (id k : Nat) : Prop where
  t : True
structure PanInD (id k : Nat) (plan : List Nat) : Prop where
  t : True
theorem LC.upToM {id k : Nat} {l : List Oper} (_ : PanIn id k) (h : DR P N l.toArray (fun _ => true) (fun env mem => LS P F N l.toArray (l.drop k) Q env mem) (enumI 0 (l.take k)) [] env mem) : LC P F N (.region id l.toArray false) Q env mem := LC.upTo k h
theorem LC.drawPanM {id k : Nat} {l : List Oper} {plan : List Nat} (_ : PanInD id k plan) (hm : P.follows .mixedOrders = true) (hB : (waitsB .any l.toArray (Region.before l.toArray) && panOk l.toArray (Region.before l.toArray) k plan) = true)
    (h : DR P N l.toArray (fun acc => acc.all fun x => quiet x.2) (fun env mem => PanAt P F N l.toArray k Q env mem) (pickI l plan) [] env mem) : LC P F N (.region id l.toArray true) Q env mem := LC.drawPan k plan hm hB h
theorem LC.pan1 {id : Nat} {o : Oper} {x : Operand} (_ho : o.op = .panic x) (h : LS P F N #[o] [o] Q env mem) : LC P F N (.region id #[o] false) Q env mem := LC.region (l := [o]) h
theorem LC.pan3 {id : Nat} {a b o : Oper} {x : Operand} (_ho : o.op = .panic x) (h : DR P N #[a, b, o] (fun _ => true) (fun env mem => LS P F N #[a, b, o] [o] Q env mem) (enumI 0 [a, b]) [] env mem) : LC P F N (.region id #[a, b, o] false) Q env mem := LC.upTo (l := [a, b, o]) 2 h
theorem LRet.panE {X : TOk P} {rs : List ResultVar} {v v' : V} {mo : Mem} (hm : SubM mem mo) (hr : (v.refs mo && refsM mo mo) = true) (hv : v = v') : LRet X rs (fun o m => o = .pan v' ∧ m = mo) (.pan v) env mem := by
  subst hv; exact LRet.pan mo hm hr ⟨rfl, rfl⟩
theorem LRet.panX {X : TOk P} {rs : List ResultVar} {v v' : V} {m : List V → Mem} {cs : List V} (hm : SubM mem (m cs)) (hr : (v.refs (m cs) && refsM (m cs) (m cs)) = true) (hv : v = v') : LRet X rs (fun o mo => o = .pan v' ∧ ∃ cs, mo = m cs) (.pan v) env mem := by
  subst hv; exact LRet.pan _ hm hr ⟨rfl, cs, rfl⟩
end
end Lf
end Go.Proofs.Ytgeccggkdgpkiaa

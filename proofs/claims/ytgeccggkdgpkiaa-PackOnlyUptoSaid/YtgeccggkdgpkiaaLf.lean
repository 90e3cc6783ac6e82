/- Lifted contracts: into a function's body, out of it, and at a call. -/
import Derived.Test.YtgeccggkdgpkiaaLc
namespace Go.Proofs.Ytgeccggkdgpkiaa
open Go.RowKit Rg
namespace Lf
section
variable {P : Program}

def res1 (tab : Tab) (env : Env) (mem : Mem) : ResultVar → Option V
  | .tmp t => aget env t
  | .cell t T =>
    match aget env t, aget tab T with
    | some (.p i off), some ti =>
      match aget mem i with
      | some (.b cs) => ti.part cs off
      | _ => none
    | _, _ => none
def resL (tab : Tab) (env : Env) (mem : Mem) : List ResultVar → Option (List V)
  | [] => some []
  | r :: rs => match res1 tab env mem r, resL tab env mem rs with
    | some v, some vs => some (v :: vs)
    | _, _ => none
def resV (tab : Tab) (env : Env) (mem : Mem) : List ResultVar → Option V
  | [r] => res1 tab env mem r
  | rs => (resL tab env mem rs).map .t
/-- The value with less told of it: rows' numbers are struck but those that are kept; a nil slice is an empty one. -/
def V.cv (keep : Nat → Bool) (nn : Bool) : V → V
  | .a cs => .a (go keep nn cs)
  | .t cs => .t (go keep nn cs)
  | .s (some r) es => .s (cond (keep r) (some r) none) es
  | .nil => cond nn (.s none []) .nil
  | .i T v => .i T (v.cv keep nn)
  | v => v
where go (keep : Nat → Bool) (nn : Bool) : List V → List V
  | [] => []
  | v :: r => v.cv keep nn :: go keep nn r
theorem cv_go {keep : Nat → Bool} {nn : Bool} (cs : List V) : V.cv.go keep nn cs = cs.map (V.cv keep nn) := by
  induction cs with
  | nil => rfl
  | cons v r ih => rw [V.cv.go, ih, List.map_cons]
theorem cv_one {keep : Nat → Bool} {nn : Bool} {v : V} : (v.cv keep nn).one = v.one := by
  cases v with
  | s o es => cases o with
    | none => rfl
    | some r => rfl
  | nil => cases nn <;> rfl
  | _ => rfl
theorem Rep.cv {g : Gh} {w : World} {keep : Nat → Bool} {nn : Bool} {v : V} {x : Value} (h : Rep w g v x) : Rep w g (v.cv keep nn) x := by
  induction h with
  | k v => exact .k v
  | a hl h1 _ ih =>
    simp only [V.cv, cv_go]
    refine .a (by simpa using hl) (fun u hu => ?_) fun j u x hj hx => ?_
    · obtain ⟨u0, hu0, rfl⟩ := List.mem_map.1 hu; rw [cv_one]; exact h1 u0 hu0
    · rw [List.getElem?_map] at hj
      obtain ⟨u0, hu0, rfl⟩ := Option.map_eq_some_iff.1 hj
      exact ih j u0 x hu0 hx
  | t hl _ ih =>
    simp only [V.cv, cv_go]
    refine .t (by simpa using hl) fun j u x hj hx => ?_
    rw [List.getElem?_map] at hj
    obtain ⟨u0, hu0, rfl⟩ := Option.map_eq_some_iff.1 hj
    exact ih j u0 x hu0 hx
  | nil =>
    cases nn
    · exact .nil
    · exact .s0 fun _ h => by cases h
  | @se g o a ht =>
    cases o with
    | none => exact .se a ht
    | some r =>
      simp only [V.cv]
      cases keep r
      · exact .se a fun _ h => by cases h
      · exact .se a ht
  | @s0 g o ht =>
    cases o with
    | none => exact .s0 ht
    | some r =>
      simp only [V.cv]
      cases keep r
      · exact .s0 fun _ h => by cases h
      · exact .s0 ht
  | @s g o es b off cap size xs hn hm hp hs hx hc ht _ =>
    cases o with
    | none => exact .s xs hn hm hp hs hx hc ht
    | some r =>
      simp only [V.cv]
      cases keep r
      · exact .s xs hn hm hp hs hx hc fun _ h => by cases h
      · exact .s xs hn hm hp hs hx hc ht
  | p h => exact .p h
  | sb h => exact .sb h
  | q xs h1 hx hc _ => exact .q xs h1 hx hc
  | f h1 h2 hf hc => exact .f h1 h2 hf hc
  | i _ ih => exact .i ih
  | w h => exact .w h
  | pw h => exact .pw h
  | mp h => exact .mp h
  | y h => exact .y h

/-- What is told of a value and of the memory, at the end. -/
structure Tells (mem : Mem) (v v' : V) (mo : Mem) : Prop where
  v : ∃ keep nn, v.cv keep nn = v'
  m : SubM mem mo
  r : (v'.refs mo && refsM mo mo) = true
def LFin (X : TOk P) (rs : List ResultVar) (R : Out → Mem → Prop) (env : Env) (mem : Mem) : Prop := ∃ v v' mo, resV X.tab env mem rs = some v ∧ Tells mem v v' mo ∧ R (.ret v') mo
theorem cv_same (v : V) : V.cv (fun _ => true) false v = v := by
  induction v using V.rec (motive_2 := fun l => V.cv.go (fun _ => true) false l = l) with
  | k v => rfl
  | a cs ih => simp only [V.cv, ih]
  | t cs ih => simp only [V.cv, ih]
  | s o es => cases o <;> rfl
  | nil => rfl
  | p => rfl
  | sb => rfl
  | q => rfl
  | f => rfl
  | i T v ih => simp only [V.cv, ih]
  | w => rfl
  | pw => rfl
  | mp => rfl
  | y => rfl
  | cons v l h1 h2 => simp only [V.cv.go, h1, h2]
  | _ => rfl
theorem LFin.same {X : TOk P} {rs : List ResultVar} {R : Out → Mem → Prop} {env : Env} {mem mo : Mem} {v : V} (h : resV X.tab env mem rs = some v) (hm : SubM mem mo) (hr : (v.refs mo && refsM mo mo) = true) (hR : R (.ret v) mo) : LFin X rs R env mem := ⟨v, v, mo, h, ⟨⟨_, _, cv_same v⟩, hm, hr⟩, hR⟩
theorem LFin.eq {X : TOk P} {rs : List ResultVar} {env : Env} {mem : Mem} {v : V} (h : resV X.tab env mem rs = some v) (hr : v.refs [] = true) : LFin X rs (fun o m => o = .ret v ∧ m = []) env mem := ⟨v, v, [], h, ⟨⟨_, _, cv_same v⟩, trivial, by rw [hr]; rfl⟩, rfl, rfl⟩
/-- The same, with rows' numbers struck. -/
theorem LFin.bare {X : TOk P} {rs : List ResultVar} {env : Env} {mem : Mem} {u v : V} (nn : Bool) (h : resV X.tab env mem rs = some u) (hv : u.cv (fun _ => false) nn = v) (hr : v.refs [] = true) : LFin X rs (fun o m => o = .ret v ∧ m = []) env mem := ⟨u, v, [], h, ⟨⟨_, nn, hv⟩, trivial, by rw [hr]; rfl⟩, rfl, rfl⟩
theorem LFin.eqV {X : TOk P} {rs : List ResultVar} {env : Env} {mem : Mem} {u v : V} (h : resV X.tab env mem rs = some u) (hr : u.refs [] = true) (hv : u = v) : LFin X rs (fun o m => o = .ret v ∧ m = []) env mem := by subst hv; exact LFin.eq h hr
theorem LFin.cvV {X : TOk P} {rs : List ResultVar} {env : Env} {mem : Mem} {u v : V} (nn : Bool) (h : resV X.tab env mem rs = some u) (hr : (u.cv (fun _ => false) nn).refs [] = true) (hv : u.cv (fun _ => false) nn = v) : LFin X rs (fun o m => o = .ret v ∧ m = []) env mem := by subst hv; exact LFin.bare nn h rfl hr
/-- The same, with memory that was lent or is new. -/
theorem LFin.memV {X : TOk P} {rs : List ResultVar} {env : Env} {mem mo : Mem} {u v : V} (h : resV X.tab env mem rs = some u) (hm : SubM mem mo) (hr : (u.refs mo && refsM mo mo) = true) (hv : u = v) : LFin X rs (fun o m => o = .ret v ∧ m = mo) env mem := by subst hv; exact LFin.same h hm hr ⟨rfl, rfl⟩
theorem LFin.memC {X : TOk P} {rs : List ResultVar} {env : Env} {mem mo : Mem} {u v : V} (keep : Nat → Bool) (nn : Bool) (h : resV X.tab env mem rs = some u) (hm : SubM mem mo) (hr : ((u.cv keep nn).refs mo && refsM mo mo) = true) (hv : u.cv keep nn = v) : LFin X rs (fun o m => o = .ret v ∧ m = mo) env mem := by subst hv; exact ⟨u, _, mo, h, ⟨⟨keep, nn, rfl⟩, hm, hr⟩, rfl, rfl⟩
def LPan (R : Out → Mem → Prop) (v : V) (mem : Mem) : Prop := ∃ v' mo, Tells mem v v' mo ∧ R (.pan v') mo
def LRet (X : TOk P) (rs : List ResultVar) (R : Out → Mem → Prop) : LQ
  | .normal, env, mem => LFin X rs R env mem
  | .ret, env, mem => LFin X rs R env mem
  | .pan v, _, mem => LPan R v mem
  | _, _, _ => False
def params : Nat → List V → Env
  | _, [] => []
  | k, v :: r => (k, v) :: params (k + 1) r

theorem params_get {args : List V} : ∀ {k t : Nat} {v : V}, aget (params k args) t = some v → k ≤ t ∧ args[t - k]? = some v := by
  induction args with
  | nil => intro k t v h; cases h
  | cons u r ih =>
    intro k t v h
    simp only [params, aget_cons] at h
    split at h
    · rename_i e; subst e; cases h; simp
    · obtain ⟨h1, h2⟩ := ih h
      refine ⟨by omega, ?_⟩
      rw [show t - k = (t - (k + 1)) + 1 from by omega, List.getElem?_cons_succ]
      exact h2

def rsem (tmps : Array Value) : ResultVar → Sem Value
  | .tmp t => pure (tmps.getD t undef)
  | .cell a t => do loadVar t (← asAddr (tmps.getD a undef))
theorem results_eq (fn : Func) (tmps : Array Value) : results fn tmps = (do let vs ← fn.results.mapM (rsem tmps); pure (if h : vs.size = 1 then vs[0] else .tuple vs)) := by
  unfold results
  congr
theorem res1_run {F : Fr0} {N : Nat} {g : Gh} {env : Env} {mem : Mem} {a : Act} {w : World} (X : TOk P) (h : Rel F N g env mem a w) {r : ResultVar} {v : V} (hv : res1 X.tab env mem r = some v) :
    ∃ x, (rsem a.tmps r).run P w = .ok x w ∧ Rep w g v x := by
  cases r with
  | tmp t =>
    obtain ⟨x, h1, h2⟩ := h.env t v hv
    exact ⟨x, by simp [rsem, h1], h2⟩
  | cell t T =>
    simp only [res1] at hv
    split at hv
    · rename_i i off ti he hT
      split at hv
      · rename_i cs hm
        obtain ⟨x, h1, h2⟩ := h.env t _ he
        obtain ⟨b, bo, e1, _, hB⟩ := h.mem.box hm
        obtain ⟨xs, hl, hrange, hrep⟩ := hB.vals
        obtain ⟨y, hrun, hrep'⟩ := rep_part (X.get hT) hv hB.one hl hrange hrep
        cases h2 with
        | p hp =>
          rw [e1] at hp; cases hp
          refine ⟨y, ?_, hrep'⟩
          simp only [Instr.loadAt, Instr.sureAddr, Sem.run_bind, Sem.run_pure, Result.andThen_ok] at hrun
          simp [rsem, h1, asAddr, hrun]
      · cases hv
    · cases hv

theorem resV_run {F : Fr0} {N : Nat} {g : Gh} {env : Env} {mem : Mem} {a : Act} {w : World} (X : TOk P) (h : Rel F N g env mem a w) {fn : Func} {rs : List ResultVar} (hrs : fn.results = rs.toArray) (hlen : rs.length ≤ 3) {v : V} (hv : resV X.tab env mem rs = some v) :
    ∃ x, (results fn a.tmps).run P w = .ok x w ∧ Rep w g v x := by
  match rs, hlen with
  | [], _ =>
    simp [resV, resL] at hv; subst hv
    exact ⟨.tuple #[], by simp [results_eq, hrs], .t rfl (by simp)⟩
  | [r], _ =>
    obtain ⟨x, h1, h2⟩ := res1_run X h hv
    refine ⟨x, ?_, h2⟩
    simp [results_eq, hrs, h1]
  | [r, s], _ =>
    simp only [resV, resL] at hv
    obtain ⟨vs, hvs, rfl⟩ := Option.map_eq_some_iff.1 hv
    cases hr1 : res1 X.tab env mem r with
    | none => simp [hr1] at hvs
    | some v1 =>
      cases hr2 : res1 X.tab env mem s with
      | none => simp [hr1, hr2] at hvs
      | some v2 =>
        simp [hr1, hr2] at hvs; subst hvs
        obtain ⟨x1, h1, k1⟩ := res1_run X h hr1
        obtain ⟨x2, h2, k2⟩ := res1_run X h hr2
        refine ⟨.tuple #[x1, x2], ?_, .t rfl fun j u x hu hx => ?_⟩
        · simp [results_eq, hrs, h1, h2]
        · match j with
          | 0 => simp at hu hx; subst hu; subst hx; exact k1
          | 1 => simp at hu hx; subst hu; subst hx; exact k2
          | j + 2 => simp at hu
  | [r, s, t], _ =>
    simp only [resV, resL] at hv
    obtain ⟨vs, hvs, rfl⟩ := Option.map_eq_some_iff.1 hv
    cases hr1 : res1 X.tab env mem r with
    | none => simp [hr1] at hvs
    | some v1 =>
      cases hr2 : res1 X.tab env mem s with
      | none => simp [hr1, hr2] at hvs
      | some v2 =>
        cases hr3 : res1 X.tab env mem t with
        | none => simp [hr1, hr2, hr3] at hvs
        | some v3 =>
          simp [hr1, hr2, hr3] at hvs; subst hvs
          obtain ⟨x1, h1, k1⟩ := res1_run X h hr1
          obtain ⟨x2, h2, k2⟩ := res1_run X h hr2
          obtain ⟨x3, h3, k3⟩ := res1_run X h hr3
          refine ⟨.tuple #[x1, x2, x3], ?_, .t rfl fun j u x hu hx => ?_⟩
          · simp [results_eq, hrs, h1, h2, h3]
          · match j with
            | 0 => simp at hu hx; subst hu; subst hx; exact k1
            | 1 => simp at hu hx; subst hu; subst hx; exact k2
            | 2 => simp at hu hx; subst hu; subst hx; exact k3
            | j + 3 => simp at hu
  | _ :: _ :: _ :: _ :: _, h4 => simp at h4

/-- What must be known of the lent memory at a call's end: it is there, or told to be gone. -/
def keysOk (mi mo : Mem) : Bool := mi.all fun x => (aget mo x.1).isSome
theorem keysOk_spec {mi mo : Mem} (h : keysOk mi mo = true) {i : Nat} {m : M} (hi : aget mi i = some m) : (aget mo i).isSome = true := List.all_eq_true.1 h _ (aget_mem hi)

theorem Tells.rep {F : Fr0} {g g0 : Gh} {w0 w : World} {mi mem mo : Mem} {v v' : V} {x : Value} (hF : F = lentF g0 mi w0) (h : Tells mem v v' mo) (hko : keysOk mi mo = true) (h0 : RelM F g0 mi w0) (hr : Rep w g v x) (hm : RelM F g mem w) (hk : Kept F g w) :
    Rep w (g.only mo) v' x ∧ RelM F (g.only mo) mo w ∧ Kept F (g.only mo) w ∧ Ev g0 w0 (g.only mo) w := by
  subst hF
  obtain ⟨⟨keep, nn, rfl⟩, h2, h3⟩ := h
  simp only [Bool.and_eq_true] at h3
  have hin : ∀ i, aget mi i ≠ none → (aget mo i).isSome = true := fun i hn => by
    obtain ⟨m, hm⟩ := Option.ne_none_iff_exists'.1 hn
    exact keysOk_spec hko hm
  have hL : LocOk (lentF g0 mi w0) (g.only mo) := by
    refine ⟨fun i z hz => ?_, fun i a l c hr => ?_⟩
    · have := hin i fun e => by have := h0.nbx i e; simp only [lentF] at hz; rw [this] at hz; cases hz
      simp only [Gh.only]; rw [if_pos this]; exact hm.loc.bx i z hz
    · have := hin i fun e => by have := h0.nrw i e; simp only [lentF] at hr; rw [this] at hr; cases hr
      obtain ⟨a', l', c', k1, k2⟩ := hm.loc.rw i a l c hr
      exact ⟨a', l', c', by simp only [Gh.only]; rw [if_pos this]; exact k1, k2⟩
  exact ⟨(hr.cv).only h3.1, hm.sub (fun i m hi => h2.get hi) h3.2 hL fun i m b o hi hp => hm.wr i m b o (h2.get hi) hp, ⟨hk.os, hk.tape, hk.output, hk.size, hk.blk, hk.cell, hk.S1, hk.S2, hk.cellS⟩,
    ⟨hk.size, fun b o hb hs => ⟨hk.S2 b o hb hs, hk.cellS b o hb hs⟩, fun i z hz => hL.bx i z hz, fun r a l c hr => hL.rw r a l c hr⟩⟩

theorem LM.enter (X : TOk P) {f N : Nat} {fn : Func} {c : Code} {args : List V} {rs : List ResultVar} {mi : Mem} {R : Out → Mem → Prop} (hf : P.funcs[f]? = some fn) (hb : fn.body = some c) (hN : fn.ntmps = N) (hrs : fn.results = rs.toArray) (hok : callOk P f = true)
    (hle : Nat.ble args.length N = true) (hrl : Nat.ble rs.length 3 = true) (hbig : (mi.all fun x => Nat.ble 1000 x.1) = true) (hks : ∀ o mo, R o mo → keysOk mi mo = true) (h : ∀ F, F.D = [] → LC P F N c (LRet X rs R) (params 0 args) mi) : LM P f args mi R := by
  refine ⟨hok, fun g w vals hm hl hr => ?_⟩
  have hle' := Nat.le_of_ble_eq_true hle
  refine calls_of_wp hf hb ?_
  have hbg : (lentF g mi w).Big := fun i hi => by
    have : aget mi i = none := by
      cases hg : aget mi i with
      | none => rfl
      | some m =>
        have h1 := Nat.le_of_ble_eq_true (List.all_eq_true.1 hbig _ (aget_mem hg))
        exact absurd h1 (by simp; omega)
    exact ⟨hm.nbx i this, hm.nrw i this⟩
  have hrel : Rel (lentF g mi w) N g (params 0 args) mi { tmps := vals ++ Array.replicate (fn.ntmps - vals.size) undef, defers := [] } w := by
    refine ⟨fun t v ht => ?_, hm, ⟨rfl, rfl, rfl, Nat.le_refl _, fun _ _ _ => rfl, fun _ _ _ _ => ⟨rfl, rfl⟩, fun _ _ _ _ h => h, fun _ _ _ h => h, fun _ _ _ _ => rfl⟩, rfl, by simp; omega, hbg⟩
    obtain ⟨_, h2⟩ := params_get ht
    rw [Nat.sub_zero] at h2
    have hlt := (List.getElem?_eq_some_iff.1 h2).1
    have hx : vals[t]? = some vals[t] := Array.getElem?_eq_getElem (by omega)
    exact ⟨vals[t], by rw [Array.getElem?_append_left (by omega)]; exact hx, hr t v _ h2 hx⟩
  refine wp_mono ((h _ rfl).go _ _ _ hrel) fun e a' w' ⟨env, mem, g', le, h1, h3, h2⟩ => ?_
  have key : LFin X rs R env mem → a'.defers = [] ∧ ∃ v, (results fn a'.tmps).run P w' = .ok v w' ∧ ∃ o mo g', R o mo ∧ Ev g w g' w' ∧ RelM (lentF g mi w) g' mo w' ∧ Kept (lentF g mi w) g' w' ∧ o.At w' g' (.returned v) := by
    rintro ⟨v, v', mo, hv, ht, hR⟩
    obtain ⟨x, hx, hrep⟩ := resV_run X h1 hrs (Nat.le_of_ble_eq_true hrl) hv
    obtain ⟨r1, r2, r3, r4⟩ := ht.rep rfl (hks _ _ hR) hm hrep h1.mem h1.kept
    exact ⟨h1.defers, x, hx, .ret v', mo, _, hR, r4, r2, r3, x, rfl, r1⟩
  cases le with
  | normal => cases h3; exact key h2
  | ret => cases h3; exact key h2
  | exit _ => exact h2.elim
  | goto _ => exact h2.elim
  | pan v =>
    obtain ⟨x, rfl, hx⟩ := h3
    obtain ⟨v', mo, ht, hR⟩ := h2
    obtain ⟨r1, r2, r3, r4⟩ := ht.rep rfl (hks _ _ hR) hm hx h1.mem h1.kept
    exact ⟨h1.defers, .pan v', mo, _, hR, r4, r2, r3, x, rfl, r1⟩
/-- The same, where nothing is lent. -/
theorem LFx.mk' (X : TOk P) {f N : Nat} {fn : Func} {c : Code} {args : List V} {rs : List ResultVar} {R : Out → Mem → Prop} (hf : P.funcs[f]? = some fn) (hb : fn.body = some c) (hN : fn.ntmps = N) (hrs : fn.results = rs.toArray) (hok : callOk P f = true)
    (hle : Nat.ble args.length N = true) (hrl : Nat.ble rs.length 3 = true) (h : ∀ F : Fr0, LC P F N c (LRet X rs R) (params 0 args) []) : LM P f args [] R :=
  LM.enter X hf hb hN hrs hok hle hrl rfl (fun _ _ _ => rfl) fun F _ => h F

/-! ### Calls -/
def evs (env : Env) : List Operand → Option (List V)
  | [] => some []
  | x :: r => match evo env x, evs env r with
    | some v, some vs => some (v :: vs)
    | _, _ => none
theorem evs_get {env : Env} : ∀ {xs : List Operand} {us : List V}, evs env xs = some us → xs.length = us.length ∧ ∀ (j : Nat) u, us[j]? = some u → ∃ x, xs[j]? = some x ∧ evo env x = some u
  | [], us, h => by simp [evs] at h; subst h; simp
  | x :: r, us, h => by
    simp only [evs] at h
    split at h
    · rename_i v vs hv hvs
      cases h
      obtain ⟨h1, h2⟩ := evs_get hvs
      refine ⟨by simp [h1], fun j u hj => ?_⟩
      cases j with
      | zero => simp at hj; subst hj; exact ⟨x, by simp, hv⟩
      | succ j => simp at hj; obtain ⟨y, hy, hu⟩ := h2 j u hj; exact ⟨y, by simpa using hy, hu⟩
    · cases h
/-- The arguments as a contract wants them: as they are, or with less told. -/
inductive Fits : List V → List V → Prop
  | same (us) : Fits us us
  | cv {us args : List V} (keep nn) (h : V.cv.go keep nn us = args) : Fits us args
theorem fits_rep {g : Gh} {w : World} {us args : List V} (h : Fits us args) : us.length = args.length ∧ ∀ {j : Nat} {v}, args[j]? = some v → ∃ u, us[j]? = some u ∧ ∀ x, Rep w g u x → Rep w g v x := by
  cases h with
  | same => exact ⟨rfl, fun h => ⟨_, h, fun _ h => h⟩⟩
  | cv keep nn h =>
    subst h
    rw [cv_go]
    refine ⟨by simp, fun {j v} hj => ?_⟩
    rw [List.getElem?_map] at hj
    obtain ⟨u, hu, rfl⟩ := Option.map_eq_some_iff.1 hj
    exact ⟨u, hu, fun _ h => h.cv⟩

theorem exec_call {o : Oper} {fx : Nat} {xs : List Operand} {ts : Array Nat} (ho : o.op = .call { callee := .value (.func fx), args := xs.toArray, argTypes := ts }) (hok : callOk P fx = true) (a : Act) (w : World) :
    (execOp a.eval o).run P w = .ok (.enter fx (xs.map a.eval).toArray) w := by
  unfold callOk at hok
  split at hok
  · rename_i fn hfn
    simp only [Bool.and_eq_true, Bool.not_eq_true'] at hok
    have hn : ¬ fn.body = none := by cases hb : fn.body <;> simp_all
    have hm : ¬ fn.name = "runtime.NumGoroutine" := by simpa using hok.1
    simp [execOp, ho, resolve, Act.eval, Deferred.ofValue, invoke, callFunc, hfn, hm, hn]
  · cases hok

/-- What a call meets: what is lent, what is new. -/
def callT (mi mo : Mem) : Tch := mo.map fun x => (x.1, aget mi x.1, some x.2)
theorem tset_call (mi mo mem : Mem) : tset (callT mi mo) mem = mo ++ mem := by
  induction mo with
  | nil => rfl
  | cons x r ih =>
    obtain ⟨i, m⟩ := x
    simp only [callT, List.map_cons, tset, List.cons_append]
    exact congrArg _ ih
theorem aget_append {α : Type} (l r : List (Nat × α)) (i : Nat) : aget (l ++ r) i = (aget l i).or (aget r i) := by
  induction l with
  | nil => simp [aget]
  | cons x l ih =>
    obtain ⟨n, v⟩ := x
    rw [List.cons_append, aget_cons, aget_cons]
    split
    · rfl
    · exact ih
theorem tpre_call {mi mo mem : Mem} (h : tpre (callT mi mo) mem) (hko : keysOk mi mo = true) : (∀ i m, aget mi i = some m → aget mem i = some m) ∧ ∀ i m, aget mo i = some m → aget mi i = none → aget mem i = none := by
  have key : ∀ i m, aget mo i = some m → aget mem i = aget mi i := fun i m hi => h i _ (some m) (List.mem_map.2 ⟨(i, m), aget_mem hi, rfl⟩)
  refine ⟨fun i m hi => ?_, fun i m hi hn => (key i m hi).trans hn⟩
  obtain ⟨m', hm'⟩ := Option.isSome_iff_exists.1 (keysOk_spec hko hi)
  exact (key i m' hm').trans hi

/-- From a callee's end to the caller's state. -/
theorem call_state {F : Fr0} {g gc' : Gh} {w w' : World} {mem mi mo : Mem} (h2 : RelM F g mem w) (h3 : Kept F g w) (hM : ∀ i m, aget mi i = some m → aget mem i = some m) (hko : keysOk mi mo = true) (hnew : ∀ i m, aget mo i = some m → aget mi i = none → aget mem i = none)
    (he : Ev (g.only mi) w gc' w') (hm : RelM (lentF (g.only mi) mi w) gc' mo w') (hk : Kept (lentF (g.only mi) mi w) gc' w') :
    ∃ g2, Ev g w g2 w' ∧ RelM F g2 (mo ++ mem) w' ∧ Kept F g2 w' ∧ ∀ v x, Rep w' gc' v x → Rep w' g2 v x := by
  have hin : ∀ i m, aget mi i = some m → (aget mo i).isSome = true := fun i m hi => keysOk_spec hko hi
  have hag : ∀ i, aget (mo ++ mem) i = (aget mo i).or (aget mem i) := fun i => aget_append mo mem i
  have hB : ∀ b o, (lentF (g.only mi) mi w).B b o ↔ ∃ i m, aget mi i = some m ∧ fp g i m b o := fun b o => by
    constructor
    · rintro ⟨i, m, h, hp⟩; exact ⟨i, m, h, (fp_congr (only_at h).1 (only_at h).2).1 hp⟩
    · rintro ⟨i, m, h, hp⟩; exact ⟨i, m, h, (fp_congr (only_at h).1 (only_at h).2).2 hp⟩
  let g2 : Gh := ⟨gc'.S, fun i => if (aget mo i).isSome then gc'.bx i else g.bx i, fun i => if (aget mo i).isSome then gc'.rw i else g.rw i⟩
  have g2in : ∀ i m, aget mo i = some m → g2.bx i = gc'.bx i ∧ g2.rw i = gc'.rw i := fun i m h => by simp [g2, h]
  have g2out : ∀ i, aget mo i = none → g2.bx i = g.bx i ∧ g2.rw i = g.rw i := fun i h => by simp [g2, h]
  have hlift : Ev gc' w' g2 w' := by
    refine ⟨Nat.le_refl _, fun b o _ hs => ⟨hs, rfl⟩, fun i z hz => ?_, fun i a l c hr => ?_⟩
    · cases hmo : aget mo i with
      | none => rw [hm.nbx i hmo] at hz; cases hz
      | some m => rw [(g2in i m hmo).1]; exact hz
    · cases hmo : aget mo i with
      | none => rw [hm.nrw i hmo] at hr; cases hr
      | some m => exact ⟨a, l, c, by rw [(g2in i m hmo).2]; exact hr, Nat.le_refl _, fun _ => ⟨rfl, rfl⟩⟩
  have hev : Ev g w g2 w' := by
    refine ⟨he.size, fun b o hb hs => he.st b o hb hs, fun i z hz => ?_, fun i a l c hr => ?_⟩
    · cases hmo : aget mo i with
      | none => rw [(g2out i hmo).1]; exact hz
      | some m =>
        rw [(g2in i m hmo).1]
        cases hmi : aget mi i with
        | none => have := h2.nbx i (hnew i m hmo hmi); rw [this] at hz; cases hz
        | some m' => exact he.bx i z (by rw [(only_at hmi).1]; exact hz)
    · cases hmo : aget mo i with
      | none => exact ⟨a, l, c, by rw [(g2out i hmo).2]; exact hr, Nat.le_refl _, fun _ => ⟨rfl, rfl⟩⟩
      | some m =>
        rw [(g2in i m hmo).2]
        cases hmi : aget mi i with
        | none => have := h2.nrw i (hnew i m hmo hmi); rw [this] at hr; cases hr
        | some m' => exact he.rw i a l c (by rw [(only_at hmi).2]; exact hr)
  have hget : ∀ i m, aget (mo ++ mem) i = some m → aget mo i = some m ∨ (aget mo i = none ∧ aget mi i = none ∧ aget mem i = some m) := fun i m h => by
    rw [hag] at h
    cases hmo : aget mo i with
    | some m' => rw [hmo] at h; simp at h; subst h; exact .inl rfl
    | none =>
      rw [hmo] at h; simp at h
      cases hmi : aget mi i with
      | none => exact .inr ⟨rfl, rfl, h⟩
      | some m' => have := hin i m' hmi; rw [hmo] at this; cases this
  have hno : ∀ i m b o, aget mi i = none → aget mem i = some m → fp g i m b o → ¬ (lentF (g.only mi) mi w).B b o := fun i m b o hmi hme hp hBb => by
    obtain ⟨k, n, hk1, hk2⟩ := (hB b o).1 hBb
    exact h2.dj i k m n b o (fun e => by subst e; rw [hmi] at hk1; cases hk1) hme (hM k n hk1) hp hk2
  have hwr : ∀ b o, (lentF (g.only mi) mi w).B b o → F.wr b o := fun b o hBb => by
    obtain ⟨k, n, hk1, hk2⟩ := (hB b o).1 hBb
    exact h2.wr k n b o (hM k n hk1) hk2
  have hfin : ∀ i m b o, aget mo i = some m → fp g2 i m b o → (w.heap.size ≤ b ∨ (lentF (g.only mi) mi w).B b o) := fun i m b o hmo hp => hm.wr i m b o hmo ((fp_congr (g2in i m hmo).1 (g2in i m hmo).2).1 hp)
  have hfout : ∀ i m b o, aget mo i = none → fp g2 i m b o → fp g i m b o := fun i m b o hmo hp => (fp_congr (g2out i hmo).1 (g2out i hmo).2).1 hp
  refine ⟨g2, hev, ⟨fun i m hi => ?_, fun i m b o hi hp => ?_, fun i j m n b o hij hi hj hp hq => ?_, fun i hi => ?_, fun i hi => ?_, hm.fut, h2.loc.ev hev⟩, ⟨hk.os.trans h3.os, hk.tape.trans h3.tape, hk.output.trans h3.output, Nat.le_trans h3.size hk.size, fun b hlt hBF => ?_, fun b o hlt hBF => ?_, fun b o hlt hBF hs => ?_, fun b o hlt hs => ?_, fun b o hlt hs => ?_⟩, fun v x h => h.mono hlift⟩
  · rcases hget i m hi with hmo | ⟨hmo, hmi, hme⟩
    · exact (hm.ob i m hmo).mono hlift (g2in i m hmo).1 (g2in i m hmo).2 (fun _ _ _ => ⟨rfl, rfl, fun h => h⟩) fun _ _ => rfl
    · refine (h2.ob i m hme).mono hev (g2out i hmo).1 (g2out i hmo).2 (fun b o hp => ?_) fun b hp => ?_
      · have hlt := (h2.ob i m hme).lt hp
        obtain ⟨k1, k2⟩ := hk.cell b o hlt (hno i m b o hmi hme hp)
        exact ⟨k1, k2, hk.S1 b o hlt (hno i m b o hmi hme hp)⟩
      · exact hk.blk b ((h2.ob i m hme).lt (hp 0)) fun o => hno i m b o hmi hme (hp o)
  · rcases hget i m hi with hmo | ⟨hmo, hmi, hme⟩
    · rcases hfin i m b o hmo hp with h | h
      · exact .inl (Nat.le_trans h3.size h)
      · exact hwr b o h
    · exact h2.wr i m b o hme (hfout i m b o hmo hp)
  · have key : ∀ i m j n, aget mo i = some m → aget mo j = none → aget mi j = none → aget mem j = some n → fp g2 i m b o → fp g2 j n b o → False := fun i m j n hmo hmo' hmi hme hp hq => by
      have hq' := hfout j n b o hmo' hq
      rcases hfin i m b o hmo hp with h | h
      · have := (h2.ob j n hme).lt hq'; omega
      · exact hno j n b o hmi hme hq' h
    rcases hget i m hi with hmo | ⟨hmo, hmi, hme⟩ <;> rcases hget j n hj with hmo' | ⟨hmo', hmi', hme'⟩
    · exact hm.dj i j m n b o hij hmo hmo' ((fp_congr (g2in i m hmo).1 (g2in i m hmo).2).1 hp) ((fp_congr (g2in j n hmo').1 (g2in j n hmo').2).1 hq)
    · exact key i m j n hmo hmo' hmi' hme' hp hq
    · exact key j n i m hmo' hmo hmi hme hq hp
    · exact h2.dj i j m n b o hij hme hme' (hfout i m b o hmo hp) (hfout j n b o hmo' hq)
  · rw [hag] at hi
    cases hmo : aget mo i with
    | some m => rw [hmo] at hi; simp at hi
    | none => rw [hmo] at hi; simp at hi; rw [(g2out i hmo).1]; exact h2.nbx i hi
  · rw [hag] at hi
    cases hmo : aget mo i with
    | some m => rw [hmo] at hi; simp at hi
    | none => rw [hmo] at hi; simp at hi; rw [(g2out i hmo).2]; exact h2.nrw i hi
  · refine (hk.blk b (Nat.lt_of_lt_of_le hlt h3.size) fun o hBb => ?_).trans (h3.blk b hlt hBF)
    rcases hwr b o hBb with h | h
    · omega
    · exact hBF o h
  · have hnB : ¬ (lentF (g.only mi) mi w).B b o := fun hBb => (hwr b o hBb).elim (fun h => by omega) hBF
    obtain ⟨k1, k2⟩ := hk.cell b o (Nat.lt_of_lt_of_le hlt h3.size) hnB
    obtain ⟨l1, l2⟩ := h3.cell b o hlt hBF
    exact ⟨k1.trans l1, k2.trans l2⟩
  · have hnB : ¬ (lentF (g.only mi) mi w).B b o := fun hBb => (hwr b o hBb).elim (fun h => by omega) hBF
    exact h3.S1 b o hlt hBF (hk.S1 b o (Nat.lt_of_lt_of_le hlt h3.size) hnB hs)
  · exact hk.S2 b o (Nat.lt_of_lt_of_le hlt h3.size) (h3.S2 b o hlt hs)
  · exact (hk.cellS b o (Nat.lt_of_lt_of_le hlt h3.size) (h3.S2 b o hlt hs)).trans (h3.cellS b o hlt hs)

/-- A call's end, by its contract, in the caller's state. -/
theorem call_ends {F : Fr0} {g : Gh} {w : World} {mem mi : Mem} {fx : Nat} {args : List V} {R : Out → Mem → Prop} (hc : LM P fx args mi R) (h2 : RelM F g mem w) (h3 : Kept F g w) (hR : refsM mi mi = true) (hra : V.refs.go mi args = true) (hM : ∀ i m, aget mi i = some m → aget mem i = some m)
    {vals : Array Value} (hl : args.length = vals.size) (hr : ∀ (j : Nat) u x, args[j]? = some u → vals[j]? = some x → Rep w g u x) :
    Calls P fx vals w fun e w' => ∃ o mo, R o mo ∧ (keysOk mi mo = true → (∀ i m, aget mo i = some m → aget mi i = none → aget mem i = none) → ∃ g2, Ev g w g2 w' ∧ RelM F g2 (mo ++ mem) w' ∧ Kept F g2 w' ∧ o.At w' g2 e) := by
  have hrel : RelM (lentF (g.only mi) mi w) (g.only mi) mi w := h2.sub hM hR ⟨fun _ _ h => h, fun _ a l c h => ⟨a, l, c, h, Nat.le_refl _, fun _ => ⟨rfl, rfl⟩⟩⟩ fun i m b o hi hp => .inr ⟨i, m, hi, (fp_congr (only_at hi).1 (only_at hi).2).2 hp⟩
  refine Calls.mono (hc.go (g.only mi) w vals hrel hl fun j u x hj hx => (hr j u x hj hx).only (refs_go hra u (List.mem_of_getElem? hj))) ?_
  rintro e w' ⟨o, mo, g', hRo, he, hm, hk, hat⟩
  refine ⟨o, mo, hRo, fun hko hnew => ?_⟩
  obtain ⟨g2, k1, k2, k3, k4⟩ := call_state h2 h3 hM hko hnew he hm hk
  refine ⟨g2, k1, k2, k3, ?_⟩
  cases o with
  | ret v => obtain ⟨x, e1, e2⟩ := hat; exact ⟨x, e1, k4 v x e2⟩
  | pan v => obtain ⟨x, e1, e2⟩ := hat; exact ⟨x, e1, k4 v x e2⟩

theorem args_rep {env : Env} {g : Gh} {a : Act} {w : World} {xs : List Operand} {us args : List V} (h1 : ∀ x ∈ xs, ∀ u, evo env x = some u → Rep w g u (a.eval x)) (hx : evs env xs = some us) (hu : Fits us args) :
    args.length = ((xs.map a.eval).toArray).size ∧ ∀ (j : Nat) u x, args[j]? = some u → (xs.map a.eval).toArray[j]? = some x → Rep w g u x := by
  obtain ⟨e1, e2⟩ := evs_get hx
  obtain ⟨f1, f2⟩ := fits_rep (w := w) (g := g) hu
  refine ⟨by simp; omega, fun j u x hj hxj => ?_⟩
  obtain ⟨u0, hu0, hb⟩ := f2 hj
  obtain ⟨y, hy, hev⟩ := e2 j u0 hu0
  have : x = a.eval y := by simp [hy] at hxj; exact hxj.symm
  subst this
  exact hb _ (h1 y (List.mem_of_getElem? hy) u0 hev)

/-- A call that returns. -/
theorem Does.callM {o : Oper} {env : Env} {fx : Nat} {xs : List Operand} {ts : Array Nat} {us args : List V} {mi mo : Mem} {v : V} (hc : LM P fx args mi fun o m => o = .ret v ∧ m = mo) (ho : o.op = .call { callee := .value (.func fx), args := xs.toArray, argTypes := ts }) (hx : evs env xs = some us) (hu : Fits us args) (hr : (V.refs.go mi args && (refsM mi mi && keysOk mi mo)) = true) :
    Does P o env v (callT mi mo) := by
  refine ⟨fun F g a w mem h1 h2 h3 h4 _ K Q hK => ?_⟩
  simp only [Bool.and_eq_true] at hr
  obtain ⟨l1, l2⟩ := args_rep (fun x hxm u hxu => h1 x (by simp [ho, Op.operands, Call.operands]; exact .inr hxm) u hxu) hx hu
  obtain ⟨t1, t2⟩ := tpre_call h4 hr.2.2
  unfold Oper.wp
  rw [exec_call ho hc.ok]
  refine Calls.mono (call_ends hc h2 h3 hr.2.1 hr.1 t1 l1 l2) ?_
  rintro e w' ⟨o', mo', ⟨rfl, rfl⟩, hq⟩
  obtain ⟨g2, k1, k2, k3, x, rfl, k4⟩ := hq hr.2.2 t2
  exact hK x g2 w' k1 (by rw [tset_call]; exact k2) k3 k4
theorem Does.call {o : Oper} {env : Env} {fx : Nat} {xs : List Operand} {ts : Array Nat} {us args : List V} {out : V} (hc : LM P fx args [] fun o m => o = .ret out ∧ m = []) (ho : o.op = .call { callee := .value (.func fx), args := xs.toArray, argTypes := ts }) (hx : evs env xs = some us) (hu : Fits us args) (hr : V.refs.go [] args = true) :
    Does P o env out [] := Does.callM hc ho hx hu (by rw [hr]; rfl)

/-- An operation that ends in a panic, whatever else there is. -/
structure Pans (P : Program) (o : Oper) (env : Env) (v : V) (t : Tch) : Prop where
  ex : ∀ (F : Fr0) (g : Gh) (a : Act) (w : World) (mem : Mem), (∀ x ∈ o.op.operands.toList, ∀ u, evo env x = some u → Rep w g u (a.eval x)) → RelM F g mem w → Kept F g w → tpre t mem → a.defers = F.D →
    ∀ (K : Act → World → Prop) (Q : Exit → Act → World → Prop), (∀ x g' w', Ev g w g' w' → RelM F g' (tset t mem) w' → Kept F g' w' → Rep w' g' v x → Q (.panic [{ v := x, recovered := false }]) a w') → o.wp P a w K Q
theorem Pans.callM {o : Oper} {env : Env} {fx : Nat} {xs : List Operand} {ts : Array Nat} {us args : List V} {mi mo : Mem} {v : V} (hc : LM P fx args mi fun o m => o = .pan v ∧ m = mo) (ho : o.op = .call { callee := .value (.func fx), args := xs.toArray, argTypes := ts }) (hx : evs env xs = some us) (hu : Fits us args) (hr : (V.refs.go mi args && (refsM mi mi && keysOk mi mo)) = true) :
    Pans P o env v (callT mi mo) := by
  refine ⟨fun F g a w mem h1 h2 h3 h4 _ K Q hK => ?_⟩
  simp only [Bool.and_eq_true] at hr
  obtain ⟨l1, l2⟩ := args_rep (fun x hxm u hxu => h1 x (by simp [ho, Op.operands, Call.operands]; exact .inr hxm) u hxu) hx hu
  obtain ⟨t1, t2⟩ := tpre_call h4 hr.2.2
  unfold Oper.wp
  rw [exec_call ho hc.ok]
  refine Calls.mono (call_ends hc h2 h3 hr.2.1 hr.1 t1 l1 l2) ?_
  rintro e w' ⟨o', mo', ⟨rfl, rfl⟩, hq⟩
  obtain ⟨g2, k1, k2, k3, x, rfl, k4⟩ := hq hr.2.2 t2
  exact hK x g2 w' k1 (by rw [tset_call]; exact k2) k3 k4
theorem Pans.panic {o : Oper} {env : Env} {x : Operand} {T : TypeId} {v : V} (ho : o.op = .panic x) (hx : evo env x = some (.i T v)) : Pans P o env (.i T v) [] := by
  refine ⟨fun F g a w mem h1 h2 h3 h4 _ K Q hK => ?_⟩
  have hr := h1 x (by simp [ho, Op.operands]) _ hx
  obtain ⟨y, hy⟩ : ∃ y, a.eval x = .iface T y := by generalize a.eval x = z at hr; cases hr; exact ⟨_, rfl⟩
  rw [hy] at hr
  unfold Oper.wp
  have hrun : (execOp a.eval o).run P w = .halt (.panic (.iface T y)) w := by
    simp [execOp, ho, hy, Instr.panic, goPanic]
  rw [hrun]
  exact hK _ g w (Ev.refl g w) h2 h3 hr
theorem LS.pan {F : Fr0} {N : Nat} {Q : LQ} {env : Env} {mem : Mem} {ops : Array Oper} {o : Oper} {r : List Oper} {v : V} {t : Tch} (hg : gd ops env o = some true) (h : Pans P o env v t) (ht : tpre t mem) (hQ : Q (.pan v) env (tset t mem)) : LS P F N ops (o :: r) Q env mem := ⟨fun g a w hr =>
  wpList_step fun _ hK' => by
    rw [gd_wanted hr hg, if_pos rfl]
    exact h.ex F g a w mem (fun _ _ _ hu => hr.evo hu) hr.mem hr.kept ht hr.defers _ _ fun x g' w' he hm hk hx => ⟨env, _, g', .pan v, ⟨fun t u hu => by obtain ⟨y, h1, h2⟩ := hr.env t u hu; exact ⟨y, h1, h2.mono he⟩, hm, hk, hr.defers, hr.size, hr.big⟩, ⟨x, rfl, hx⟩, hQ⟩⟩
end
end Lf
end Go.Proofs.Ytgeccggkdgpkiaa

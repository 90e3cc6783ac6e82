/- Lifted contracts: into a function's body, out of it, and at a call. -/
import Derived.Test.YtpecjhjpdaifoaaLc
namespace Go.Proofs.Ytpecjhjpdaifoaa
open Go.RowKit Rg
namespace Lf
section
variable {P : Program}

def res1 (tab : Tab) (env : Env) (mem : Mem) : ResultVar → Option V
  | .tmp t => aget env t
  | .cell t T =>
    match aget env t, aget tab T with
    | some (.p i off), some ti =>
      match aget mem i with
      | some (.b cs) => ti.part cs off
      | _ => none
    | _, _ => none
def resL (tab : Tab) (env : Env) (mem : Mem) : List ResultVar → Option (List V)
  | [] => some []
  | r :: rs => match res1 tab env mem r, resL tab env mem rs with
    | some v, some vs => some (v :: vs)
    | _, _ => none
def resV (tab : Tab) (env : Env) (mem : Mem) : List ResultVar → Option V
  | [r] => res1 tab env mem r
  | rs => (resL tab env mem rs).map .t
inductive Exp (mem : Mem) (v : V) (R : (Option Nat → V) → Option (Nat × Nat × Nat) → Prop) : Prop
  | quiet (v' : V) (h : v.bare = some v') (hr : R (fun _ => v') none)
  | row (r E sz n : Nat) (out : Option Nat → V) (hm : aget mem r = some (.r E sz n)) (h : ∀ i, v.retag r (some i) = some (out (some i))) (hr : R out (some (E, sz, n)))
def LFin (X : TOk P) (rs : List ResultVar) (R : (Option Nat → V) → Option (Nat × Nat × Nat) → Prop) (env : Env) (mem : Mem) : Prop := ∃ v, resV X.tab env mem rs = some v ∧ Exp mem v R
theorem LFin.same {X : TOk P} {rs : List ResultVar} {R : (Option Nat → V) → Option (Nat × Nat × Nat) → Prop} {env : Env} {mem : Mem} {v : V} (h : resV X.tab env mem rs = some v) (hb : v.bare = some v) (hr : R (fun _ => v) none) : LFin X rs R env mem := ⟨v, h, .quiet v hb hr⟩
theorem LFin.eq {X : TOk P} {rs : List ResultVar} {env : Env} {mem : Mem} {v : V} (h : resV X.tab env mem rs = some v) (hb : v.bare = some v) : LFin X rs (fun o r => (o = fun _ => v) ∧ r = none) env mem := ⟨v, h, .quiet v hb ⟨rfl, rfl⟩⟩
def LRet (X : TOk P) (rs : List ResultVar) (R : (Option Nat → V) → Option (Nat × Nat × Nat) → Prop) : LQ
  | .normal, env, mem => LFin X rs R env mem
  | .ret, env, mem => LFin X rs R env mem
  | _, _, _ => False
def params : Nat → List V → Env
  | _, [] => []
  | k, v :: r => (k, v) :: params (k + 1) r

theorem params_get {args : List V} : ∀ {k t : Nat} {v : V}, aget (params k args) t = some v → k ≤ t ∧ args[t - k]? = some v := by
  induction args with
  | nil => intro k t v h; cases h
  | cons u r ih =>
    intro k t v h
    simp only [params, aget_cons] at h
    split at h
    · rename_i e; subst e; cases h; simp
    · obtain ⟨h1, h2⟩ := ih h
      refine ⟨by omega, ?_⟩
      rw [show t - k = (t - (k + 1)) + 1 from by omega, List.getElem?_cons_succ]
      exact h2

def rsem (tmps : Array Value) : ResultVar → Sem Value
  | .tmp t => pure (tmps.getD t undef)
  | .cell a t => do loadVar t (← asAddr (tmps.getD a undef))
theorem results_eq (fn : Func) (tmps : Array Value) : results fn tmps = (do let vs ← fn.results.mapM (rsem tmps); pure (if h : vs.size = 1 then vs[0] else .tuple vs)) := by
  unfold results
  congr
theorem res1_run {F : Fr0} {N : Nat} {g : Gh} {env : Env} {mem : Mem} {a : Act} {w : World} (X : TOk P) (h : Rel F N g env mem a w) {r : ResultVar} {v : V} (hv : res1 X.tab env mem r = some v) :
    ∃ x, (rsem a.tmps r).run P w = .ok x w ∧ Rep w g v x := by
  cases r with
  | tmp t =>
    obtain ⟨x, h1, h2⟩ := h.env t v hv
    exact ⟨x, by simp [rsem, h1], h2⟩
  | cell t T =>
    simp only [res1] at hv
    split at hv
    · rename_i i off ti he hT
      split at hv
      · rename_i cs hm
        obtain ⟨x, h1, h2⟩ := h.env t _ he
        obtain ⟨b, bo, e1, hB⟩ := h.mem.box i cs hm
        obtain ⟨xs, hl, hrange, hrep⟩ := hB.vals
        obtain ⟨y, hrun, hrep'⟩ := rep_part (X.get hT) hv hB.one hl hrange hrep
        cases h2 with
        | p hp =>
          rw [e1] at hp; cases hp
          refine ⟨y, ?_, hrep'⟩
          simp only [Instr.loadAt, Instr.sureAddr, Sem.run_bind, Sem.run_pure, Result.andThen_ok] at hrun
          simp [rsem, h1, asAddr, hrun]
      · cases hv
    · cases hv

theorem resV_run {F : Fr0} {N : Nat} {g : Gh} {env : Env} {mem : Mem} {a : Act} {w : World} (X : TOk P) (h : Rel F N g env mem a w) {fn : Func} {rs : List ResultVar} (hrs : fn.results = rs.toArray) (hlen : rs.length ≤ 3) {v : V} (hv : resV X.tab env mem rs = some v) :
    ∃ x, (results fn a.tmps).run P w = .ok x w ∧ Rep w g v x := by
  match rs, hlen with
  | [], _ =>
    simp [resV, resL] at hv; subst hv
    exact ⟨.tuple #[], by simp [results_eq, hrs], .t rfl (by simp)⟩
  | [r], _ =>
    obtain ⟨x, h1, h2⟩ := res1_run X h hv
    refine ⟨x, ?_, h2⟩
    simp [results_eq, hrs, h1]
  | [r, s], _ =>
    simp only [resV, resL] at hv
    obtain ⟨vs, hvs, rfl⟩ := Option.map_eq_some_iff.1 hv
    cases hr1 : res1 X.tab env mem r with
    | none => simp [hr1] at hvs
    | some v1 =>
      cases hr2 : res1 X.tab env mem s with
      | none => simp [hr1, hr2] at hvs
      | some v2 =>
        simp [hr1, hr2] at hvs; subst hvs
        obtain ⟨x1, h1, k1⟩ := res1_run X h hr1
        obtain ⟨x2, h2, k2⟩ := res1_run X h hr2
        refine ⟨.tuple #[x1, x2], ?_, .t rfl fun j u x hu hx => ?_⟩
        · simp [results_eq, hrs, h1, h2]
        · match j with
          | 0 => simp at hu hx; subst hu; subst hx; exact k1
          | 1 => simp at hu hx; subst hu; subst hx; exact k2
          | j + 2 => simp at hu
  | [r, s, t], _ =>
    simp only [resV, resL] at hv
    obtain ⟨vs, hvs, rfl⟩ := Option.map_eq_some_iff.1 hv
    cases hr1 : res1 X.tab env mem r with
    | none => simp [hr1] at hvs
    | some v1 =>
      cases hr2 : res1 X.tab env mem s with
      | none => simp [hr1, hr2] at hvs
      | some v2 =>
        cases hr3 : res1 X.tab env mem t with
        | none => simp [hr1, hr2, hr3] at hvs
        | some v3 =>
          simp [hr1, hr2, hr3] at hvs; subst hvs
          obtain ⟨x1, h1, k1⟩ := res1_run X h hr1
          obtain ⟨x2, h2, k2⟩ := res1_run X h hr2
          obtain ⟨x3, h3, k3⟩ := res1_run X h hr3
          refine ⟨.tuple #[x1, x2, x3], ?_, .t rfl fun j u x hu hx => ?_⟩
          · simp [results_eq, hrs, h1, h2, h3]
          · match j with
            | 0 => simp at hu hx; subst hu; subst hx; exact k1
            | 1 => simp at hu hx; subst hu; subst hx; exact k2
            | 2 => simp at hu hx; subst hu; subst hx; exact k3
            | j + 3 => simp at hu
  | _ :: _ :: _ :: _ :: _, h4 => simp at h4

/-- A frame that may write no old cell. -/
def Fr0.own (F : Fr0) : Prop := ∀ b o, ¬ F.B b o
theorem LFx.mkF (X : TOk P) {f N : Nat} {fn : Func} {c : Code} {args : List V} {rs : List ResultVar} {R : (Option Nat → V) → Option (Nat × Nat × Nat) → Prop} (hf : P.funcs[f]? = some fn) (hb : fn.body = some c) (hN : fn.ntmps = N) (hrs : fn.results = rs.toArray) (hok : callOk P f = true)
    (hle : Nat.ble args.length N = true) (hrl : Nat.ble rs.length 3 = true) (h : ∀ F, F.own → LC P F N c (LRet X rs R) (params 0 args) []) : LFx P f args R := by
  refine ⟨hok, fun S w vals hS hl hr => ?_⟩
  have hle' := Nat.le_of_ble_eq_true hle
  refine calls_of_wp hf hb ?_
  have hrel : Rel ⟨w, S, fun _ _ => False⟩ N ⟨S, fun _ => none, fun _ => none⟩ (params 0 args) [] { tmps := vals ++ Array.replicate (fn.ntmps - vals.size) undef, defers := [] } w := by
    refine ⟨fun t v ht => ?_, ⟨fun _ _ h => (by cases h), fun _ _ _ _ h => (by cases h), fun _ _ _ _ _ _ _ _ h => (by cases h), fun _ _ _ _ _ _ _ _ _ _ _ h => (by cases h), fun _ _ _ _ _ _ _ _ _ _ _ _ _ _ _ h => (by cases h), fun _ _ => rfl, fun _ _ => rfl, hS⟩,
      ⟨rfl, rfl, rfl, Nat.le_refl _, fun _ _ _ => rfl, fun _ _ _ _ => ⟨rfl, rfl⟩, fun _ _ _ => Iff.rfl⟩, rfl, by simp; omega⟩
    obtain ⟨_, h2⟩ := params_get ht
    rw [Nat.sub_zero] at h2
    have hlt := (List.getElem?_eq_some_iff.1 h2).1
    have hx : vals[t]? = some vals[t] := Array.getElem?_eq_getElem (by omega)
    exact ⟨vals[t], by rw [Array.getElem?_append_left (by omega)]; exact hx, hr t v _ h2 hx⟩
  refine wp_mono ((h _ (fun _ _ h => h)).go _ _ _ hrel) fun e a' w' ⟨env, mem, g, h1, h2⟩ => ?_
  have key : LFin X rs R env mem → a'.defers = [] ∧ ∃ v, (results fn a'.tmps).run P w' = .ok v w' ∧ ∃ x out row, Ending.returned v = .returned x ∧ R out row ∧ Ext w w' ∧ Ret w w' S x out row := by
    rintro ⟨v, hv, hexp⟩
    obtain ⟨x, hx, hrep⟩ := resV_run X h1 hrs (Nat.le_of_ble_eq_true hrl) hv
    have hext : Ext w w' := ⟨h1.kept.os, h1.kept.tape, h1.kept.output, h1.kept.size, fun k hk => h1.kept.blk k hk fun _ h => h⟩
    have hfut := h1.mem.fut
    refine ⟨h1.defers, x, hx, ?_⟩
    cases hexp with
    | quiet v' hv' hr' => exact ⟨x, _, none, rfl, hr', hext, g.S, h1.kept.S, hfut, hrep.to_bare hv'⟩
    | row r E sz n out hm hout hr' =>
      obtain ⟨ra, rc, e1, hR⟩ := h1.mem.row r E sz n hm
      exact ⟨x, out, some (E, sz, n), rfl, hr', hext, g.S, h1.kept.S, hfut, ra, rc, hR.pos, hR.own, hR.free, fun i => hrep.retag e1 (hout i)⟩
  cases e with
  | normal => exact key h2
  | ret => exact key h2
  | exit _ => exact h2.elim
  | goto _ => exact h2.elim
  | panic _ => exact h2.elim
  | outgrown => exact h2.elim

theorem LFx.mk' (X : TOk P) {f N : Nat} {fn : Func} {c : Code} {args : List V} {rs : List ResultVar} {R : (Option Nat → V) → Option (Nat × Nat × Nat) → Prop} (hf : P.funcs[f]? = some fn) (hb : fn.body = some c) (hN : fn.ntmps = N) (hrs : fn.results = rs.toArray) (hok : callOk P f = true)
    (hle : Nat.ble args.length N = true) (hrl : Nat.ble rs.length 3 = true) (h : ∀ F, LC P F N c (LRet X rs R) (params 0 args) []) : LFx P f args R := LFx.mkF X hf hb hN hrs hok hle hrl fun F _ => h F

/-! ### Calls -/
def evs (env : Env) : List Operand → Option (List V)
  | [] => some []
  | x :: r => match evo env x, evs env r with
    | some v, some vs => some (v :: vs)
    | _, _ => none
theorem evs_get {env : Env} : ∀ {xs : List Operand} {us : List V}, evs env xs = some us → xs.length = us.length ∧ ∀ (j : Nat) u, us[j]? = some u → ∃ x, xs[j]? = some x ∧ evo env x = some u
  | [], us, h => by simp [evs] at h; subst h; simp
  | x :: r, us, h => by
    simp only [evs] at h
    split at h
    · rename_i v vs hv hvs
      cases h
      obtain ⟨h1, h2⟩ := evs_get hvs
      refine ⟨by simp [h1], fun j u hj => ?_⟩
      cases j with
      | zero => simp at hj; subst hj; exact ⟨x, by simp, hv⟩
      | succ j => simp at hj; obtain ⟨y, hy, hu⟩ := h2 j u hj; exact ⟨y, by simpa using hy, hu⟩
    · cases h

theorem exec_call {o : Oper} {fx : Nat} {xs : List Operand} {ts : Array Nat} (ho : o.op = .call { callee := .value (.func fx), args := xs.toArray, argTypes := ts }) (hok : callOk P fx = true) (a : Act) (w : World) :
    (execOp a.eval o).run P w = .ok (.enter fx (xs.map a.eval).toArray) w := by
  unfold callOk at hok
  split at hok
  · rename_i fn hfn
    simp only [Bool.and_eq_true, Bool.not_eq_true'] at hok
    have hn : ¬ fn.body = none := by cases hb : fn.body <;> simp_all
    have hm : ¬ fn.name = "runtime.NumGoroutine" := by simpa using hok.1
    simp [execOp, ho, resolve, Act.eval, Deferred.ofValue, invoke, callFunc, hfn, hm, hn]
  · cases hok

/-- From a callee's return to the caller's state. -/
theorem ret_state {F : Fr0} {g : Gh} {w w' : World} {mem : Mem} {x : Value} {out : Option Nat → V} (h2 : RelM F g mem w) (h3 : Kept F g w) (hx : Ext w w') :
    (Ret w w' g.S x out none → ∃ g', Ev g w g' w' ∧ RelM F g' mem w' ∧ Kept F g' w' ∧ Rep w' g' (out none) x) ∧
    (∀ E sz n i, aget mem i = none → Ret w w' g.S x out (some (E, sz, n)) → ∃ g', Ev g w g' w' ∧ RelM F g' ((i, .r E sz n) :: mem) w' ∧ Kept F g' w' ∧ Rep w' g' (out (some i)) x) := by
  refine ⟨?_, ?_⟩
  · rintro ⟨S', hS, hf, hr⟩
    obtain ⟨e1, e2, e3⟩ := h2.ext (g' := ⟨S', g.bx, g.rw⟩) h3 hx hS rfl rfl hf
    exact ⟨_, e1, e2, e3, hr.of_bare (g := ⟨S', g.bx, g.rw⟩)⟩
  · rintro E sz n i hi ⟨S', hS, hf, a, c, hp, hown, hfree, hr⟩
    obtain ⟨e1, e2, e3⟩ := h2.ext (g' := ⟨S', g.bx, g.rw⟩) h3 hx hS rfl rfl hf
    obtain ⟨o1, o2⟩ := h2.old
    have hri : g.rw i = none := h2.nrw i hi
    refine ⟨Gh.addRow ⟨S', g.bx, g.rw⟩ i (a, n, c), e1.trans (Ev.addRow hri), e2.addRow hi ⟨hp, hown, fun b hb => ⟨Nat.le_trans h3.size (hfree b hb).1, (hfree b hb).2⟩⟩ (fun j ds off' b hb hj hbx => ?_) (fun j E' sz' n' b' l c' b hb hj hrw => ?_), e3.ghost rfl, ?_⟩
    · have := o1 j ds b off' hj hbx
      have := (hfree b hb).1
      omega
    · have := o2 j E' sz' n' b' l c' hj hrw
      have := (hfree b hb).1
      omega
    · refine (hr i).mono ⟨Nat.le_refl _, fun _ _ _ hs => ⟨hs, rfl⟩, fun _ _ h => (by cases h), fun r a' l' c' h => ?_⟩
      simp only [oneRow] at h
      split at h
      · rename_i e; subst e; cases h
        exact ⟨a, n, c, by simp [Gh.addRow], Nat.le_refl _, fun _ => ⟨rfl, rfl⟩⟩
      · cases h

theorem args_rep {env : Env} {g : Gh} {a : Act} {w : World} {xs : List Operand} {us args : List V} (h1 : ∀ x ∈ xs, ∀ u, evo env x = some u → Rep w g u (a.eval x)) (hx : evs env xs = some us) (hu : V.bare.go us = some args) :
    args.length = ((xs.map a.eval).toArray).size ∧ ∀ (j : Nat) u x, args[j]? = some u → (xs.map a.eval).toArray[j]? = some x → Rep w ⟨g.S, fun _ => none, fun _ => none⟩ u x := by
  obtain ⟨e1, e2⟩ := evs_get hx
  obtain ⟨f1, f2⟩ := bare_go hu
  refine ⟨by simp; omega, fun j u x hj hxj => ?_⟩
  obtain ⟨u0, hu0, hb⟩ := f2 j u hj
  obtain ⟨y, hy, hev⟩ := e2 j u0 hu0
  have : x = a.eval y := by simp [hy] at hxj; exact hxj.symm
  subst this
  exact (h1 y (List.mem_of_getElem? hy) u0 hev).to_bare hb

theorem Does.call {o : Oper} {env : Env} {fx : Nat} {xs : List Operand} {ts : Array Nat} {us args : List V} {out : Option Nat → V} (hc : LF P fx args out none) (ho : o.op = .call { callee := .value (.func fx), args := xs.toArray, argTypes := ts }) (hx : evs env xs = some us) (hu : V.bare.go us = some args) :
    Does P o env (out none) [] := by
  refine ⟨fun F g a w mem h1 h2 h3 _ _ K Q hK => ?_⟩
  obtain ⟨l1, l2⟩ := args_rep (fun x hxm u hxu => h1 x (by simp [ho, Op.operands, Call.operands]; exact .inr hxm) u hxu) hx hu
  unfold Oper.wp
  rw [exec_call ho hc.ok]
  refine Calls.mono (hc.calls g.S w _ h2.fut l1 l2) ?_
  rintro e w' ⟨x, out', row, rfl, ⟨rfl, rfl⟩, hext, hret⟩
  obtain ⟨g', k1, k2, k3, k4⟩ := (ret_state h2 h3 hext).1 hret
  exact hK x g' w' k1 k2 k3 k4
theorem Does.callR {o : Oper} {env : Env} {fx i E sz n : Nat} {xs : List Operand} {ts : Array Nat} {us args : List V} {out : Option Nat → V} (hc : LF P fx args out (some (E, sz, n))) (ho : o.op = .call { callee := .value (.func fx), args := xs.toArray, argTypes := ts }) (hx : evs env xs = some us) (hu : V.bare.go us = some args) :
    Does P o env (out (some i)) [(i, none, some (.r E sz n))] := by
  refine ⟨fun F g a w mem h1 h2 h3 h4 _ K Q hK => ?_⟩
  obtain ⟨l1, l2⟩ := args_rep (fun x hxm u hxu => h1 x (by simp [ho, Op.operands, Call.operands]; exact .inr hxm) u hxu) hx hu
  unfold Oper.wp
  rw [exec_call ho hc.ok]
  refine Calls.mono (hc.calls g.S w _ h2.fut l1 l2) ?_
  rintro e w' ⟨x, out', row, rfl, ⟨rfl, rfl⟩, hext, hret⟩
  obtain ⟨g', k1, k2, k3, k4⟩ := (ret_state h2 h3 hext).2 E sz n i (h4 _ _ _ mem_one) hret
  exact hK x g' w' k1 k2 k3 k4
/-- A call of whose result only something is known. -/
theorem LS.callx {F : Fr0} {N : Nat} {Q : LQ} {env : Env} {mem : Mem} {ops : Array Oper} {r : List Oper} {o : Oper} {fx i : Nat} {xs : List Operand} {ts : Array Nat} {us args : List V} {R : (Option Nat → V) → Option (Nat × Nat × Nat) → Prop} (hg : o.guard = none) (hc : LFx P fx args R) (ho : o.op = .call { callee := .value (.func fx), args := xs.toArray, argTypes := ts })
    (hx : evs env xs = some us) (hu : V.bare.go us = some args) (hd : dok o.dst N = true) (hi : aget mem i = none)
    (hK : ∀ out row, R out row → match row with | none => LS P F N ops r Q (bind o.dst (out none) env) mem | some (E, sz, n) => LS P F N ops r Q (bind o.dst (out (some i)) env) ((i, .r E sz n) :: mem)) : LS P F N ops (o :: r) Q env mem := ⟨fun g a w hr =>
  wpList_plain hg fun K hK' => by
    obtain ⟨l1, l2⟩ := args_rep (fun x _ u hxu => hr.evo hxu) hx hu
    unfold Oper.wp
    rw [exec_call ho hc.ok]
    refine Calls.mono (hc.calls g.S w _ hr.mem.fut l1 l2) ?_
    rintro e w' ⟨x, out', row, rfl, hR, hext, hret⟩
    have hk := hK out' row hR
    obtain ⟨q1, q2⟩ := ret_state hr.mem hr.kept hext (x := x) (out := out')
    match row, hk, hret with
    | none, hk, hret =>
      obtain ⟨g', k1, k2, k3, k4⟩ := q1 hret
      exact hK' _ _ (LS.go hk g' _ w' (hr.put k1 k2 k3 k4 hd))
    | some (E, sz, n), hk, hret =>
      obtain ⟨g', k1, k2, k3, k4⟩ := q2 E sz n i hi hret
      exact hK' _ _ (LS.go hk g' _ w' (hr.put k1 k2 k3 k4 hd))⟩
end
end Lf
end Go.Proofs.Ytpecjhjpdaifoaa

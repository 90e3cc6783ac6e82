/- A part of the proof: texts joined. -/
import Derived.RangeFuncIn
import Derived.RangeFuncRecord
import Derived.RangeFuncSeq
import Derived.Test.YtgjoecocahpfhaaQ6bda68e
namespace Go.Proofs.Ytgjoecocahpfhaa
open Go.RowKit Rg
namespace Lf
def Fr0.gh (F : Fr0) : Gh := ⟨F.S0, F.bx0, F.rw0⟩
theorem ev_start {F : Fr0} {g : Gh} {mem : Mem} {w : World} (hm : RelM F g mem w) (hk : Kept F g w) : Ev F.gh F.w0 g w :=
  ⟨hk.size, fun b o hb hs => ⟨hk.S2 b o hb hs, hk.cellS b o hb hs⟩, hm.loc.bx, hm.loc.rw⟩
theorem ev_only {g0 g : Gh} {w0 w : World} {mi : Mem} (h : Ev g0 w0 g w) (hk : ∀ i, aget mi i = none → g0.bx i = none ∧ g0.rw i = none) : Ev g0 w0 (g.only mi) w := by
  refine ⟨h.size, h.st, fun i z hz => ?_, fun i a l c hr => ?_⟩
  · have : (aget mi i).isSome = true := by
      cases hi : aget mi i with
      | some m => rfl
      | none => rw [(hk i hi).1] at hz; cases hz
    simp only [Gh.only]; rw [if_pos this]; exact h.bx i z hz
  · have : (aget mi i).isSome = true := by
      cases hi : aget mi i with
      | some m => rfl
      | none => rw [(hk i hi).2] at hr; cases hr
    obtain ⟨a', l', c', k1, k2⟩ := h.rw i a l c hr
    exact ⟨a', l', c', by simp only [Gh.only]; rw [if_pos this]; exact k1, k2⟩
section
variable {P : Program}
structure LY (P : Program) (g0 : Gh) (w0 : World) (y : Nat) (args : List V) (mi : Mem) (R : Out → Mem → Prop) : Prop where
  go : ∀ (g : Gh) (w : World) (vals : Array Value) (l o : Nat), Ev g0 w0 g w → RelM (lentF g mi w) g mi w → g.bx y = some (l, o) → args.length = vals.size → (∀ (j : Nat) u x, args[j]? = some u → vals[j]? = some x → Rep w g u x) →
    YieldAt Fence.wide 0 P l vals w fun e w' => ∃ q mo g', R q mo ∧ Ev g w g' w' ∧ RelM (lentF g mi w) g' mo w' ∧ Kept (lentF g mi w) g' w' ∧ q.At w' g' e
theorem round_any {F : Fr0} {m l f : Nat} {tmps : Array Value} {assign body : Code} {w : World} {R : Ending → World → Prop} (h : RoundIn Fence.wide m P l f tmps assign body w R) (n : Nat) : RoundIn F.fz n P l f tmps assign body w R :=
  ⟨trivial, fun c cs _ => h.2 c cs (room_wide _)⟩
theorem exec_yield {o : Oper} {l fn : Nat} {f : Operand} {xs : List Operand} {ts : Array Nat} {tmps : Array Value} {assign body : Code} (ho : o.op = .call { callee := .value f, args := xs.toArray, argTypes := ts }) (a : Act) (w : World) (hf : a.eval f = .func (.yield l) #[] #[])
    (hy : (Instr.yield l (xs.map a.eval).toArray).run P w = .ok (.round l fn tmps assign body) w) : (execOp a.eval o).run P w = .ok (.round l fn tmps assign body) w := by
  have hy' : (Instr.yield l (xs.toArray.map a.eval)).run P w = .ok (.round l fn tmps assign body) w := by simpa using hy
  simp [execOp, ho, resolve, hf, Deferred.ofValue, invoke]
  exact hy
theorem DoesF.yield {F : Fr0} {o : Oper} {env : Env} {y : Nat} {f : Operand} {xs : List Operand} {ts : Array Nat} {us args : List V} {mi mo : Mem} {v : V} (hc : LY P F.gh F.w0 y args mi fun q m => q = .ret v ∧ m = mo)
    (ho : o.op = .call { callee := .value f, args := xs.toArray, argTypes := ts }) (hf : evo env f = some (.y y)) (hx : evs env xs = some us) (hu : Fits us args) (hr : (V.refs.go mi args && (refsM mi mi && keysOk mi mo)) = true) (hy : (aget mi y).isSome = true) (hk : ∀ i, aget mi i = none → F.bx0 i = none ∧ F.rw0 i = none) : DoesF P F o env v (callT mi mo) := by
  refine ⟨fun F0 hx0 g a w mem h1 h2 h3 h4 hd K Q hK => ?_⟩
  simp only [Bool.and_eq_true] at hr
  obtain ⟨l1, l2⟩ := args_rep (fun x hxm u hxu => h1 x (by simp [ho, Op.operands, Call.operands]; exact .inr hxm) u hxu) hx hu
  obtain ⟨t1, t2⟩ := tpre_call h4 hr.2.2
  have hfv := h1 f (by simp [ho, Op.operands, Call.operands]) _ hf
  obtain ⟨l, o', hb, hfe⟩ : ∃ l o', g.bx y = some (l, o') ∧ a.eval f = .func (.yield l) #[] #[] := by
    generalize a.eval f = z at hfv
    cases hfv with
    | y h => exact ⟨_, _, h, rfl⟩
  have hrel : RelM (lentF (g.only mi) mi w) (g.only mi) mi w := h2.sub t1 hr.2.1 ⟨(show TabAt w g.S from h2.loc.tab.kept h3), fun _ _ h => h, fun _ a l c h => ⟨a, l, c, h, Nat.le_refl _, fun _ => ⟨rfl, rfl⟩⟩⟩ fun i m b o hi hp => .inr ⟨i, m, hi, (fp_congr (only_at hi).1 (only_at hi).2).2 hp⟩
  have hev : Ev F.gh F.w0 (g.only mi) w := ev_only (ev_start (hx0.relM h2) (hx0.kept _ _ h3)) hk
  have hby : (g.only mi).bx y = some (l, o') := by simp only [Gh.only]; rw [if_pos hy]; exact hb
  obtain ⟨fn, tmps, assign, body, hrun, hround⟩ := hc.go (g.only mi) w _ l o' hev hrel hby l1 fun j u x hj hxj => (l2 j u x hj hxj).only (refs_go hr.1 u (List.mem_of_getElem? hj))
  refine ⟨fun _ _ => trivial, ?_⟩
  rw [Oper.semAt_eq _ _ _ (fun c e => by rw [ho] at e; cases e), exec_yield ho a w hfe hrun, Oper.uponIn_round]
  refine ⟨fun h => (by cases h), RoundIn.mono (round_any hround _) ?_⟩
  rintro e w' ⟨q, mo', g', ⟨rfl, rfl⟩, he, hm', hk', x, rfl, hat⟩
  obtain ⟨g2, k1, k2, k3, k4⟩ := call_state h2 h3 t1 hr.2.2 t2 he hm' hk'
  exact hK x g2 w' k1 (by rw [tset_call]; exact k2) k3 (k4 _ _ hat)
structure LI (P : Program) (f : Nat) (args : List V) (mi : Mem) (Y : Gh → World → Prop) (R : Out → Mem → Prop) : Prop where
  ok : callOk P f = true
  go : ∀ (g : Gh) (w : World) (vals : Array Value), Y g w → RelM (lentF g mi w) g mi w → args.length = vals.size → (∀ (j : Nat) u x, args[j]? = some u → vals[j]? = some x → Rep w g u x) →
    Calls P f vals w fun e w' => ∃ o mo g', R o mo ∧ Ev g w g' w' ∧ RelM (lentF g mi w) g' mo w' ∧ Kept (lentF g mi w) g' w' ∧ o.At w' g' e
theorem LI.enter (X : TOk P) {f N : Nat} {fn : Func} {c : Code} {args : List V} {rs : List ResultVar} {mi : Mem} {Y : Gh → World → Prop} {R : Out → Mem → Prop} (hf : P.funcs[f]? = some fn) (hb : fn.body = some c) (hN : fn.ntmps = N) (hrs : fn.results = rs.toArray) (hok : callOk P f = true)
    (hle : Nat.ble args.length N = true) (hrl : Nat.ble rs.length 3 = true) (hbig : (mi.all fun x => Nat.ble 1000 x.1) = true) (hks : ∀ o mo, R o mo → keysOk mi mo = true) (h : ∀ F, F.D = [] → Y F.gh F.w0 → (∀ i, aget mi i = none → F.bx0 i = none ∧ F.rw0 i = none) → LC P F N c (LRet X rs R) (params 0 args) mi) : LI P f args mi Y R :=
  ⟨hok, fun _ _ _ hY hm hl hr => enter_core X hf hb hN hrs hle hrl hbig hks hm hl hr false (h _ rfl hY fun i hi => ⟨hm.nbx i hi, hm.nrw i hi⟩)⟩
end
end Lf
open Go.RowKit Rg
namespace Lf
section
variable {P : Program} {F : Fr0} {g : Gh} {mem : Mem} {w : World}
theorem relM_ro {ro : Option Nat} {mk : Bool} (h : RelM F g mem w) : RelM { F with ro := ro, lm := mk } g mem w := ⟨h.ob, h.wr, h.dj, h.nbx, h.nrw, h.fut, ⟨h.loc.tab, h.loc.bx, h.loc.rw⟩⟩
theorem relM_or {ro : Option Nat} {mk : Bool} (h : RelM { F with ro := ro, lm := mk } g mem w) : RelM F g mem w := ⟨h.ob, h.wr, h.dj, h.nbx, h.nrw, h.fut, ⟨h.loc.tab, h.loc.bx, h.loc.rw⟩⟩
theorem kept_or {ro : Option Nat} {mk : Bool} (h : Kept { F with ro := ro, lm := mk } g w) : Kept F g w := ⟨h.os, h.tape, h.output, h.size, h.blk, h.cell, h.S1, h.S2, h.cellS⟩
def recL (fn : Nat) (tmps : Array Value) (ps : Array Tmp) (assign body : Code) (D : Nat) (st : LoopState) (pe : Option Code) : Loop := { state := st, pending := pe, fn, tmps, params := ps, assign, body, defers := D }
abbrev LoF := LoopState → Option Code → Obj
def LRnd (lo : LoF) (y : Nat) (R : Bool → Mem → Prop) : LQ
  | .normal, _, mem => aget mem y = some (.o (lo .busy none)) ∧ ∃ mo, SubM ((y, .o (lo .ready none)) :: mem) mo ∧ refsM mo mo = true ∧ R true mo
  | .exit id, _, mem => aget mem y = some (.o (lo .busy none)) ∧ ∃ mo, SubM ((y, .o (lo .done (some (.exit id)))) :: mem) mo ∧ refsM mo mo = true ∧ R false mo
  | .ret, _, mem => aget mem y = some (.o (lo .busy none)) ∧ ∃ mo, SubM ((y, .o (lo .done (some .ret))) :: mem) mo ∧ refsM mo mo = true ∧ R false mo
  | _, _, _ => False
def LAs (P : Program) (F : Fr0) (N : Nat) (body : Code) (lo : LoF) (y : Nat) (R : Bool → Mem → Prop) : LQ
  | .normal, env, mem => aget mem y = some (.o (lo .ready none)) ∧ LC P F N body (LRnd lo y R) env ((y, .o (lo .busy none)) :: mem)
  | _, _, _ => False
theorem set_rec (hm : RelM F g mem w) (hk : Kept F g w) {y l o : Nat} {r : Loop} {r' : Loop} (hb : g.bx y = some (l, o)) (hi : aget mem y = some (.o (.loop r))) :
    w.heap[l]? = some (.loop r) ∧ Ev g w g (w.putObj l (.loop r')) ∧ RelM F g ((y, .o (.loop r')) :: mem) (w.putObj l (.loop r')) ∧ Kept F g (w.putObj l (.loop r')) := by
  cases hm.ob y _ hi with
  | o hg h hS =>
    rw [hb] at hg
    cases hg
    have hlt := (Array.getElem?_eq_some_iff.1 h).1
    exact ⟨h, hm.setO hk (m' := .o (.loop r')) (ob := .loop r') hi (fun _ _ => Iff.rfl) hb hS rfl rfl rfl rfl (fun _ => .o hb (World.putObj_heap_same hlt) hS) (fun _ _ hp => hp)⟩
theorem end_round {mi mo mem1 : Mem} {w0 w1 : World} {g0 g1 : Gh} (b : Bool) {R : Bool → Mem → Prop} (h0 : RelM (lentF g0 mi w0) g0 mi w0) (hm : RelM (lentF g0 mi w0) g1 mem1 w1) (hk : Kept (lentF g0 mi w0) g1 w1) (hs : SubM mem1 mo) (hr : refsM mo mo = true) (hko : keysOk mi mo = true) (hR : R b mo) :
    ∃ q mo g', (∃ b, q = Out.ret (.k (.bool b)) ∧ R b mo) ∧ Ev g0 w0 g' w1 ∧ RelM (lentF g0 mi w0) g' mo w1 ∧ Kept (lentF g0 mi w0) g' w1 ∧ q.At w1 g' (.returned (.bool b)) := by
  have ht : Tells mem1 (.k (.bool b)) (.k (.bool b)) mo := ⟨⟨fun _ => true, false, rfl⟩, hs, by rw [hr]; rfl⟩
  obtain ⟨r1, r2, r3, r4⟩ := ht.rep rfl hko h0 (Rep.k (.bool b)) hm hk
  exact ⟨.ret (.k (.bool b)), mo, _, ⟨b, rfl, hR⟩, r4, r2, r3, .bool b, rfl, r1⟩
theorem LY.round {N y p fn D : Nat} {tmps : Array Value} {assign body : Code} {env : Env} {v : V} {mi : Mem} {g0 : Gh} {w0 : World} {R : Bool → Mem → Prop} (hN : tmps.size = N) (henv : ∀ t u, aget env t = some u → ∃ x, tmps[t]? = some x ∧ Rep w0 g0 u x)
    (hp : Nat.blt p N = true) (hbig : (mi.all fun x => Nat.ble 1000 x.1) = true) (hmi : aget mi y = some (.o (.loop (recL fn tmps #[p] assign body D .ready none)))) (hks : ∀ b m, R b m → keysOk mi m = true)
    (h : ∀ F, F.D = [] → LC P F N assign (LAs P F N body (fun st pe => .loop (recL fn tmps #[p] assign body D st pe)) y R) ((p, v) :: env) mi) :
    LY P g0 w0 y [v] mi fun q m => ∃ b, q = .ret (.k (.bool b)) ∧ R b m := by
  refine ⟨fun g w vals l o hev hm hb hl hr => ?_⟩
  have hpN : p < N := Nat.le_of_ble_eq_true hp
  obtain ⟨hrec, _, _, _⟩ := set_rec (F := lentF g mi w) (r' := recL fn tmps #[p] assign body D .ready none) hm ⟨rfl, rfl, rfl, Nat.le_refl _, fun _ _ _ => rfl, fun _ _ _ _ => ⟨rfl, rfl⟩, fun _ _ _ _ h => h, fun _ _ _ h => h, fun _ _ _ _ => rfl⟩ hb hmi
  obtain ⟨x, hvals⟩ : ∃ x, vals = #[x] := by
    obtain ⟨l⟩ := vals
    match l, hl with
    | [x], _ => exact ⟨x, rfl⟩
  subst hvals
  have hx : Rep w g v x := hr 0 v x rfl rfl
  refine ⟨fn, _, assign, body, run_yield hrec (by rfl), roundIn_of_wpIn trivial ?_⟩
  let FR : Fr0 := { lentF g mi w with ro := some l, lm := false }
  have hbg : FR.Big := fun i hi => by
    have : aget mi i = none := by
      cases hg : aget mi i with
      | none => rfl
      | some m =>
        have h1 := Nat.le_of_ble_eq_true (List.all_eq_true.1 hbig _ (aget_mem hg))
        exact absurd h1 (by simp; omega)
    exact ⟨hm.nbx i this, hm.nrw i this⟩
  have hrel : Rel FR N g ((p, v) :: env) mi { tmps := tmps.setIfInBounds p x, defers := [] } w := by
    refine ⟨fun t u hu => ?_, relM_ro hm, ⟨rfl, rfl, rfl, Nat.le_refl _, fun _ _ _ => rfl, fun _ _ _ _ => ⟨rfl, rfl⟩, fun _ _ _ _ h => h, fun _ _ _ h => h, fun _ _ _ _ => rfl⟩, rfl, by simpa using hN, hbg⟩
    rw [aget_cons] at hu
    split at hu
    · rename_i e; subst e; cases hu; exact ⟨x, by simp [hN, hpN], hx⟩
    · rename_i e
      obtain ⟨z, h1, h2⟩ := henv t u hu
      exact ⟨z, by rw [Array.getElem?_setIfInBounds_ne e]; exact h1, h2.mono hev⟩
  have hbl : ∀ g' w', Kept FR g' w' → LocOk FR g' → g'.bx y = some (l, o) := fun g' w' _ hL => hL.bx y _ hb
  have hfold : (((recL fn tmps #[p] assign body D .ready none).params.zip #[x]).foldl (fun t (q : Tmp × Value) => match q with | (t0, a) => t.setIfInBounds t0 a) (recL fn tmps #[p] assign body D .ready none).tmps) = tmps.setIfInBounds p x := by simp [recL]
  show assign.wpIn _ 0 P _ { tmps := (((recL fn tmps #[p] assign body D .ready none).params.zip #[x]).foldl (fun t (q : Tmp × Value) => match q with | (t0, a) => t.setIfInBounds t0 a) (recL fn tmps #[p] assign body D .ready none).tmps), defers := [] } w
  rw [hfold]
  refine wpIn_mono ((h FR rfl).go FR (.refl _) g _ w hrel) fun e a1 w1 ⟨F1, hF1, env1, mem1, g1, le, r1, r3, r2⟩ => ?_
  obtain rfl := hF1.same rfl
  cases le with
  | exit _ => exact r2.elim
  | goto _ => exact r2.elim
  | ret => exact r2.elim
  | pan _ => exact r2.elim
  | normal =>
  cases r3
  obtain ⟨hm1, hbody⟩ := r2
  obtain ⟨q1, q2, q3, q4⟩ := set_rec (r' := recL fn tmps #[p] assign body D .busy none) r1.mem r1.kept (hbl _ _ r1.kept r1.mem.loc) hm1
  refine ⟨_, run_beginRound q1 rfl, ?_⟩
  have hrel2 : Rel FR N g1 env1 ((y, .o (.loop (recL fn tmps #[p] assign body D .busy none))) :: mem1) a1 (w1.putObj l (.loop (recL fn tmps #[p] assign body D .busy none))) :=
    ⟨fun t u hu => by obtain ⟨z, h1, h2⟩ := r1.env t u hu; exact ⟨z, h1, h2.mono q2⟩, q3, q4, r1.defers, r1.size, r1.big⟩
  refine wpIn_mono (hbody.go FR (.refl _) g1 a1 _ hrel2) fun e a2 w2 ⟨F2, hF2, env2, mem2, g2, le, s1, s3, s2⟩ => ?_
  obtain rfl := hF2.same rfl
  have fin : ∀ (b : Bool) (pe : Option Code) (st : LoopState), aget mem2 y = some (.o (.loop (recL fn tmps #[p] assign body D .busy none))) → (∃ mo, SubM ((y, .o (.loop (recL fn tmps #[p] assign body D st pe))) :: mem2) mo ∧ refsM mo mo = true ∧ R b mo) → b = pe.isNone → st = (if pe.isNone then .ready else .done) →
      ∃ v w', (Instr.endRound l pe).run P w2 = .ok v w' ∧ ∃ q mo g', (∃ b, q = Out.ret (.k (.bool b)) ∧ R b mo) ∧ Ev g w g' w' ∧ RelM (lentF g mi w) g' mo w' ∧ Kept (lentF g mi w) g' w' ∧ q.At w' g' (.returned v) := by
    rintro b pe st hy2 ⟨mo, t1, t2, t3⟩ rfl rfl
    obtain ⟨u1, u2, u3, u4⟩ := set_rec (r' := recL fn tmps #[p] assign body D (if pe.isNone then .ready else .done) pe) s1.mem s1.kept (hbl _ _ s1.kept s1.mem.loc) hy2
    exact ⟨_, _, run_endRound pe u1, end_round pe.isNone hm (relM_or u3) (kept_or u4) t1 t2 (hks _ _ t3) t3⟩
  cases le with
  | normal => cases s3; exact fin true none .ready s2.1 s2.2 rfl rfl
  | exit id => cases s3; exact fin false (some (.exit id)) .done s2.1 s2.2 rfl rfl
  | ret => cases s3; exact fin false (some .ret) .done s2.1 s2.2 rfl rfl
  | goto _ => exact s2.elim
  | pan _ => exact s2.elim
def endO (lo : LoF) (id : Nat) (b : Bool) : Obj := cond b (lo .ready none) (lo .done (some (.exit id)))
theorem LC.range {F : Fr0} {N gf p y id : Nat} {Q : LQ} {env : Env} {mem m1 : Mem} {g : Operand} {assign body : Code} {caps : List V} {σ α : Type} (ok : σ → α → Prop) (va : α → V) (ms : σ → Mem) (go : σ → α → Bool) (nx : σ → α → σ) (fin : Bool)
    (hlm : F.lm = true) (hro : F.ro = none) (hg : evo env g = some (.f (.func gf) [] caps)) (hp : Nat.blt p N = true) (hy : aget mem y = none) (hyb : Nat.ble 1000 y = true)
    (hre : ∀ ob, (refsE ((y, .o ob) :: mem) env && (refsM ((y, .o ob) :: mem) ((y, .o ob) :: mem) && V.refs.go ((y, .o ob) :: mem) (.y y :: caps))) = true)
    (hbig : ∀ s, ((ms s).all fun x => Nat.ble 1000 x.1) = true) (hks : ∀ (s : σ) (x : α), ok s x → ∀ ob ob', keysOk ((y, .o ob) :: ms s) ((y, .o ob') :: ms (nx s x)) = true)
    (rounds : ∀ (lo : LoF) FR, FR.D = [] → ∀ s x, ok s x → LC P FR N assign (LAs P FR N body lo y (fun b m => b = go s x ∧ m = (y, .o (endO lo id (go s x))) :: ms (nx s x))) ((p, va x) :: env) ((y, .o (lo .ready none)) :: ms s))
    (iter : ∀ lo : LoF, LI P gf (.y y :: caps) ((y, .o (lo .ready none)) :: mem) (fun g w => ∀ s x, ok s x → LY P g w y [va x] ((y, .o (lo .ready none)) :: ms s) fun q m => q = .ret (.k (.bool (go s x))) ∧ m = (y, .o (endO lo id (go s x))) :: ms (nx s x)) fun q m => q = .ret (.t []) ∧ m = (y, .o (endO lo id fin)) :: m1)
    (hk1 : ∀ ob ob', keysOk ((y, .o ob) :: mem) ((y, .o ob') :: m1) = true) (hr1 : (refsE ((y, .x) :: m1) env && refsM ((y, .x) :: m1) ((y, .x) :: m1)) = true)
    (done : fin = true → Q .normal env ((y, .x) :: m1)) (stop : fin = false → Q (.exit id) env ((y, .x) :: m1)) : LC P F N (.rangeFunc g #[p] assign body) Q env mem := by
  refine ⟨fun F0 hx0 gh a w hr => ?_⟩
  have hgv := hr.evo hg
  obtain ⟨lb, hlb, hge, hcaps⟩ : ∃ lb : Array Value, caps.length = lb.size ∧ a.eval g = .func (.func gf) #[] lb ∧ ∀ (j : Nat) u x, caps[j]? = some u → lb[j]? = some x → Rep w gh u x := by
    generalize a.eval g = z at hgv
    cases hgv with
    | @f _ _ _ _ vs us h1 h2 hf hc =>
      have : vs = #[] := Array.eq_empty_of_size_eq_zero (by simpa using h1.symm)
      subst this
      exact ⟨us, h2, rfl, hc⟩
  have hro0 : F0.fz.round = none := hx0.ro.trans hro
  refine wpIn_rangeFunc fun fn _ => ?_
  rw [hro0]
  have hx : Ext w (w.alloc (.deferred (some []))) := Below.alloc (Below.refl _ w) (Nat.le_refl _) _
  obtain ⟨v1, m2, k2⟩ := hr.mem.ext (g' := gh) hr.kept hx (fun _ _ _ => Iff.rfl) rfl rfl (fun b o hb => hr.mem.fut b o (by have := World.size_alloc w (.deferred (some [])); omega))
  have hsz : (w.alloc (.deferred (some []))).heap.size = w.heap.size + 1 := World.size_alloc _ _
  have hDn : (w.alloc (.deferred (some []))).heap[w.heap.size]? = some (.deferred (some [])) := World.alloc_heap_new w _
  let F1 : Fr0 := { w0 := w.alloc (.deferred (some [])), S0 := gh.S, B := fun b o => ∃ i m, aget mem i = some m ∧ fp gh i m b o, bx0 := F0.bx0, rw0 := F0.rw0, D := markD w.heap.size :: F0.D, ro := F0.ro, lm := F0.lm }
  have hB : ∀ b o, F1.B b o → F0.wr b o := fun b o ⟨i, m, hi, hp⟩ => hr.mem.wr i m b o hi hp
  have hDB : ∀ o, ¬ F1.wr w.heap.size o := fun o ho => by
    rcases ho with ho | ⟨i, m, hi, hp⟩
    · have : w.heap.size + 1 ≤ w.heap.size := by rw [← hsz]; exact ho
      omega
    · have := (hr.mem.ob i m hi).lt hp; omega
  have hE : F0.Ext F1 := by
    refine ⟨fun e => ?_, rfl, rfl, rfl, rfl, fun b o hb => ?_, Nat.le_trans hr.kept.size (by show _ ≤ (w.alloc _).heap.size; omega), fun g' hL => ⟨hr.mem.loc.tab, hL.bx, hL.rw⟩, fun g' w' hk => ?_, [w.heap.size], rfl, by simp, fun D hD => ?_⟩
    · rw [hx0.lm, hlm] at e; cases e
    · rcases hb with hb | hb
      · refine .inl (Nat.le_trans hr.kept.size ?_)
        have h1 : w.heap.size + 1 ≤ b := by rw [← hsz]; exact hb
        omega
      · exact hB b o hb
    · have hlt : ∀ b, b < F0.w0.heap.size → b < F1.w0.heap.size := fun b hb => by show b < (w.alloc _).heap.size; have := hr.kept.size; omega
      have hn : ∀ b o, b < F0.w0.heap.size → ¬ F0.B b o → ¬ F1.B b o := fun b o hb hnb hb1 => by
        rcases hB b o hb1 with h | h
        · omega
        · exact hnb h
      refine ⟨hk.os.trans k2.os, hk.tape.trans k2.tape, hk.output.trans k2.output, Nat.le_trans k2.size hk.size, fun b hb hnb => (hk.blk b (hlt b hb) fun o => hn b o hb (hnb o)).trans (k2.blk b hb hnb), fun b o hb hnb => ?_, fun b o hb hnb hs => k2.S1 b o hb hnb (hk.S1 b o (hlt b hb) (hn b o hb hnb) hs), fun b o hb hs => hk.S2 b o (hlt b hb) (k2.S2 b o hb hs), fun b o hb hs => (hk.cellS b o (hlt b hb) (k2.S2 b o hb hs)).trans (k2.cellS b o hb hs)⟩
      obtain ⟨c1, c2⟩ := hk.cell b o (hlt b hb) (hn b o hb hnb)
      obtain ⟨d1, d2⟩ := k2.cell b o hb hnb
      exact ⟨c1.trans d1, c2.trans d2⟩
    · have : D = w.heap.size := by simpa using hD
      subst this
      exact ⟨hr.kept.size, by show _ < (w.alloc _).heap.size; omega, hDB, hDn⟩
  have mF : RelM F1 gh mem (w.alloc (.deferred (some []))) := ⟨m2.ob, fun i m b o hi hp => .inr ⟨i, m, hi, hp⟩, m2.dj, m2.nbx, m2.nrw, m2.fut, ⟨(show TabAt (w.alloc _) gh.S from m2.loc.tab.kept k2), m2.loc.bx, m2.loc.rw⟩⟩
  have kF : Kept F1 gh (w.alloc (.deferred (some []))) := ⟨rfl, rfl, rfl, Nat.le_refl _, fun _ _ _ => rfl, fun _ _ _ _ => ⟨rfl, rfl⟩, fun _ _ _ _ h => h, fun _ _ _ h => h, fun _ _ _ _ => rfl⟩
  obtain ⟨g1, hb1, v3, m3, k3⟩ := mF.newO kF (i := y) (ob := .loop (recL fn a.tmps #[p] assign body w.heap.size .ready none)) hy
  let lo : LoF := fun st pe => .loop (recL fn a.tmps #[p] assign body w.heap.size st pe)
  have hre' := hre (lo .ready none)
  simp only [Bool.and_eq_true] at hre'
  obtain ⟨hre1, hre2, hre3⟩ := hre'
  have vv : Ev gh w g1 ((w.alloc (.deferred (some []))).alloc (lo .ready none)) := v1.trans v3
  have hy1 : aget ((y, M.o (lo .ready none)) :: mem) y = some (.o (lo .ready none)) := aget_self ..
  have hrel : RelM (lentF (g1.only ((y, .o (lo .ready none)) :: mem)) ((y, .o (lo .ready none)) :: mem) ((w.alloc (.deferred (some []))).alloc (lo .ready none))) (g1.only ((y, .o (lo .ready none)) :: mem)) ((y, .o (lo .ready none)) :: mem) ((w.alloc (.deferred (some []))).alloc (lo .ready none)) :=
    m3.sub (fun _ _ h => h) hre2 ⟨(show TabAt _ g1.S from m3.loc.tab.kept k3), fun _ _ h => h, fun _ a l c h => ⟨a, l, c, h, Nat.le_refl _, fun _ => ⟨rfl, rfl⟩⟩⟩ fun i m b o hi hp => .inr ⟨i, m, hi, (fp_congr (only_at hi).1 (only_at hi).2).2 hp⟩
  have hYs : ∀ s x, ok s x → LY P (g1.only ((y, .o (lo .ready none)) :: mem)) ((w.alloc (.deferred (some []))).alloc (lo .ready none)) y [va x] ((y, .o (lo .ready none)) :: ms s) fun q m => q = .ret (.k (.bool (go s x))) ∧ m = (y, .o (endO lo id (go s x))) :: ms (nx s x) := by
    intro s x hok
    have h1 := LY.round (P := P) (N := N) (y := y) (p := p) (fn := fn) (D := w.heap.size) (tmps := a.tmps) (assign := assign) (body := body) (env := env) (v := va x) (mi := (y, .o (lo .ready none)) :: ms s) (g0 := g1.only ((y, .o (lo .ready none)) :: mem)) (w0 := (w.alloc (.deferred (some []))).alloc (lo .ready none))
      (R := fun b m => b = go s x ∧ m = (y, .o (endO lo id (go s x))) :: ms (nx s x)) hr.size (fun t u hu => by obtain ⟨z, e1, e2⟩ := hr.env t u hu; exact ⟨z, e1, (e2.mono vv).only (refsE_get hre1 hu)⟩) hp (by rw [List.all_cons, hbig s]; simpa using hyb) (aget_self ..) (fun b m ⟨_, e⟩ => by rw [e]; exact hks s x hok _ _) (fun FR hFR => rounds lo FR hFR s x hok)
    refine ⟨fun g w vals l o a1 a2 a3 a4 a5 => ?_⟩
    obtain ⟨fn', tmps', asg, bo, b1, b2⟩ := h1.go g w vals l o a1 a2 a3 a4 a5
    refine ⟨fn', tmps', asg, bo, b1, b2.mono ?_⟩
    rintro e w' ⟨q, mo, g', ⟨b, rfl, rfl, rfl⟩, r⟩
    exact ⟨_, _, g', ⟨rfl, rfl⟩, r⟩
  have hok := (iter lo).ok
  refine ⟨w.heap.size + 1, [markD w.heap.size], (w.alloc (.deferred (some []))).alloc (lo .ready none), { target := .fn (.func gf) lb, args := #[.func (.yield (w.heap.size + 1)) #[] #[]] }, (w.alloc (.deferred (some []))).alloc (lo .ready none), gf, #[.func (.yield (w.heap.size + 1)) #[] #[]] ++ lb, (w.alloc (.deferred (some []))).alloc (lo .ready none), run_enterLoop_outer _ _ _ _ _, ?_, fun _ _ => trivial, ?_, fun h => (by cases h), ?_⟩
  · simp only [resolve, hge]
    simp [Deferred.ofValue, Act.eval]
  · unfold callOk at hok
    split at hok
    · rename_i fn' hfn
      simp only [Bool.and_eq_true, Bool.not_eq_true'] at hok
      have hn : ¬ fn'.body = none := by cases hb : fn'.body <;> simp_all
      have hm : ¬ fn'.name = "runtime.NumGoroutine" := by simpa using hok.1
      simp [invoke, callFunc, hfn, hm, hn]
    · cases hok
  have hargs : ∀ (j : Nat) u x, (V.y y :: caps)[j]? = some u → (#[Value.func (.yield (w.heap.size + 1)) #[] #[]] ++ lb)[j]? = some x → Rep ((w.alloc (.deferred (some []))).alloc (lo .ready none)) (g1.only ((y, .o (lo .ready none)) :: mem)) u x := fun j u x hj hxj => by
    refine Rep.only ?_ (refs_go hre3 u (List.mem_of_getElem? hj))
    cases j with
    | zero =>
      simp at hj; subst hj
      rw [Array.getElem?_append_left (by simp)] at hxj
      simp at hxj; subst hxj
      exact .y (o := 0) (by rw [hb1, hsz])
    | succ j =>
      simp at hj
      rw [Array.getElem?_append_right (by simp)] at hxj
      simp at hxj
      exact (hcaps j u x hj hxj).mono vv
  refine calls_in (Calls.mono ((iter lo).go _ _ _ hYs hrel (by simp; omega) hargs) ?_)
  rintro e w3 ⟨q, mo, g3, ⟨rfl, rfl⟩, he, hm3, hk3, x, rfl, _⟩
  obtain ⟨g2, E, RM, K, _⟩ := call_state m3 k3 (fun _ _ h => h) (hk1 _ _) (fun _ _ _ h => h) he hm3 hk3
  have hby : g2.bx y = some (w.heap.size + 1, 0) := by rw [← hsz]; exact E.bx y _ hb1
  have hyo : aget ((y, M.o (endO lo id fin)) :: m1 ++ ((y, M.o (lo .ready none)) :: mem)) y = some (.o (endO lo id fin)) := aget_self ..
  -- the record is put away
  have last : ∀ (pe : Option Code) (st : LoopState), endO lo id fin = lo st pe → st ≠ .busy → (∀ w4, (Instr.endLoop (w.heap.size + 1)).run P w3 = .ok pe w4 → (∃ g4, Rel F1 N g4 env ((y, .x) :: m1) { a with defers := [markD w.heap.size] ++ a.defers } w4) → 
      rangePost F0.fz 0 P (w.heap.size + 1) (liftQ F0 N Q) { a with defers := [markD w.heap.size] ++ a.defers } (.returned x) w3) → rangePost F0.fz 0 P (w.heap.size + 1) (liftQ F0 N Q) { a with defers := [markD w.heap.size] ++ a.defers } (.returned x) w3 := by
    intro pe st hst hnb K1
    have hyo' : aget ((y, M.o (endO lo id fin)) :: m1 ++ ((y, M.o (lo .ready none)) :: mem)) y = some (.o (lo st pe)) := by rw [hyo, hst]
    obtain ⟨u1, u2, u3, u4⟩ := set_rec (r := recL fn a.tmps #[p] assign body w.heap.size st pe) (r' := recL fn a.tmps #[p] assign body w.heap.size .exhausted pe) RM K hby hyo'
    refine K1 _ (run_endLoop (r := recL fn a.tmps #[p] assign body w.heap.size st pe) u1 hnb) ?_
    simp only [Bool.and_eq_true] at hr1
    have hsub : ∀ i m, aget ((y, M.x) :: m1) i = some m → i ≠ y → aget ((y, M.o (endO lo id fin)) :: m1 ++ ((y, M.o (lo .ready none)) :: mem)) i = some m := fun i m hi hne => by
      rw [aget_ne (Ne.symm hne)] at hi
      rw [List.cons_append, aget_ne (Ne.symm hne), aget_append, hi]
      rfl
    have RM2 : RelM F1 g2 ((y, .x) :: m1) (w3.putObj (w.heap.size + 1) (.loop (recL fn a.tmps #[p] assign body w.heap.size .exhausted pe))) ∨ True := .inr trivial
    have hin : ∀ i, aget mem i ≠ none → (aget ((y, M.x) :: m1) i).isSome = true := fun i hi => by
      obtain ⟨m, hm⟩ := Option.ne_none_iff_exists'.1 hi
      have hne : i ≠ y := fun e => by rw [e, hy] at hm; cases hm
      have := keysOk_spec (hk1 (lo .ready none) (lo .ready none)) (i := i) (m := m) (by rw [aget_ne (Ne.symm hne)]; exact hm)
      rw [aget_ne (Ne.symm hne)] at this ⊢
      exact this
    have hL : LocOk F1 (g2.only ((y, .x) :: m1)) := by
      refine ⟨RM.loc.tab, fun i z hz => ?_, fun i a l c hr' => ?_⟩
      · have := hin i fun e => by have h1 := hr.mem.loc.bx i z hz; rw [hr.mem.nbx i e] at h1; cases h1
        simp only [Gh.only]; rw [if_pos this]; exact RM.loc.bx i z hz
      · have := hin i fun e => by obtain ⟨_, _, _, h1, _⟩ := hr.mem.loc.rw i a l c hr'; rw [hr.mem.nrw i e] at h1; cases h1
        obtain ⟨a', l', c', k1, k2⟩ := RM.loc.rw i a l c hr'
        exact ⟨a', l', c', by simp only [Gh.only]; rw [if_pos this]; exact k1, k2⟩
    have mX : RelM F1 g2 ((y, .x) :: ((y, .o (.loop (recL fn a.tmps #[p] assign body w.heap.size .exhausted pe))) :: ((y, M.o (endO lo id fin)) :: m1 ++ ((y, M.o (lo .ready none)) :: mem)))) (w3.putObj (w.heap.size + 1) (.loop (recL fn a.tmps #[p] assign body w.heap.size .exhausted pe))) :=
      ⟨fun i m hi => by rw [aget_cons] at hi; split at hi; (· cases hi; exact .x); (· exact u3.ob i m hi), fun i m b o hi hp => by rw [aget_cons] at hi; split at hi; (· cases hi; exact hp.elim); (· exact u3.wr i m b o hi hp),
        fun i j m n b o hij hi hj hp hq => by
          rw [aget_cons] at hi hj
          split at hi
          · cases hi; exact hp.elim
          · split at hj
            · cases hj; exact hq.elim
            · exact u3.dj i j m n b o hij hi hj hp hq,
        fun i hi => by rw [aget_cons] at hi; split at hi; (· cases hi); (· exact u3.nbx i hi), fun i hi => by rw [aget_cons] at hi; split at hi; (· cases hi); (· exact u3.nrw i hi), u3.fut, u3.loc⟩
    have hM : ∀ i m, aget ((y, M.x) :: m1) i = some m → aget ((y, M.x) :: ((y, M.o (.loop (recL fn a.tmps #[p] assign body w.heap.size .exhausted pe))) :: ((y, M.o (endO lo id fin)) :: m1 ++ ((y, M.o (lo .ready none)) :: mem)))) i = some m := fun i m hi => by
      by_cases e : i = y
      · subst e; rw [aget_self] at hi ⊢; exact hi
      · rw [aget_ne (Ne.symm e), aget_ne (Ne.symm e)]; exact hsub i m hi e
    have mY := mX.sub (F' := F1) hM hr1.2 hL fun i m b o hi hp => mX.wr i m b o (hM i m hi) hp
    refine ⟨_, fun t u hu => ?_, mY, ⟨u4.os, u4.tape, u4.output, u4.size, u4.blk, u4.cell, u4.S1, u4.S2, u4.cellS⟩, by show [markD w.heap.size] ++ a.defers = _; rw [hr.defers]; rfl, hr.size, hr.big⟩
    obtain ⟨z, e1, e2⟩ := hr.env t u hu
    exact ⟨z, e1, (((e2.mono vv).mono E).mono u2).only (refsE_get hr1.1 hu)⟩
  cases fin with
  | true => exact last none .ready rfl (by intro e; cases e) fun w4 h4 ⟨g4, h5⟩ => ⟨none, w4, h4, F1, hE, env, _, g4, .normal, h5, rfl, done rfl⟩
  | false => exact last (some (.exit id)) .done rfl (by intro e; cases e) fun w4 h4 ⟨g4, h5⟩ => ⟨some (.exit id), w4, h4, wpIn_exit ⟨F1, hE, env, _, g4, .exit id, h5, rfl, stop rfl⟩⟩
end
end Lf
open Go.RowKit Rg
namespace Lf
section
variable {P : Program}
theorem LC.rangeE {τ : Type} {Fin : τ → Prop} {F : Fr0} {N gf p y id : Nat} {Q : LQ} {env : Env} {mem : Mem} {m1 : τ → Mem} {g : Operand} {assign body : Code} {caps : List V} {σ α : Type} (ok : σ → α → Prop) (va : α → V) (ms : σ → Mem) (go : σ → α → Bool) (nx : σ → α → σ)
    (hlm : F.lm = true) (hro : F.ro = none) (hg : evo env g = some (.f (.func gf) [] caps)) (hp : Nat.blt p N = true) (hy : aget mem y = none) (hyb : Nat.ble 1000 y = true)
    (hre : ∀ ob, (refsE ((y, .o ob) :: mem) env && (refsM ((y, .o ob) :: mem) ((y, .o ob) :: mem) && V.refs.go ((y, .o ob) :: mem) (.y y :: caps))) = true)
    (hbig : ∀ s, ((ms s).all fun x => Nat.ble 1000 x.1) = true) (hks : ∀ (s : σ) (x : α), ok s x → ∀ ob ob', keysOk ((y, .o ob) :: ms s) ((y, .o ob') :: ms (nx s x)) = true)
    (rounds : ∀ (lo : LoF) FR, FR.D = [] → ∀ s x, ok s x → LC P FR N assign (LAs P FR N body lo y (fun b m => b = go s x ∧ m = (y, .o (endO lo id (go s x))) :: ms (nx s x))) ((p, va x) :: env) ((y, .o (lo .ready none)) :: ms s))
    (iter : ∀ lo : LoF, LI P gf (.y y :: caps) ((y, .o (lo .ready none)) :: mem) (fun g w => ∀ s x, ok s x → LY P g w y [va x] ((y, .o (lo .ready none)) :: ms s) fun q m => q = .ret (.k (.bool (go s x))) ∧ m = (y, .o (endO lo id (go s x))) :: ms (nx s x)) fun q m => q = .ret (.t []) ∧ ∃ t, Fin t ∧ m = (y, .o (endO lo id true)) :: m1 t)
    (hk1 : ∀ t, Fin t → ∀ ob ob', keysOk ((y, .o ob) :: mem) ((y, .o ob') :: m1 t) = true) (hr1 : ∀ t, Fin t → (refsE ((y, .x) :: m1 t) env && refsM ((y, .x) :: m1 t) ((y, .x) :: m1 t)) = true)
    (done : ∀ t, Fin t → Q .normal env ((y, .x) :: m1 t)) : LC P F N (.rangeFunc g #[p] assign body) Q env mem := by
  refine ⟨fun F0 hx0 gh a w hr => ?_⟩
  have hgv := hr.evo hg
  obtain ⟨lb, hlb, hge, hcaps⟩ : ∃ lb : Array Value, caps.length = lb.size ∧ a.eval g = .func (.func gf) #[] lb ∧ ∀ (j : Nat) u x, caps[j]? = some u → lb[j]? = some x → Rep w gh u x := by
    generalize a.eval g = z at hgv
    cases hgv with
    | @f _ _ _ _ vs us h1 h2 hf hc =>
      have : vs = #[] := Array.eq_empty_of_size_eq_zero (by simpa using h1.symm)
      subst this
      exact ⟨us, h2, rfl, hc⟩
  have hro0 : F0.fz.round = none := hx0.ro.trans hro
  refine wpIn_rangeFunc fun fn _ => ?_
  rw [hro0]
  have hx : Ext w (w.alloc (.deferred (some []))) := Below.alloc (Below.refl _ w) (Nat.le_refl _) _
  obtain ⟨v1, m2, k2⟩ := hr.mem.ext (g' := gh) hr.kept hx (fun _ _ _ => Iff.rfl) rfl rfl (fun b o hb => hr.mem.fut b o (by have := World.size_alloc w (.deferred (some [])); omega))
  have hsz : (w.alloc (.deferred (some []))).heap.size = w.heap.size + 1 := World.size_alloc _ _
  have hDn : (w.alloc (.deferred (some []))).heap[w.heap.size]? = some (.deferred (some [])) := World.alloc_heap_new w _
  let F1 : Fr0 := { w0 := w.alloc (.deferred (some [])), S0 := gh.S, B := fun b o => ∃ i m, aget mem i = some m ∧ fp gh i m b o, bx0 := F0.bx0, rw0 := F0.rw0, D := markD w.heap.size :: F0.D, ro := F0.ro, lm := F0.lm }
  have hB : ∀ b o, F1.B b o → F0.wr b o := fun b o ⟨i, m, hi, hp⟩ => hr.mem.wr i m b o hi hp
  have hDB : ∀ o, ¬ F1.wr w.heap.size o := fun o ho => by
    rcases ho with ho | ⟨i, m, hi, hp⟩
    · have : w.heap.size + 1 ≤ w.heap.size := by rw [← hsz]; exact ho
      omega
    · have := (hr.mem.ob i m hi).lt hp; omega
  have hE : F0.Ext F1 := by
    refine ⟨fun e => ?_, rfl, rfl, rfl, rfl, fun b o hb => ?_, Nat.le_trans hr.kept.size (by show _ ≤ (w.alloc _).heap.size; omega), fun g' hL => ⟨hr.mem.loc.tab, hL.bx, hL.rw⟩, fun g' w' hk => ?_, [w.heap.size], rfl, by simp, fun D hD => ?_⟩
    · rw [hx0.lm, hlm] at e; cases e
    · rcases hb with hb | hb
      · refine .inl (Nat.le_trans hr.kept.size ?_)
        have h1 : w.heap.size + 1 ≤ b := by rw [← hsz]; exact hb
        omega
      · exact hB b o hb
    · have hlt : ∀ b, b < F0.w0.heap.size → b < F1.w0.heap.size := fun b hb => by show b < (w.alloc _).heap.size; have := hr.kept.size; omega
      have hn : ∀ b o, b < F0.w0.heap.size → ¬ F0.B b o → ¬ F1.B b o := fun b o hb hnb hb1 => by
        rcases hB b o hb1 with h | h
        · omega
        · exact hnb h
      refine ⟨hk.os.trans k2.os, hk.tape.trans k2.tape, hk.output.trans k2.output, Nat.le_trans k2.size hk.size, fun b hb hnb => (hk.blk b (hlt b hb) fun o => hn b o hb (hnb o)).trans (k2.blk b hb hnb), fun b o hb hnb => ?_, fun b o hb hnb hs => k2.S1 b o hb hnb (hk.S1 b o (hlt b hb) (hn b o hb hnb) hs), fun b o hb hs => hk.S2 b o (hlt b hb) (k2.S2 b o hb hs), fun b o hb hs => (hk.cellS b o (hlt b hb) (k2.S2 b o hb hs)).trans (k2.cellS b o hb hs)⟩
      obtain ⟨c1, c2⟩ := hk.cell b o (hlt b hb) (hn b o hb hnb)
      obtain ⟨d1, d2⟩ := k2.cell b o hb hnb
      exact ⟨c1.trans d1, c2.trans d2⟩
    · have : D = w.heap.size := by simpa using hD
      subst this
      exact ⟨hr.kept.size, by show _ < (w.alloc _).heap.size; omega, hDB, hDn⟩
  have mF : RelM F1 gh mem (w.alloc (.deferred (some []))) := ⟨m2.ob, fun i m b o hi hp => .inr ⟨i, m, hi, hp⟩, m2.dj, m2.nbx, m2.nrw, m2.fut, ⟨(show TabAt (w.alloc _) gh.S from m2.loc.tab.kept k2), m2.loc.bx, m2.loc.rw⟩⟩
  have kF : Kept F1 gh (w.alloc (.deferred (some []))) := ⟨rfl, rfl, rfl, Nat.le_refl _, fun _ _ _ => rfl, fun _ _ _ _ => ⟨rfl, rfl⟩, fun _ _ _ _ h => h, fun _ _ _ h => h, fun _ _ _ _ => rfl⟩
  obtain ⟨g1, hb1, v3, m3, k3⟩ := mF.newO kF (i := y) (ob := .loop (recL fn a.tmps #[p] assign body w.heap.size .ready none)) hy
  let lo : LoF := fun st pe => .loop (recL fn a.tmps #[p] assign body w.heap.size st pe)
  have hre' := hre (lo .ready none)
  simp only [Bool.and_eq_true] at hre'
  obtain ⟨hre1, hre2, hre3⟩ := hre'
  have vv : Ev gh w g1 ((w.alloc (.deferred (some []))).alloc (lo .ready none)) := v1.trans v3
  have hy1 : aget ((y, M.o (lo .ready none)) :: mem) y = some (.o (lo .ready none)) := aget_self ..
  have hrel : RelM (lentF (g1.only ((y, .o (lo .ready none)) :: mem)) ((y, .o (lo .ready none)) :: mem) ((w.alloc (.deferred (some []))).alloc (lo .ready none))) (g1.only ((y, .o (lo .ready none)) :: mem)) ((y, .o (lo .ready none)) :: mem) ((w.alloc (.deferred (some []))).alloc (lo .ready none)) :=
    m3.sub (fun _ _ h => h) hre2 ⟨(show TabAt _ g1.S from m3.loc.tab.kept k3), fun _ _ h => h, fun _ a l c h => ⟨a, l, c, h, Nat.le_refl _, fun _ => ⟨rfl, rfl⟩⟩⟩ fun i m b o hi hp => .inr ⟨i, m, hi, (fp_congr (only_at hi).1 (only_at hi).2).2 hp⟩
  have hYs : ∀ s x, ok s x → LY P (g1.only ((y, .o (lo .ready none)) :: mem)) ((w.alloc (.deferred (some []))).alloc (lo .ready none)) y [va x] ((y, .o (lo .ready none)) :: ms s) fun q m => q = .ret (.k (.bool (go s x))) ∧ m = (y, .o (endO lo id (go s x))) :: ms (nx s x) := by
    intro s x hok
    have h1 := LY.round (P := P) (N := N) (y := y) (p := p) (fn := fn) (D := w.heap.size) (tmps := a.tmps) (assign := assign) (body := body) (env := env) (v := va x) (mi := (y, .o (lo .ready none)) :: ms s) (g0 := g1.only ((y, .o (lo .ready none)) :: mem)) (w0 := (w.alloc (.deferred (some []))).alloc (lo .ready none))
      (R := fun b m => b = go s x ∧ m = (y, .o (endO lo id (go s x))) :: ms (nx s x)) hr.size (fun t u hu => by obtain ⟨z, e1, e2⟩ := hr.env t u hu; exact ⟨z, e1, (e2.mono vv).only (refsE_get hre1 hu)⟩) hp (by rw [List.all_cons, hbig s]; simpa using hyb) (aget_self ..) (fun b m ⟨_, e⟩ => by rw [e]; exact hks s x hok _ _) (fun FR hFR => rounds lo FR hFR s x hok)
    refine ⟨fun g w vals l o a1 a2 a3 a4 a5 => ?_⟩
    obtain ⟨fn', tmps', asg, bo, b1, b2⟩ := h1.go g w vals l o a1 a2 a3 a4 a5
    refine ⟨fn', tmps', asg, bo, b1, b2.mono ?_⟩
    rintro e w' ⟨q, mo, g', ⟨b, rfl, rfl, rfl⟩, r⟩
    exact ⟨_, _, g', ⟨rfl, rfl⟩, r⟩
  have hok := (iter lo).ok
  refine ⟨w.heap.size + 1, [markD w.heap.size], (w.alloc (.deferred (some []))).alloc (lo .ready none), { target := .fn (.func gf) lb, args := #[.func (.yield (w.heap.size + 1)) #[] #[]] }, (w.alloc (.deferred (some []))).alloc (lo .ready none), gf, #[.func (.yield (w.heap.size + 1)) #[] #[]] ++ lb, (w.alloc (.deferred (some []))).alloc (lo .ready none), run_enterLoop_outer _ _ _ _ _, ?_, fun _ _ => trivial, ?_, fun h => (by cases h), ?_⟩
  · simp only [resolve, hge]
    simp [Deferred.ofValue, Act.eval]
  · unfold callOk at hok
    split at hok
    · rename_i fn' hfn
      simp only [Bool.and_eq_true, Bool.not_eq_true'] at hok
      have hn : ¬ fn'.body = none := by cases hb : fn'.body <;> simp_all
      have hm : ¬ fn'.name = "runtime.NumGoroutine" := by simpa using hok.1
      simp [invoke, callFunc, hfn, hm, hn]
    · cases hok
  have hargs : ∀ (j : Nat) u x, (V.y y :: caps)[j]? = some u → (#[Value.func (.yield (w.heap.size + 1)) #[] #[]] ++ lb)[j]? = some x → Rep ((w.alloc (.deferred (some []))).alloc (lo .ready none)) (g1.only ((y, .o (lo .ready none)) :: mem)) u x := fun j u x hj hxj => by
    refine Rep.only ?_ (refs_go hre3 u (List.mem_of_getElem? hj))
    cases j with
    | zero =>
      simp at hj; subst hj
      rw [Array.getElem?_append_left (by simp)] at hxj
      simp at hxj; subst hxj
      exact .y (o := 0) (by rw [hb1, hsz])
    | succ j =>
      simp at hj
      rw [Array.getElem?_append_right (by simp)] at hxj
      simp at hxj
      exact (hcaps j u x hj hxj).mono vv
  refine calls_in (Calls.mono ((iter lo).go _ _ _ hYs hrel (by simp; omega) hargs) ?_)
  rintro e w3 ⟨q, mo, g3, ⟨rfl, tt0, htt, rfl⟩, he, hm3, hk3, x, rfl, _⟩
  obtain ⟨g2, E, RM, K, _⟩ := call_state m3 k3 (fun _ _ h => h) (hk1 tt0 htt _ _) (fun _ _ _ h => h) he hm3 hk3
  have hby : g2.bx y = some (w.heap.size + 1, 0) := by rw [← hsz]; exact E.bx y _ hb1
  have hyo : aget ((y, M.o (endO lo id true)) :: (m1 tt0) ++ ((y, M.o (lo .ready none)) :: mem)) y = some (.o (endO lo id true)) := aget_self ..
  -- the record is put away
  have last : ∀ (pe : Option Code) (st : LoopState), endO lo id true = lo st pe → st ≠ .busy → (∀ w4, (Instr.endLoop (w.heap.size + 1)).run P w3 = .ok pe w4 → (∃ g4, Rel F1 N g4 env ((y, .x) :: (m1 tt0)) { a with defers := [markD w.heap.size] ++ a.defers } w4) → 
      rangePost F0.fz 0 P (w.heap.size + 1) (liftQ F0 N Q) { a with defers := [markD w.heap.size] ++ a.defers } (.returned x) w3) → rangePost F0.fz 0 P (w.heap.size + 1) (liftQ F0 N Q) { a with defers := [markD w.heap.size] ++ a.defers } (.returned x) w3 := by
    intro pe st hst hnb K1
    have hyo' : aget ((y, M.o (endO lo id true)) :: (m1 tt0) ++ ((y, M.o (lo .ready none)) :: mem)) y = some (.o (lo st pe)) := by rw [hyo, hst]
    obtain ⟨u1, u2, u3, u4⟩ := set_rec (r := recL fn a.tmps #[p] assign body w.heap.size st pe) (r' := recL fn a.tmps #[p] assign body w.heap.size .exhausted pe) RM K hby hyo'
    refine K1 _ (run_endLoop (r := recL fn a.tmps #[p] assign body w.heap.size st pe) u1 hnb) ?_
    have hrr := hr1 tt0 htt
    simp only [Bool.and_eq_true] at hrr
    have hsub : ∀ i m, aget ((y, M.x) :: (m1 tt0)) i = some m → i ≠ y → aget ((y, M.o (endO lo id true)) :: (m1 tt0) ++ ((y, M.o (lo .ready none)) :: mem)) i = some m := fun i m hi hne => by
      rw [aget_ne (Ne.symm hne)] at hi
      rw [List.cons_append, aget_ne (Ne.symm hne), aget_append, hi]
      rfl
    have RM2 : RelM F1 g2 ((y, .x) :: (m1 tt0)) (w3.putObj (w.heap.size + 1) (.loop (recL fn a.tmps #[p] assign body w.heap.size .exhausted pe))) ∨ True := .inr trivial
    have hin : ∀ i, aget mem i ≠ none → (aget ((y, M.x) :: (m1 tt0)) i).isSome = true := fun i hi => by
      obtain ⟨m, hm⟩ := Option.ne_none_iff_exists'.1 hi
      have hne : i ≠ y := fun e => by rw [e, hy] at hm; cases hm
      have := keysOk_spec (hk1 tt0 htt (lo .ready none) (lo .ready none)) (i := i) (m := m) (by rw [aget_ne (Ne.symm hne)]; exact hm)
      rw [aget_ne (Ne.symm hne)] at this ⊢
      exact this
    have hL : LocOk F1 (g2.only ((y, .x) :: (m1 tt0))) := by
      refine ⟨RM.loc.tab, fun i z hz => ?_, fun i a l c hr' => ?_⟩
      · have := hin i fun e => by have h1 := hr.mem.loc.bx i z hz; rw [hr.mem.nbx i e] at h1; cases h1
        simp only [Gh.only]; rw [if_pos this]; exact RM.loc.bx i z hz
      · have := hin i fun e => by obtain ⟨_, _, _, h1, _⟩ := hr.mem.loc.rw i a l c hr'; rw [hr.mem.nrw i e] at h1; cases h1
        obtain ⟨a', l', c', k1, k2⟩ := RM.loc.rw i a l c hr'
        exact ⟨a', l', c', by simp only [Gh.only]; rw [if_pos this]; exact k1, k2⟩
    have mX : RelM F1 g2 ((y, .x) :: ((y, .o (.loop (recL fn a.tmps #[p] assign body w.heap.size .exhausted pe))) :: ((y, M.o (endO lo id true)) :: (m1 tt0) ++ ((y, M.o (lo .ready none)) :: mem)))) (w3.putObj (w.heap.size + 1) (.loop (recL fn a.tmps #[p] assign body w.heap.size .exhausted pe))) :=
      ⟨fun i m hi => by rw [aget_cons] at hi; split at hi; (· cases hi; exact .x); (· exact u3.ob i m hi), fun i m b o hi hp => by rw [aget_cons] at hi; split at hi; (· cases hi; exact hp.elim); (· exact u3.wr i m b o hi hp),
        fun i j m n b o hij hi hj hp hq => by
          rw [aget_cons] at hi hj
          split at hi
          · cases hi; exact hp.elim
          · split at hj
            · cases hj; exact hq.elim
            · exact u3.dj i j m n b o hij hi hj hp hq,
        fun i hi => by rw [aget_cons] at hi; split at hi; (· cases hi); (· exact u3.nbx i hi), fun i hi => by rw [aget_cons] at hi; split at hi; (· cases hi); (· exact u3.nrw i hi), u3.fut, u3.loc⟩
    have hM : ∀ i m, aget ((y, M.x) :: (m1 tt0)) i = some m → aget ((y, M.x) :: ((y, M.o (.loop (recL fn a.tmps #[p] assign body w.heap.size .exhausted pe))) :: ((y, M.o (endO lo id true)) :: (m1 tt0) ++ ((y, M.o (lo .ready none)) :: mem)))) i = some m := fun i m hi => by
      by_cases e : i = y
      · subst e; rw [aget_self] at hi ⊢; exact hi
      · rw [aget_ne (Ne.symm e), aget_ne (Ne.symm e)]; exact hsub i m hi e
    have mY := mX.sub (F' := F1) hM hrr.2 hL fun i m b o hi hp => mX.wr i m b o (hM i m hi) hp
    refine ⟨_, fun t u hu => ?_, mY, ⟨u4.os, u4.tape, u4.output, u4.size, u4.blk, u4.cell, u4.S1, u4.S2, u4.cellS⟩, by show [markD w.heap.size] ++ a.defers = _; rw [hr.defers]; rfl, hr.size, hr.big⟩
    obtain ⟨z, e1, e2⟩ := hr.env t u hu
    exact ⟨z, e1, (((e2.mono vv).mono E).mono u2).only (refsE_get hrr.1 hu)⟩
  exact last none .ready rfl (by intro e; cases e) fun w4 h4 ⟨g4, h5⟩ => ⟨none, w4, h4, F1, hE, env, _, g4, .normal, h5, rfl, done tt0 htt⟩
end
end Lf
open Go.RowKit Rg
set_option maxRecDepth 100000
namespace Lf
namespace Rj
theorem aget_keys {α : Type} : ∀ {l m : List (Nat × α)} {i : Nat}, l.map (·.1) = m.map (·.1) → aget l i = none → aget m i = none
  | [], [], _, _, _ => rfl
  | [], _ :: _, _, h, _ => by simp at h
  | _ :: _, [], _, h, _ => by simp at h
  | (a, x) :: l, (b, y) :: m, i, h, hi => by
    simp only [List.map_cons, List.cons.injEq] at h
    obtain ⟨rfl, h⟩ := h
    rw [aget_cons] at hi ⊢
    split at hi
    · cases hi
    · rename_i hne; rw [if_neg hne]; exact aget_keys h hi
theorem yield_ {P : Program} {F : Fr0} {N : Nat} {Q : LQ} {ops : Array Oper} {rs : List Oper} {o : Oper} {env : Env} {mem : Mem} {y d : Nat} {f : Operand} {xs : List Operand} {ts : Array Nat} {us args : List V} {mi mo : Mem} {v : V} (hc : LY P F.gh F.w0 y args mi fun q m => q = .ret v ∧ m = mo) (hg : gd ops env o = some true) (hds : o.dst = some d)
    (ho : o.op = .call { callee := .value f, args := xs.toArray, argTypes := ts }) (hf : evo env f = some (.y y)) (hx : evs env xs = some us) (hu : Fits us args) (hr : (V.refs.go mi args && (refsM mi mi && keysOk mi mo)) = true) (hy : (aget mi y).isSome = true) (hk : ∀ i, aget mi i = none → F.bx0 i = none ∧ F.rw0 i = none) (ht : TPre mi mo mem) (hd : Nat.blt d N = true)
    (hK : LS P F N ops rs Q ((d, v) :: env) (mo ++ mem)) : LS P F N ops (o :: rs) Q env mem :=
  LS.stepF hg (DoesF.yield hc ho hf hx hu hr hy hk) (tpre_callT ht) (by rw [hds]; exact hd) (by rw [hds, tset_call]; exact hK)
theorem exists_pm' : ∀ (ks is : List Nat), ks.Nodup → is.Nodup → ks.length = is.length → ∃ ρ : Pm, ks.map ρ.f = is ∧ ∀ i, i ∉ ks → i ∉ is → ρ.f i = i
  | [], [], _, _, _ => ⟨⟨id, id, fun _ => rfl, fun _ => rfl⟩, rfl, fun _ _ _ => rfl⟩
  | [], _ :: _, _, _, h => by simp at h
  | _ :: _, [], _, _, h => by simp at h
  | k :: ks, i :: is, hk, hi, h => by
    obtain ⟨ρ, hρ, hfix⟩ := exists_pm' ks is (List.nodup_cons.1 hk).2 (List.nodup_cons.1 hi).2 (by simpa using h)
    refine ⟨(Pm.swap (ρ.f k) i).comp ρ, ?_, fun j hj1 hj2 => ?_⟩
    · rw [List.map_cons]
      congr 1
      · simp [Pm.comp, Pm.swap, swapF]
      · rw [← hρ]
        refine List.map_congr_left fun j hj => ?_
        have h1 : ρ.f j ≠ ρ.f k := fun e => (List.nodup_cons.1 hk).1 (ρ.inj e ▸ hj)
        have h2 : ρ.f j ≠ i := fun e => (List.nodup_cons.1 hi).1 (by rw [← e, ← hρ]; exact List.mem_map_of_mem hj)
        simp [Pm.comp, Pm.swap, swapF, h1, h2]
    · have e := hfix j (fun h => hj1 (by simp [h])) (fun h => hj2 (by simp [h]))
      have h1 : ρ.f j ≠ ρ.f k := fun e2 => hj1 (by rw [ρ.inj e2]; simp)
      have h2 : ρ.f j ≠ i := fun e2 => hj2 (by rw [← e2, e]; simp)
      show swapF (ρ.f k) i (ρ.f j) = j
      unfold swapF
      rw [if_neg h1, if_neg h2, e]
theorem ren_ {P : Program} {F : Fr0} {N : Nat} {Q : LQ} {env env' : Env} {mem mem' : Mem} {c : Code} (ks is : List Nat) (hk : ks.Nodup) (hi : is.Nodup) (hl : ks.length = is.length)
    (hfr : ∀ i, i ∈ ks ∨ i ∈ is → F.bx0 i = none ∧ F.rw0 i = none) (hren : ∀ ρ : Pm, ks.map ρ.f = is → (∀ i, i ∉ ks → i ∉ is → ρ.f i = i) → Mem.ren ρ.f mem' = mem ∧ ∀ t v, aget env' t = some v → aget env t = some (v.ren ρ.f)) (h : LC P F N c Q env' mem') : LC P F N c Q env mem := by
  obtain ⟨ρ, hρ, hfix⟩ := exists_pm' ks is hk hi hl
  obtain ⟨h1, h2⟩ := hren ρ hρ hfix
  have hcl : ∀ i, i ∈ ks ∨ i ∈ is → ρ.f i ∈ ks ∨ ρ.f i ∈ is := fun i hi => Classical.byContradiction fun hn => by
    have hn1 : ρ.f i ∉ ks := fun e => hn (.inl e)
    have hn2 : ρ.f i ∉ is := fun e => hn (.inr e)
    have := ρ.inj (hfix _ hn1 hn2)
    rcases hi with hi | hi
    · exact hn1 (by rw [this]; exact hi)
    · exact hn2 (by rw [this]; exact hi)
  have hsame : ∀ i, F.bx0 (ρ.f i) = F.bx0 i ∧ F.rw0 (ρ.f i) = F.rw0 i := fun i => by
    by_cases hm : i ∈ ks ∨ i ∈ is
    · obtain ⟨a1, a2⟩ := hfr i hm
      obtain ⟨b1, b2⟩ := hfr _ (hcl i hm)
      rw [a1, a2, b1, b2]; exact ⟨rfl, rfl⟩
    · rw [hfix i (fun e => hm (.inl e)) (fun e => hm (.inr e))]; exact ⟨rfl, rfl⟩
  refine ⟨fun F0 hx g a w hr => h.go F0 hx (g.pull ρ.f) a w ?_⟩
  have hp : F0.pull ρ.f = F0 := by
    unfold Fr0.pull
    have e1 : (fun i => F0.bx0 (ρ.f i)) = F0.bx0 := funext fun i => by rw [hx.bx]; exact (hsame i).1
    have e2 : (fun i => F0.rw0 (ρ.f i)) = F0.rw0 := funext fun i => by rw [hx.rw]; exact (hsame i).2
    rw [e1, e2]
  have hm := relM_pull ρ (F := F0) (g := g) (mem := mem') (w := w) (by rw [h1]; exact hr.mem)
  rw [hp] at hm
  refine ⟨fun t v hv => ?_, hm, ⟨hr.kept.os, hr.kept.tape, hr.kept.output, hr.kept.size, hr.kept.blk, hr.kept.cell, hr.kept.S1, hr.kept.S2, hr.kept.cellS⟩, hr.defers, hr.size, hr.big⟩
  obtain ⟨x, e1, e2⟩ := hr.env t _ (h2 t v hv)
  exact ⟨x, e1, rep_pull ρ e2⟩
theorem enterR_ {P : Program} (X : TOk P) {f N : Nat} {fn : Func} {c : Code} {args : List V} {rs : List ResultVar} {mi : Mem} {R : Out → Mem → Prop} (hf : P.funcs[f]? = some fn) (hb : fn.body = some c) (hN : fn.ntmps = N) (hrs : fn.results = rs.toArray) (hok : callOk P f = true)
    (hle : Nat.ble args.length N = true) (hrl : Nat.ble rs.length 3 = true) (hbig : (mi.all fun x => Nat.ble 1000 x.1) = true) (hks : ∀ o mo, R o mo → keysOk mi mo = true) (h : ∀ F, F.D = [] → F.ro = none → F.lm = true → (∀ i, aget mi i = none → F.bx0 i = none ∧ F.rw0 i = none) → LC P F N c (LRet X rs R) (params 0 args) mi) : LM P f args mi R :=
  ⟨hok, fun _ _ _ hm hl hr => enter_core X hf hb hN hrs hle hrl hbig hks hm hl hr true (h _ rfl rfl rfl fun i hi => ⟨hm.nbx i hi, hm.nrw i hi⟩)⟩
end Rj
end Lf
end Go.Proofs.Ytgjoecocahpfhaa

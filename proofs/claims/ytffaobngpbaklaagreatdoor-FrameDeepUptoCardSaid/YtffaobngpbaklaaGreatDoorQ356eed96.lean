/- A part of the proof: texts joined. -/
import Derived.Recover
import Derived.Laws.Externs
import Derived.Lib.Bytealg
import Derived.Test.YtffaobngpbaklaaGreatDoorQ348a19d2
set_option linter.unusedVariables false
set_option linter.unusedSimpArgs false
namespace Go.Proofs.YtffaobngpbaklaaGreatDoor
set_option linter.unusedSimpArgs false
open Go.RowKit Rg
namespace Lf
section
variable {P : Program}
def RvAt (w : World) (g : Gh) (u : FrameMode) : Option V → Prop
 | none => u = .returning
 | some v => ∃ x, u = .panicking [{ v := x, recovered := false }] ∧ Rep w g v x
structure DefC (P : Program) (f : Nat) (args : List V) (rv : Option V) (mi mo : Mem) : Prop where
 go : ∀ (g : Gh) (w : World) (vals : Array Value) (u : FrameMode), RelM (lentF g mi w) g mi w → args.length = vals.size → (∀ (j : Nat) y x, args[j]? = some y → vals[j]? = some x → Rep w g y x) →
  RvAt w g u rv →
  CallsD P f vals u w fun e u' w' => (∃ y, e = .returned y) ∧ settle u' = .returning ∧ ∃ g', Ev g w g' w' ∧ RelM (lentF g mi w) g' mo w' ∧ Kept (lentF g mi w) g' w'
def rvV : Option V → V
 | none => .k .nilIface
 | some v => v
theorem DefC.enter (X : TOk P) {f N d1 d2 id : Nat} {fn : Func} {c : Code} {o1 o2 : Oper} {cl : Call} {args : List V} {rv : Option V} {mi mo : Mem} (hf : P.funcs[f]? = some fn) (hb : fn.body = some (.seq (.region id #[o1, o2] false) c)) (hN : fn.ntmps = N) (hrs : fn.results = #[])
    (h1 : o1.op = .call cl) (hcl : cl.callee = .builtin .recover) (hca : cl.args = #[]) (hd1 : o1.dst = some d1) (hg1 : o1.guard = none) (h2 : o2.op = .assign (.tmp d1)) (hd2 : o2.dst = some d2) (hg2 : o2.guard = none) (hn1 : Nat.blt d1 N = true) (hn2 : Nat.blt d2 N = true)
    (hle : Nat.ble args.length N = true) (hbig : (mi.all fun x => Nat.ble 1000 x.1) = true) (hks : keysOk mi mo = true)
    (h : ∀ F, F.D = [] → LC P F N c (LRet X [] fun o m => o = .ret (.t []) ∧ m = mo) ((d2, rvV rv) :: (d1, rvV rv) :: params 0 args) mi) : DefC P f args rv mi mo := by
  refine ⟨fun g w vals u hm hl hr hu => callsD_of_wpS hf hb fun c₀ cs hc => wpS_seq (wpS_region ?_)⟩
  have hle' := Nat.le_of_ble_eq_true hle
  have hbg : (lentF g mi w).Big := fun i hi => by
    have : aget mi i = none := by
      cases hg : aget mi i with
      | none => rfl
      | some m =>
        have h1 := Nat.le_of_ble_eq_true (List.all_eq_true.1 hbig _ (aget_mem hg))
        exact absurd h1 (by simp; omega)
    exact ⟨hm.nbx i this, hm.nrw i this⟩
  have hrel : Rel (lentF g mi w) N g (params 0 args) mi { tmps := vals ++ Array.replicate (fn.ntmps - vals.size) undef, defers := [] } w := by
    refine ⟨fun t v ht => ?_, hm, ⟨rfl, rfl, rfl, Nat.le_refl _, fun _ _ _ => rfl, fun _ _ _ _ => ⟨rfl, rfl⟩, fun _ _ _ _ h => h, fun _ _ _ h => h, fun _ _ _ _ => rfl⟩, rfl, by simp; omega, hbg⟩
    obtain ⟨_, h2⟩ := params_get ht
    rw [Nat.sub_zero] at h2
    have hlt := (List.getElem?_eq_some_iff.1 h2).1
    have hx : vals[t]? = some vals[t] := Array.getElem?_eq_getElem (by omega)
    exact ⟨vals[t], by rw [Array.getElem?_append_left (by omega)]; exact hx, hr t v _ h2 hx⟩
  generalize hact : ({ tmps := vals ++ Array.replicate (fn.ntmps - vals.size) undef, defers := [] } : Act) = act at *
  have hrun1 : ∀ a : Act, (execOp a.eval o1).run P w = .ok .recover w := fun a => by
    obtain ⟨ce, ca, ct⟩ := cl
    simp only at hcl hca
    subst hcl; subst hca
    simp [execOp, h1, resolve, invoke, builtin]
  have hrun2 : ∀ a : Act, (execOp a.eval o2).run P w = .ok (.value (a.eval (.tmp d1))) w := fun a => by simp [execOp, h2]
  have hw1 : ∀ t, Region.wanted o1 t = true := fun t => by unfold Region.wanted; rw [hg1]
  have hw2 : ∀ t, Region.wanted o2 t = true := fun t => by unfold Region.wanted; rw [hg2]
  have main : ∀ (x : Value) (cs' : List Frame) (u' : FrameMode), Rep w g (rvV rv) x → settle u' = .returning → cs' = { c₀ with mode := u' } :: cs →
      c.wpS P (bodyPostS P fn c₀ cs fun e u' w' => (∃ y, e = .returned y) ∧ settle u' = .returning ∧ ∃ g', Ev g w g' w' ∧ RelM (lentF g mi w) g' mo w' ∧ Kept (lentF g mi w) g' w') ((act.put (some d1) x).put (some d2) ((act.put (some d1) x).eval (.tmp d1))) cs' w := by
    intro x cs' u' hx hset hcs
    have r1 := hrel.put (d := some d1) (v := rvV rv) (Ev.refl g w) hrel.mem hrel.kept hx hn1
    have hev : (act.put (some d1) x).eval (.tmp d1) = x := by
      have hlt : d1 < N := Nat.le_of_ble_eq_true hn1
      have hnot : ¬ N ≤ d1 := by omega
      simp [Act.put, Act.eval, hrel.size, hlt, hnot]
    rw [hev]
    have r2 := r1.put (d := some d2) (v := rvV rv) (Ev.refl g w) r1.mem r1.kept hx hn2
    refine wpS_of_wp (wp_mono (wpIn_wide.1 ((h _ rfl).go _ (.refl _) _ _ _ r2)) fun e a' w' ⟨F1, hF1, env, mem, g', le, q1, q3, q2⟩ => ?_)
    obtain rfl := hF1.same rfl
    have key : LFin X [] (fun o m => o = .ret (.t []) ∧ m = mo) env mem → a'.defers = [] ∧ ∃ u', cs' = { c₀ with mode := u' } :: cs ∧ ∃ v, (results fn a'.tmps).run P w' = .ok v w' ∧ ((∃ y, Ending.returned v = .returned y) ∧ settle u' = .returning ∧ ∃ g', Ev g w g' w' ∧ RelM (lentF g mi w) g' mo w' ∧ Kept (lentF g mi w) g' w') := by
      rintro ⟨v, v', mo', hv, ht, hR⟩
      obtain ⟨_, rfl⟩ := hR
      obtain ⟨y, hy, hrep⟩ := resV_run X q1 (fn := fn) (rs := []) (by rw [hrs]) (by decide) hv
      obtain ⟨r1, r2, r3, r4⟩ := ht.rep rfl hks hm hrep q1.mem q1.kept
      exact ⟨q1.defers, u', hcs, y, hy, ⟨y, rfl⟩, hset, _, r4, r2, r3⟩
    cases le with
    | normal => cases q3; exact key q2
    | ret => cases q3; exact key q2
    | exit _ => exact q2.elim
    | goto _ => exact q2.elim
    | pan v =>
      obtain ⟨v', mo', _, hR⟩ := q2
      cases hR.1
  have hrange : List.range (#[o1, o2] : Array Oper).size = [0, 1] := rfl
  rw [hrange]
  have e0 : (#[o1, o2] : Array Oper)[0]? = some o1 := rfl
  have e1 : (#[o1, o2] : Array Oper)[1]? = some o2 := rfl
  cases rv with
  | none =>
    have hu : u = .returning := hu
    have hrec : recoverD (c₀ :: cs) = none := by
      simp only [recoverD, hc, hu]
    simp only [wpOpsS, e0, hw1, if_true, hrun1, hrec, e1, hw2, hrun2, Oper.upon, hd1, hd2]
    exact main .nilIface _ c₀.mode (.k _) (by rw [hc, hu]; rfl) (by cases c₀; rfl)
  | some v =>
    obtain ⟨x, hu, hx⟩ := hu
    have hrec : recoverD (c₀ :: cs) = some (x, { c₀ with mode := .panicking [{ v := x, recovered := true }] } :: cs) := by
      simp only [recoverD, hc, hu]
    simp only [wpOpsS, e0, hw1, if_true, hrun1, hrec, e1, hw2, hrun2, Oper.upon, hd1, hd2]
    exact main x _ _ hx rfl rfl
end
end Lf
open Go.RowKit Rg
namespace Lf
section
variable {P : Program}
def DefFin (P : Program) (X : TOk P) (fc : Nat) (cs : List Nat) (rs : List ResultVar) (R : Out → Mem → Prop) (rv : Option V) (env : Env) (mem : Mem) : Prop :=
 ∃ (envR : Env) (mo3 mo4 : Mem) (u v' : V), SubE env envR ∧ SubM mem mo3 ∧ (refsE mo3 envR && (refsM mo3 mo3 && ((mem.all fun x => Nat.blt x.1 1000 || (aget mo3 x.1).isSome) && (mo3.all fun x => Nat.ble 1000 x.1)))) = true ∧
  ((match rv with | none => true | some v => v.refs mo3) && (cs.all fun i => (aget mo3 i).isSome)) = true ∧ DefC P fc (cs.map fun i => .p i 0) rv mo3 mo4 ∧ resV X.tab envR mo4 rs = some u ∧ (∃ keep nn, u.cv keep nn = v') ∧ v'.refs [] = true ∧ R (.ret v') []
def DefQ (P : Program) (X : TOk P) (fc : Nat) (cs : List Nat) (rs : List ResultVar) (R : Out → Mem → Prop) : LQ
 | .normal, env, mem => DefFin P X fc cs rs R none env mem
 | .ret, env, mem => DefFin P X fc cs rs R none env mem
 | .pan v, env, mem => DefFin P X fc cs rs R (some v) env mem
 | _, _, _ => False
def AtQ (env1 : Env) (mem1 : Mem) : LQ
 | .normal, env, mem => Sub env mem env1 mem1
 | _, _, _ => False
end
end Lf
open Go.RowKit Rg
namespace Lf
section
variable {P : Program}
theorem exists_pmF : ∀ (ks is : List Nat), ks.Nodup → is.Nodup → ks.length = is.length → ∃ ρ : Pm, ks.map ρ.f = is ∧ ∀ i, i ∉ ks → i ∉ is → ρ.f i = i
 | [], [], _, _, _ => ⟨⟨id, id, fun _ => rfl, fun _ => rfl⟩, rfl, fun _ _ _ => rfl⟩
 | [], _ :: _, _, _, h => by simp at h
 | _ :: _, [], _, _, h => by simp at h
 | k :: ks, i :: is, hk, hi, h => by
  obtain ⟨ρ, hρ, hfix⟩ := exists_pmF ks is (List.nodup_cons.1 hk).2 (List.nodup_cons.1 hi).2 (by simpa using h)
  refine ⟨(Pm.swap (ρ.f k) i).comp ρ, ?_, fun j hj1 hj2 => ?_⟩
  ·rw [List.map_cons]
   congr 1
   ·simp [Pm.comp, Pm.swap, swapF]
   ·rw [← hρ]
    refine List.map_congr_left fun j hj => ?_
    have h1 : ρ.f j ≠ ρ.f k := fun e => (List.nodup_cons.1 hk).1 (ρ.inj e ▸ hj)
    have h2 : ρ.f j ≠ i := fun e => (List.nodup_cons.1 hi).1 (by rw [← e, ← hρ]; exact List.mem_map_of_mem hj)
    simp [Pm.comp, Pm.swap, swapF, h1, h2]
  ·have e := hfix j (fun h => hj1 (by simp [h])) (fun h => hj2 (by simp [h]))
   have h1 : ρ.f j ≠ ρ.f k := fun e2 => hj1 (by rw [ρ.inj e2]; simp)
   have h2 : ρ.f j ≠ i := fun e2 => hj2 (by rw [← e2, e]; simp)
   show swapF (ρ.f k) i (ρ.f j) = j
   unfold swapF
   rw [if_neg h1, if_neg h2, e]
theorem LC.renF {P : Program} {F : Fr0} {N : Nat} {Q : LQ} {env env' : Env} {mem mem' : Mem} {c : Code} (ks is : List Nat) (hk : ks.Nodup) (hi : is.Nodup) (hl : ks.length = is.length)
  (hfr : ∀ i, i ∈ ks ∨ i ∈ is → F.bx0 i = none ∧ F.rw0 i = none) (hren : ∀ ρ : Pm, ks.map ρ.f = is → (∀ i, i ∉ ks → i ∉ is → ρ.f i = i) → Mem.ren ρ.f mem' = mem ∧ ∀ t v, aget env' t = some v → aget env t = some (v.ren ρ.f)) (h : LC P F N c Q env' mem') : LC P F N c Q env mem := by
 obtain ⟨ρ, hρ, hfix⟩ := exists_pmF ks is hk hi hl
 obtain ⟨h1, h2⟩ := hren ρ hρ hfix
 have hcl : ∀ i, i ∈ ks ∨ i ∈ is → ρ.f i ∈ ks ∨ ρ.f i ∈ is := fun i hi => Classical.byContradiction fun hn => by
  have hn1 : ρ.f i ∉ ks := fun e => hn (.inl e)
  have hn2 : ρ.f i ∉ is := fun e => hn (.inr e)
  have := ρ.inj (hfix _ hn1 hn2)
  rcases hi with hi | hi
  ·exact hn1 (by rw [this]; exact hi)
  ·exact hn2 (by rw [this]; exact hi)
 have hsame : ∀ i, F.bx0 (ρ.f i) = F.bx0 i ∧ F.rw0 (ρ.f i) = F.rw0 i := fun i => by
  by_cases hm : i ∈ ks ∨ i ∈ is
  ·obtain ⟨a1, a2⟩ := hfr i hm
   obtain ⟨b1, b2⟩ := hfr _ (hcl i hm)
   rw [a1, a2, b1, b2]; exact ⟨rfl, rfl⟩
  ·rw [hfix i (fun e => hm (.inl e)) (fun e => hm (.inr e))]; exact ⟨rfl, rfl⟩
 refine ⟨fun F0 hx g a w hr => h.go F0 hx (g.pull ρ.f) a w ?_⟩
 have hp : F0.pull ρ.f = F0 := by
  unfold Fr0.pull
  have e1 : (fun i => F0.bx0 (ρ.f i)) = F0.bx0 := funext fun i => by rw [hx.bx]; exact (hsame i).1
  have e2 : (fun i => F0.rw0 (ρ.f i)) = F0.rw0 := funext fun i => by rw [hx.rw]; exact (hsame i).2
  rw [e1, e2]
 have hm := relM_pull ρ (F := F0) (g := g) (mem := mem') (w := w) (by rw [h1]; exact hr.mem)
 rw [hp] at hm
 refine ⟨fun t v hv => ?_, hm, ⟨hr.kept.os, hr.kept.tape, hr.kept.output, hr.kept.size, hr.kept.blk, hr.kept.cell, hr.kept.S1, hr.kept.S2, hr.kept.cellS⟩, hr.defers, hr.size, hr.big⟩
 obtain ⟨x, e1, e2⟩ := hr.env t _ (h2 t v hv)
 exact ⟨x, e1, rep_pull ρ e2⟩
theorem aget_renF (ρ : Nat → Nat) : ∀ (l : Env) {t : Nat} {v : V}, aget l t = some v → aget (l.map fun x => (x.1, x.2.ren ρ)) t = some (v.ren ρ)
 | [], _, _, h => by cases h
 | (a, x) :: l, t, v, h => by
  rw [List.map_cons, aget_cons]
  rw [aget_cons] at h
  split at h
  ·rename_i e; rw [if_pos e]; cases h; rfl
  ·rename_i e; rw [if_neg e]; exact aget_renF ρ l h
def goneM (mi : Mem) : Mem := mi.map fun x => (x.1, .x)
theorem aget_gone (mi : Mem) (i : Nat) : aget (goneM mi) i = (aget mi i).map fun _ => .x := by
 induction mi with
 | nil => rfl
 | cons x r ih =>
  obtain ⟨n, u⟩ := x
  simp only [goneM, List.map_cons, aget_cons]
  by_cases h : n = i
  ·subst h; simp
  ·rw [if_neg h, if_neg h]; exact ih
theorem gone_x {mi : Mem} {i : Nat} {m : M} (h : aget (goneM mi) i = some m) : m = .x := by
 rw [aget_gone] at h
 obtain ⟨_, _, rfl⟩ := Option.map_eq_some_iff.1 h
 rfl
theorem gone_none {mi : Mem} {i : Nat} (h : aget (goneM mi) i = none) : aget mi i = none := by
 rw [aget_gone] at h
 exact Option.map_eq_none_iff.1 h
theorem LM.enterDM (X : TOk P) {f N s fc id : Nat} {fn : Func} {r0 c2 : Code} {oM oD : Oper} {cl : Call} {caps : List Operand} {args : List V} {rs : List ResultVar} {R : Out → Mem → Prop} (mi : Mem) (ks is cs ics : List Nat) (env1 env2 : Env) (mem1 mem2 : Mem)
    (hf : P.funcs[f]? = some fn) (hb : fn.body = some (.seq r0 (.seq (.region id [oM, oD].toArray false) c2))) (hN : fn.ntmps = N) (hrs : fn.results = rs.toArray) (hok : callOk P f = true) (hokc : callOk P fc = true) (hle : Nat.ble args.length N = true) (hrl : Nat.ble rs.length 3 = true)
    (hM : oM.op = .makeFunc (.func fc) ([] : List Operand).toArray caps.toArray) (hMd : oM.dst = some s) (hMg : oM.guard = none) (hsN : Nat.blt s N = true) (hcaps : evs env1 caps = some (ics.map fun i => .p i 0))
    (hD : oD.op = .defer cl) (hcl : cl.callee = .value (.tmp s)) (hca : cl.args = #[]) (hDd : oD.dst = none) (hDg : oD.guard = none)
    (hk1 : ks.Nodup) (hk2 : is.Nodup) (hk3 : ks.length = is.length) (hren : ∀ ρ : Pm, ks.map ρ.f = is → Mem.ren ρ.f mem2 = mem1 ∧ ∀ t v, aget env2 t = some v → aget env1 t = some (v.ren ρ.f))
    (hcs : ∀ ρ : Pm, ks.map ρ.f = is → cs.map ρ.f = ics) (hbig0 : (mi.all fun x => Nat.ble 1000 x.1) = true) (hbig : (mem2.all fun x => Nat.ble 1000 x.1) = true) (hns : ∀ t v, aget env2 t = some v → t ≠ s)
    (h0 : ∀ F, F.D = [] → LC P F N r0 (AtQ env1 mem1) (params 0 args) mi)
    (h2 : ∀ F, (∀ i, aget mem2 i = none → F.bx0 i = none ∧ F.rw0 i = none) → LC P F N c2 (DefQ P X fc cs rs (fun o m => m = [] ∧ R o (goneM mi))) env2 mem2) : LM P f args mi R := by
  obtain ⟨ρ, hρ⟩ := exists_pm ks is hk1 hk2 hk3
  obtain ⟨hmr, her⟩ := hren ρ hρ
  have hcs := hcs ρ hρ
  refine ⟨hok, fun g w vals hm hl hr => ?_⟩
  have hle' := Nat.le_of_ble_eq_true hle
  have hsN' : s < N := Nat.le_of_ble_eq_true hsN
  refine calls_of_wp_defers hf hb ?_
  have hbg : (lentF g mi w).Big := fun i hi => by
    have : aget mi i = none := by
      cases hg : aget mi i with
      | none => rfl
      | some m =>
        have h1 := Nat.le_of_ble_eq_true (List.all_eq_true.1 hbig0 _ (aget_mem hg))
        exact absurd h1 (by simp; omega)
    exact ⟨hm.nbx i this, hm.nrw i this⟩
  have hrel : Rel (lentF g mi w) N g (params 0 args) mi { tmps := vals ++ Array.replicate (fn.ntmps - vals.size) undef, defers := [] } w := by
    refine ⟨fun t v ht => ?_, hm, ⟨rfl, rfl, rfl, Nat.le_refl _, fun _ _ _ => rfl, fun _ _ _ _ => ⟨rfl, rfl⟩, fun _ _ _ _ h => h, fun _ _ _ h => h, fun _ _ _ _ => rfl⟩, rfl, by simp; omega, hbg⟩
    obtain ⟨_, h2⟩ := params_get ht
    rw [Nat.sub_zero] at h2
    have hlt := (List.getElem?_eq_some_iff.1 h2).1
    have hx : vals[t]? = some vals[t] := Array.getElem?_eq_getElem (by omega)
    exact ⟨vals[t], by rw [Array.getElem?_append_left (by omega)]; exact hx, hr t v _ h2 hx⟩
  refine wp_seq (wp_mono (wpIn_wide.1 ((h0 _ rfl).go _ (.refl _) _ _ _ hrel)) fun e a1 w1 ⟨F1, hF1, env, mem, gx, le, q1, q3, q2⟩ => ?_)
  obtain rfl := hF1.same rfl
  cases le with
  | exit _ => exact q2.elim
  | goto _ => exact q2.elim
  | ret => exact q2.elim
  | pan _ => exact q2.elim
  | normal =>
  cases q3
  have hr1 := q1.sub q2
  clear q1 q2
  generalize gx.only mem1 = g1 at hr1
  -- the closure, and its deferral
  show (Code.seq (.region id [oM, oD].toArray false) c2).wp P (bodyPostD P fn _) a1 w1
  obtain ⟨e1, e2⟩ := evs_get hcaps
  let us : Array Value := (caps.map a1.eval).toArray
  have hus : ∀ (j i : Nat), ics[j]? = some i → ∃ x, us[j]? = some x ∧ Rep w1 g1 (.p i 0) x := fun j i hj => by
    obtain ⟨y, hy, hev⟩ := e2 j (.p i 0) (by rw [List.getElem?_map, hj]; rfl)
    exact ⟨a1.eval y, by simp [us, hy], hr1.evo hev⟩
  have husz : us.size = ics.length := by simp [us]; simpa using e1
  have hrunM : ∀ a : Act, a.tmps = a1.tmps → (execOp a.eval oM).run P w1 = .ok (.value (.func (.func fc) #[] us)) w1 := fun a ha => by
    have : a.eval = a1.eval := by funext x; cases x <;> simp [Act.eval, ha]
    simp [execOp, hM, Instr.makeFunc, this, us]
  let a2 : Act := { tmps := a1.tmps.setIfInBounds s (.func (.func fc) #[] us), defers := [{ target := .fn (.func fc) us, args := #[] }] }
  have hwM : ∀ t, Region.wanted oM t = true := fun t => by unfold Region.wanted; rw [hMg]
  have hwD : ∀ t, Region.wanted oD t = true := fun t => by unfold Region.wanted; rw [hDg]
  refine wp_seq (wp_region_lit ?_)
  refine wpList_step fun K hK => ?_
  rw [hwM, if_pos rfl]
  unfold Oper.wp
  rw [hrunM a1 rfl]
  refine hK _ _ (wpList_step fun K2 hK2 => ?_)
  rw [hwD, if_pos rfl]
  unfold Oper.wp
  have hrunD : (execOp (a1.put oM.dst (.func (.func fc) #[] us)).eval oD).run P w1 = .ok (.defer { target := .fn (.func fc) us, args := #[] }) w1 := by
    obtain ⟨ce, ca, ct⟩ := cl
    simp only at hcl hca
    subst hcl; subst hca
    have hsz := hr1.size
    have hns : ¬ N ≤ s := by omega
    simp [execOp, hD, resolve, Deferred.ofValue, hMd, Act.put, Act.eval, hsz, hsN']
  rw [hrunD]
  have ha2 : ({ (a1.put oM.dst (.func (.func fc) #[] us)) with defers := { target := .fn (.func fc) us, args := #[] } :: (a1.put oM.dst (.func (.func fc) #[] us)).defers } : Act).put oD.dst undef = a2 := by
    rw [hMd, hDd]
    simp only [Act.put, hr1.defers]
    rfl
  show K2 (({ (a1.put oM.dst (.func (.func fc) #[] us)) with defers := { target := .fn (.func fc) us, args := #[] } :: (a1.put oM.dst (.func (.func fc) #[] us)).defers } : Act).put oD.dst undef) w1
  rw [ha2]
  refine hK2 _ _ (wpList_nil ?_)
  show c2.wp P (bodyPostD P fn _) a2 w1
  -- the rest, in a frame of its own
  let g2 : Gh := g1.pull ρ.f
  have hm2 : RelM ((lentF g mi w).pull ρ.f) g2 mem2 w1 := relM_pull ρ (by rw [hmr]; exact hr1.mem)
  let F2 : Fr0 := { lentF g2 mem2 w1 with D := [{ target := .fn (.func fc) us, args := #[] }] }
  have hm3 : RelM F2 g2 mem2 w1 := ⟨hm2.ob, fun i m b o hi hp => .inr ⟨i, m, hi, hp⟩, hm2.dj, hm2.nbx, hm2.nrw, hm2.fut, ⟨(show TabAt w1 g1.S from hr1.mem.loc.tab.kept hr1.kept), fun _ _ h => h, fun i a l c h => ⟨a, l, c, h, Nat.le_refl _, fun _ => ⟨rfl, rfl⟩⟩⟩⟩
  have hbig2 : F2.Big := fun i hi => by
    have : aget mem2 i = none := by
      cases hg : aget mem2 i with
      | none => rfl
      | some m =>
        have h1 := Nat.le_of_ble_eq_true (List.all_eq_true.1 hbig _ (aget_mem hg))
        exact absurd h1 (by simp; omega)
    exact ⟨hm2.nbx i this, hm2.nrw i this⟩
  have hr2 : Rel F2 N g2 env2 mem2 a2 w1 := by
    refine ⟨fun t v ht => ?_, hm3, ⟨rfl, rfl, rfl, Nat.le_refl _, fun _ _ _ => rfl, fun _ _ _ _ => ⟨rfl, rfl⟩, fun _ _ _ _ h => h, fun _ _ _ h => h, fun _ _ _ _ => rfl⟩, rfl, by simp [a2, hr1.size], hbig2⟩
    obtain ⟨x, hx, hrep⟩ := hr1.env t _ (her t v ht)
    refine ⟨x, ?_, rep_pull ρ hrep⟩
    have hne := hns t v ht
    simp only [a2]
    rw [Array.getElem?_setIfInBounds_ne (Ne.symm hne)]
    exact hx
  have hnew : ∀ b o, F2.B b o → w.heap.size ≤ b ∨ (lentF g mi w).B b o := fun b o ⟨i, m, hi, hp⟩ => hm2.wr i m b o hi hp
  have hks2 : ∀ (j i : Nat), cs[j]? = some i → ∃ x z, us[j]? = some x ∧ g2.bx i = some z ∧ x = .pointer (some ⟨z.1, z.2, none⟩) := fun j i hj => by
    have h1 : ics[j]? = some (ρ.f i) := by rw [← hcs, List.getElem?_map, hj]; rfl
    obtain ⟨x, hx, hrep⟩ := hus j _ h1
    cases hrep with
    | @p _ _ _ b o h => exact ⟨_, (b, o), hx, h, rfl⟩
  have hk1' := hr1.kept
  refine wp_mono (wpIn_wide.1 ((h2 F2 fun i hi => ⟨hm2.nbx i hi, hm2.nrw i hi⟩).go _ (.refl _) _ _ _ hr2)) fun e a3 w3 ⟨F3, hF3, env3, mem3, g3, le, q1, q3, q2⟩ => ?_
  obtain rfl := hF3.same rfl
  have key : ∀ (rv : Option V) (u0 : FrameMode), DefFin P X fc cs rs (fun o m => m = [] ∧ R o (goneM mi)) rv env3 mem3 → u0 ≠ .run → RvAt w3 g3 u0 rv →
      Leaves P fn a3.tmps (fun e w' => ∃ o mo g', R o mo ∧ Ev g w g' w' ∧ RelM (lentF g mi w) g' mo w' ∧ Kept (lentF g mi w) g' w' ∧ o.At w' g' e) a3.defers u0 w3 := by
    rintro rv u0 ⟨envR, mo3, mo4, u, v', t1, t2, t3, t4, t5, t6, ⟨keep, nn, t7⟩, t8, t9⟩ hu0 hrv
    simp only [Bool.and_eq_true] at t3 t4
    obtain ⟨t31, t32, t33, t34⟩ := t3
    obtain ⟨t41, t42⟩ := t4
    have hsub : Sub env3 mem3 envR mo3 := ⟨t1, t2, by rw [t31, t32, t33]; rfl⟩
    have hr3 := q1.sub hsub
    have hm4 : RelM (lentF (g3.only mo3) mo3 w3) (g3.only mo3) mo3 w3 := ⟨hr3.mem.ob, fun i m b o hi hp => .inr ⟨i, m, hi, hp⟩, hr3.mem.dj, hr3.mem.nbx, hr3.mem.nrw, hr3.mem.fut, ⟨(show TabAt w3 (g3.only mo3).S from hr3.mem.loc.tab.kept hr3.kept), fun _ _ h => h, fun i a l c h => ⟨a, l, c, h, Nat.le_refl _, fun _ => ⟨rfl, rfl⟩⟩⟩⟩
    have hd3 : a3.defers = [{ target := .fn (.func fc) us, args := #[] }] := q1.defers
    rw [hd3]
    have hargs : ∀ (j : Nat) y x, (cs.map fun i => V.p i 0)[j]? = some y → us[j]? = some x → Rep w3 (g3.only mo3) y x := fun j y x hj hx => by
      rw [List.getElem?_map] at hj
      obtain ⟨i, hi, rfl⟩ := Option.map_eq_some_iff.1 hj
      obtain ⟨x', z, hx', hz, rfl⟩ := hks2 j i hi
      rw [hx] at hx'; cases hx'
      have h3 := q1.mem.loc.bx i z hz
      have h4 := List.all_eq_true.1 t42 i (List.mem_of_getElem? hi)
      refine .p ?_
      show (if (aget mo3 i).isSome then g3.bx i else none) = _
      rw [if_pos h4]; exact h3
    have hrv2 : RvAt w3 (g3.only mo3) u0 rv := by
      cases rv with
      | none => exact hrv
      | some v => obtain ⟨x, h1, h2⟩ := hrv; exact ⟨x, h1, h2.only t41⟩
    have hlen : (cs.map fun i => V.p i 0).length = us.size := by rw [List.length_map, husz, ← hcs, List.length_map]
    have hinv : (invoke (.fn (.func fc) us) #[]).run P w3 = .ok (.enter fc us) w3 := by
      unfold callOk at hokc
      split at hokc
      · rename_i fn' hfn
        simp only [Bool.and_eq_true, Bool.not_eq_true', beq_eq_false_iff_ne, ne_eq] at hokc
        obtain ⟨hn, hb'⟩ := hokc
        obtain ⟨c, hc⟩ := Option.isSome_iff_exists.1 hb'
        simp [invoke, callFunc, hfn, hn, hc]
      · cases hokc
    refine leaves_cons hu0 hinv ((t5.go (g3.only mo3) w3 us u0 hm4 hlen hargs hrv2).mono fun e u' w4 hh => ?_)
    obtain ⟨⟨y, rfl⟩, hset, g4, hev4, hm5, hk4⟩ := hh
    show Leaves P fn a3.tmps _ [] (settle u') w4
    rw [hset]
    have hbig4 : (lentF (g3.only mo3) mo3 w3).Big := fun i hi => by
      have : aget mo3 i = none := by
        cases hg : aget mo3 i with
        | none => rfl
        | some m =>
          have h1 := Nat.le_of_ble_eq_true (List.all_eq_true.1 t34 _ (aget_mem hg))
          exact absurd h1 (by simp; omega)
      exact ⟨hm4.nbx i this, hm4.nrw i this⟩
    have hrel4 : Rel (lentF (g3.only mo3) mo3 w3) N g4 envR mo4 { a3 with defers := [] } w4 :=
      ⟨fun t v ht => by obtain ⟨x, h1, h2⟩ := hr3.env t v ht; exact ⟨x, h1, h2.mono hev4⟩, hm5, hk4, rfl, q1.size, hbig4⟩
    obtain ⟨x, hx, hrep⟩ := resV_run X hrel4 hrs (Nat.le_of_ble_eq_true hrl) t6
    have hk3' := q1.kept
    -- old blocks are as they were
    have hB4 : ∀ b o, (lentF (g3.only mo3) mo3 w3).B b o → w.heap.size ≤ b ∨ (lentF g mi w).B b o := fun b o ⟨i, m, hi, hp⟩ => by
      rcases hr3.mem.wr i m b o hi hp with h | h
      · exact .inl (Nat.le_trans hk1'.size h)
      · exact hnew b o h
    have hs1 : w.heap.size ≤ w1.heap.size := hk1'.size
    have hs3 : w1.heap.size ≤ w3.heap.size := hk3'.size
    have hs4 : w3.heap.size ≤ w4.heap.size := hk4.size
    have hnB : ∀ b o, b < w.heap.size → ¬ (lentF g mi w).B b o → ¬ F2.B b o := fun b o hb hn h => (hnew b o h).elim (fun h => by omega) hn
    have hnB4 : ∀ b o, b < w.heap.size → ¬ (lentF g mi w).B b o → ¬ (lentF (g3.only mo3) mo3 w3).B b o := fun b o hb hn h => (hB4 b o h).elim (fun h => by omega) hn
    have cell : ∀ b o, b < w.heap.size → ¬ (lentF g mi w).B b o → w4.cell? ⟨b, o, none⟩ = w.cell? ⟨b, o, none⟩ ∧ w4.frozen? ⟨b, o, none⟩ = w.frozen? ⟨b, o, none⟩ := fun b o hb hn => by
      obtain ⟨p1, p2⟩ := hk1'.cell b o hb hn
      obtain ⟨p3, p4⟩ := hk3'.cell b o (Nat.lt_of_lt_of_le hb hs1) (hnB b o hb hn)
      obtain ⟨p5, p6⟩ := hk4.cell b o (Nat.lt_of_lt_of_le hb (Nat.le_trans hs1 hs3)) (hnB4 b o hb hn)
      exact ⟨p5.trans (p3.trans p1), p6.trans (p4.trans p2)⟩
    have cellS : ∀ b o, b < w.heap.size → g.S b o → w4.cell? ⟨b, o, none⟩ = w.cell? ⟨b, o, none⟩ := fun b o hb hs =>
      (hk4.cellS b o (Nat.lt_of_lt_of_le hb (Nat.le_trans hs1 hs3)) (hk3'.S2 b o (Nat.lt_of_lt_of_le hb hs1) (hk1'.S2 b o hb hs))).trans ((hk3'.cellS b o (Nat.lt_of_lt_of_le hb hs1) (hk1'.S2 b o hb hs)).trans (hk1'.cellS b o hb hs))
    have s2 : ∀ b o, b < w.heap.size → g.S b o → g4.S b o := fun b o hb hs =>
      hk4.S2 b o (Nat.lt_of_lt_of_le hb (Nat.le_trans hs1 hs3)) (hk3'.S2 b o (Nat.lt_of_lt_of_le hb hs1) (hk1'.S2 b o hb hs))
    have s1 : ∀ b o, b < w.heap.size → ¬ (lentF g mi w).B b o → g4.S b o → g.S b o := fun b o hb hn hs =>
      hk1'.S1 b o hb hn (hk3'.S1 b o (Nat.lt_of_lt_of_le hb hs1) (hnB b o hb hn) (hk4.S1 b o (Nat.lt_of_lt_of_le hb (Nat.le_trans hs1 hs3)) (hnB4 b o hb hn) hs))
    obtain ⟨_, t9⟩ := t9
    refine ⟨x, hx, .ret v', goneM mi, ⟨g4.S, g.bx, g.rw⟩, t9, ⟨Nat.le_trans hs1 (Nat.le_trans hs3 hs4), fun b o hb hs => ⟨s2 b o hb hs, cellS b o hb hs⟩, fun i z hz => hz, fun r a l c hh => ⟨a, l, c, hh, Nat.le_refl _, fun _ => ⟨rfl, rfl⟩⟩⟩,
      ⟨fun i m h => by rw [gone_x h]; exact .x, fun i m b o h hp => by rw [gone_x h] at hp; exact hp.elim, fun i j m m' b o _ h _ hp _ => by rw [gone_x h] at hp; exact hp.elim, fun i h => hm.nbx i (gone_none h), fun i h => hm.nrw i (gone_none h), hm5.fut, ⟨hm.loc.tab, fun i z hz => hz, fun i a l c hh => ⟨a, l, c, hh, Nat.le_refl _, fun _ => ⟨rfl, rfl⟩⟩⟩⟩,
      ⟨hk4.os.trans (hk3'.os.trans hk1'.os), hk4.tape.trans (hk3'.tape.trans hk1'.tape), hk4.output.trans (hk3'.output.trans hk1'.output), Nat.le_trans hs1 (Nat.le_trans hs3 hs4), fun b hb hn => ?_, fun b o hb hn => cell b o hb hn, fun b o hb hn hs => s1 b o hb hn hs, fun b o hb hs => s2 b o hb hs, fun b o hb hs => cellS b o hb hs⟩, x, rfl, ?_⟩
    · exact (hk4.blk b (Nat.lt_of_lt_of_le hb (Nat.le_trans hs1 hs3)) (fun o => hnB4 b o hb (hn o))).trans ((hk3'.blk b (Nat.lt_of_lt_of_le hb hs1) (fun o => hnB b o hb (hn o))).trans (hk1'.blk b hb hn))
    · subst t7
      exact ((hrep.cv).only (mem := []) t8).mono ⟨Nat.le_refl _, fun _ _ _ hs => ⟨hs, rfl⟩, fun i z hz => (by cases hz), fun i a l c hz => (by cases hz)⟩
  cases le with
  | normal => cases q3; exact key none .returning q2 (by simp) rfl
  | ret => cases q3; exact key none .returning q2 (by simp) rfl
  | exit _ => exact q2.elim
  | goto _ => exact q2.elim
  | pan v =>
    obtain ⟨x, rfl, hx⟩ := q3
    exact key (some v) (.panicking [{ v := x, recovered := false }]) q2 (by simp) ⟨x, rfl, hx⟩
end
end Lf
open Go.RowKit Rg Wm Ar
set_option linter.unusedVariables false
set_option maxRecDepth 100000
namespace Lf
open Fm FrP Fw
abbrev hostV : V := .i 64 (.a [])
abbrev resC (r : Res) : List V := [.k (.int .i64 ((r.err : Nat) : Int)), uK r.gas, .s none (r.out.map bK)]
abbrev fr0 (c inp : List UInt8) (g : Nat) : Mem :=
 [(1000, .b [.s none (c.map bK), .s none (inp.map bK), uK g, .w 1001 0 1 0 0, .w 1002 0 4 0 0, .k (.map none), .k (.int .i64 0), .s none []]), (1001, .w 5 1 0 []), (1002, .w 36 4 0 [])]
abbrev rc0 : List V := [.k (.int .i64 0), .k (.int .u64 0), .nil]
namespace Fw
abbrev clM (c inp : List UInt8) (g : Nat) (s : MS) (o : List UInt8) (r : List V) : Mem := (1010, .b [.p 1000 0]) :: (1011, .b r) :: frOf c inp s g o
set_option maxHeartbeats 1000000 in
theorem cl_idle (c inp : List UInt8) (g : Nat) (s : MS) (o : List UInt8) (r : Res) : DefC Tryz.prog 43 ([1011, 1010].map fun i => .p i 0) none (clM c inp g s o (resC r)) (clM c inp g s o (resC r)) := by
 refine DefC.enter tt Tryz.func43 rfl rfl rfl rfl rfl rfl rfl rfl rfl rfl rfl rfl rfl rfl rfl rfl fun F _ => ?_
 exact wk trueW trueW trueW
set_option maxHeartbeats 1000000 in
theorem cl_fail (c inp : List UInt8) (g : Nat) (s : MS) (o : List UInt8) (e : Nat) (he : e ≠ 14) : DefC Tryz.prog 43 ([1011, 1010].map fun i => .p i 0) (some (fltV ((e : Nat) : Int))) (clM c inp g s o rc0) (clM c inp g s o [.k (.int .i64 ((e : Nat) : Int)), .k (.int .u64 0), .nil]) := by
 have hne : ¬ ((e : Nat) : Int) = 14 := by omega
 refine DefC.enter tt Tryz.func43 rfl rfl rfl rfl rfl rfl rfl rfl rfl rfl rfl rfl rfl rfl rfl rfl fun F _ => ?_
 exact wk trueW trueW trueW
set_option maxHeartbeats 1000000 in
theorem cl_rev (c inp : List UInt8) (g : Nat) (s : MS) (o : List UInt8) : DefC Tryz.prog 43 ([1011, 1010].map fun i => .p i 0) (some (fltV 14)) (clM c inp g s o rc0) (clM c inp g s o [.k (.int .i64 14), uK g, .s none (o.map bK)]) := by
 refine DefC.enter tt Tryz.func43 rfl rfl rfl rfl rfl rfl rfl rfl rfl rfl rfl rfl rfl rfl rfl rfl fun F _ => ?_
 exact wk trueW trueW trueW
end Fw
end Lf
open Go.RowKit Rg Wm Ar
set_option linter.unusedVariables false
set_option maxRecDepth 100000
namespace Lf
open Fm FrP Fw
theorem all_paid : ((List.range 256).all fun n => (Cn.name n).isEmpty || (Nat.blt 0 (Pr.opN n) || ([0, 242, 253] : List Nat).contains n)) = true := by decide +kernel
theorem touch_end {s : MS} {a n mul : Nat} {k : MS → FrP.Act MS} (hk : ∀ s g s' g', exec 10 14 (k s) g ≠ .next s' g') {g : Nat} {s' : MS} {g' : Nat} : exec 10 14 (touch s a n mul k) g ≠ .next s' g' := by
 intro h
 unfold touch at h
 split at h
 ·cases h
 ·rw [exec] at h
  split at h
  ·cases h
  ·exact hk _ _ _ _ h
theorem act_dec {c inp : List UInt8} {s : MS} {g : Nat} {s' : MS} {g' : Nat} (h : exec 10 14 (Fm.act c inp s g) g = .next s' g') : g' < g := by
 unfold Fm.act at h
 have hn := (c.getD s.pc default).toNat_lt
 generalize (c.getD s.pc default).toNat = n at *
 split at h
 ·cases h
 split at h
 ·cases h
 rename_i h1
 split at h
 ·cases h
 rw [exec] at h
 split at h
 ·cases h
 rename_i h2
 have hle := exec_next h
 have := List.all_eq_true.1 all_paid n (List.mem_range.2 hn)
 rw [Bool.or_eq_true, Bool.or_eq_true] at this
 rcases this with hp | hp | hp
 ·exact absurd (.inl (List.isEmpty_iff.1 hp)) h1
 ·have := Nat.le_of_ble_eq_true hp
  omega
 ·exfalso
  rw [List.contains_iff_mem] at hp
  simp only [List.mem_cons, List.not_mem_nil, or_false] at hp
  rcases hp with rfl | rfl | rfl
  ·cases h
  ·have e : eff c inp 242 s (g - Pr.opN 242) = match s.st with | a :: z :: r => touch { s with st := r } a z 0 fun s => .stop (My.view s.m.l (a % M256) (z % M256)) | _ => .fail 9 := rfl
   rw [e] at h
   split at h
   ·exact touch_end (fun _ _ _ _ h => by cases h) h
   ·cases h
  ·have e : eff c inp 253 s (g - Pr.opN 253) = match s.st with | a :: z :: r => touch { s with st := r } a z 0 fun s => .rev (My.view s.m.l (a % M256) (z % M256)) | _ => .fail 9 := rfl
   rw [e] at h
   split at h
   ·exact touch_end (fun _ _ _ _ h => by cases h) h
   ·cases h
theorem run_ex (c inp : List UInt8) (g : Nat) : ∃ r, Fm.run c inp g r := total (fun _ _ _ _ h => act_dec h) g _ _ (Nat.le_refl _)
theorem lands_up (c : List UInt8) : List.Pairwise (· < ·) (Co.lands c) := List.Pairwise.filter _ (Co.plc_lt 0)
theorem noL {S : List Nat} {n : Nat} (h : n ∉ S) : MNo (mL S) (.int .i64 ((n : Nat) : Int)) := ⟨fun p hp e => by
 obtain ⟨x, hx, rfl⟩ := List.mem_map.1 hp
 have e1 : x = n := Int.ofNat.inj (Value.int.inj e).2
 exact h (e1 ▸ hx)⟩
theorem take_snoc {L : List Nat} {i : Nat} (h : i < L.length) : mL (L.take i) ++ [(Value.int .i64 ((L.getD i default : Nat) : Int), V.a [])] = mL (L.take (i + 1)) := by
 unfold mL
 rw [List.take_add_one, List.map_append, List.getD_eq_getElem?_getD, List.getElem?_eq_getElem h]
 rfl
theorem not_before {L : List Nat} (hp : List.Pairwise (· < ·) L) {i : Nat} (h : i < L.length) : L.getD i default ∉ L.take i := fun hm => by
 obtain ⟨j, hj, e⟩ := List.getElem_of_mem hm
 have hj2 : j < i := by have := hj; rw [List.length_take] at this; omega
 have := List.pairwise_iff_getElem.1 hp j i (by omega) h hj2
 rw [List.getElem_take] at e
 rw [List.getD_eq_getElem?_getD, List.getElem?_eq_getElem h] at e
 simp only [Option.getD_some] at e
 omega
theorem plc_len {c : List UInt8} : ∀ p, (Co.plc c p).length ≤ c.length - p := Co.plc_ind (fun p h => by rw [Co.plc_end h]; exact Nat.zero_le _) fun p h ih => by
 have := Co.nxt_gt h
 rw [Co.plc_at h, List.length_cons]
 omega
theorem lands_len (c : List UInt8) : (Co.lands c).length ≤ c.length := by
 unfold Co.lands
 exact Nat.le_trans (List.length_filter_le _ _) (by have := plc_len (c := c) 0; omega)
theorem inv0 (c : List UInt8) : Inv c S0 := ⟨My.zero_good, Nat.zero_le _, Nat.zero_le _⟩
namespace Fw
set_option maxHeartbeats 4000000 in
theorem Run_ (c inp : List UInt8) (g : Nat) (hcl : c.length < 100000000) (hi : inp.length < 1073741824) (hg : g < 18446744073709551616) (r : Res) (hr : Fm.run c inp g r) : LM Tryz.prog 23 [.p 1000 0, hostV] (fr0 c inp g) fun q m => q = .ret (.a (resC r)) ∧ m = goneM (fr0 c inp g) := by
 refine LM.enterDM tt (fr0 c inp g) [1000, 1001, 1002, 1010, 1011] [1000, 1001, 1002, 2, 4] [1011, 1010] [4, 2] [(0, .p 1000 0), (1, hostV), (2, .p 2 0), (4, .p 4 0)] [(0, .p 1000 0), (1, hostV), (2, .p 1010 0), (4, .p 1011 0)] ((2, .b [.p 1000 0]) :: (4, .b rc0) :: fr0 c inp g) ((1010, .b [.p 1000 0]) :: (1011, .b rc0) :: fr0 c inp g)
  Tryz.func23 rfl rfl rfl (by kernel_rfl) (by kernel_rfl) rfl rfl (caps := [.tmp 4, .tmp 2]) rfl rfl rfl rfl rfl rfl rfl rfl rfl rfl (by decide) (by decide) rfl (fun ρ hρ => ?_) (fun ρ hρ => ?_) rfl rfl (fun t v ht e => by subst e; have ht' : (none : Option V) = some v := ht; cases ht') (fun F _ => ?_) fun F hF => ?_
 ·simp only [List.map_cons, List.map_nil, List.cons.injEq, and_true] at hρ
  obtain ⟨r1, r2, r3, r4, r5⟩ := hρ
  refine ⟨by simp [Mem.ren, M.ren, V.ren, r1, r2, r3, r4, r5]; rfl, fun t v h => ?_⟩
  have := aget_renF ρ.f _ h
  simpa [V.ren, V.ren.go, r1, r4, r5] using this
 ·simp only [List.map_cons, List.map_nil, List.cons.injEq, and_true] at hρ
  obtain ⟨r1, r2, r3, r4, r5⟩ := hρ
  simp only [List.map_cons, List.map_nil, r4, r5]
 ·refine wk ?_ trueW trueW
  exact ⟨⟨rfl, rfl, rfl, rfl, trivial⟩, ⟨rfl, rfl, rfl, rfl, rfl, trivial⟩, rfl⟩
 ·have hstp : StopAt 3 := ⟨trivial⟩
  refine wk ?_ trueW trueW
  refine Stp.mk ?_
  clear hstp
  refine LC.weak (env' := [(1, hostV), (2, .p 1010 0), (4, .p 1011 0)]) (mem' := [(1010, .b [.p 1000 0]), (1011, .b rc0), (1000, .b [.s none (c.map bK), .s none (inp.map bK), uK g, .w 1001 0 1 0 0, .w 1002 0 4 0 0, .mp 9, .k (.int .i64 0), .s none []]), (1001, .w 5 1 0 []), (1002, .w 36 4 0 []), (9, .m [])]) ⟨by repeat (first | exact True.intro | refine And.intro rfl ?_), by repeat (first | exact True.intro | refine And.intro rfl ?_), rfl⟩ ?_
  refine LC.renF (env' := [(1, hostV), (2, .p 1010 0), (4, .p 1011 0)]) (mem' := [(1010, .b [.p 1000 0]), (1011, .b rc0), (1000, .b [.s none (c.map bK), .s none (inp.map bK), uK g, .w 1001 0 1 0 0, .w 1002 0 4 0 0, .mp 1003, .k (.int .i64 0), .s none []]), (1001, .w 5 1 0 []), (1002, .w 36 4 0 []), (1003, .m [])]) [1003] [9] (by decide) (by decide) rfl (fun i hi => hF i ?_) (fun ρ hρ hfix => ?_) ?_
  ·rcases hi with hi | hi
   ·rw [List.mem_singleton.1 hi]; rfl
   ·rw [List.mem_singleton.1 hi]; rfl
  ·simp only [List.map_cons, List.map_nil, List.cons.injEq, and_true] at hρ
   have f1 := hfix 1000 (by decide) (by decide)
   have f2 := hfix 1001 (by decide) (by decide)
   have f3 := hfix 1002 (by decide) (by decide)
   have f4 := hfix 1010 (by decide) (by decide)
   have f5 := hfix 1011 (by decide) (by decide)
   refine ⟨by simp [Mem.ren, M.ren, V.ren, f1, f2, f3, f4, f5, hρ]; rfl, fun t v h => ?_⟩
   have := aget_renF ρ.f _ h
   simpa [V.ren, V.ren.go, f4, f5] using this
  have hM := mapTyL
  have c1 := Cw.Landings c (by omega)
  have hLu := lands_up c
  have hLl : ∀ x ∈ Co.lands c, x < 1000000000 := fun x hx => by have := lands_lt hx; omega
  have hlen := lands_len c
  generalize hL : Co.lands c = L at *
  refine wk ?_ trueW trueW
  refine LC.loopN (fun i => [(1, hostV), (2, .p 1010 0), (4, .p 1011 0), (16, .s none (L.map iN)), (17, .k (.int .i64 ((L.length : Nat) : Int))), (18, .k (.int .i64 ((i : Nat) : Int)))]) (fun i => [(1010, .b [.p 1000 0]), (1011, .b rc0), (1000, .b [.s none (c.map bK), .s none (inp.map bK), uK g, .w 1001 0 1 0 0, .w 1002 0 4 0 0, .mp 1003, .k (.int .i64 0), .s none []]), (1001, .w 5 1 0 []), (1002, .w 36 4 0 []), (1003, .m (mL (L.take i)))]) (fun i => i ≤ L.length) ((L.length - ·)) (0) (Nat.zero_le _) ⟨rfl, rfl, rfl, rfl, rfl, rfl, trivial⟩ ⟨rfl, rfl, rfl, rfl, rfl, rfl, trivial⟩ rfl rfW rfW ?_
  rintro i hil
  rcases Nat.lt_or_ge i L.length with h | h
  ·have hge : L[i]? = some (L.getD i default) := by rw [List.getD_eq_getElem?_getD, List.getElem?_eq_getElem h]; rfl
   have hkey := keyL ((L.getD i default : Nat) : Int) (by have := hLl _ (List.mem_of_getElem? hge); omega)
   have hks := keysL (L := L.take i) fun x hx => by have := hLl x (List.mem_of_mem_take hx); omega
   have hno := noL (not_before hLu h)
   have hes := take_snoc h
   have hok : i + 1 ≤ L.length := h
   clear hge hLu hLl hr
   exact wk trueW trueW trueW
  ·obtain rfl : i = L.length := by omega
   simp only [List.take_length]
   subst hL
   clear hLu hLl hM c1 h
   refine wk ?_ trueW trueW
   refine LC.loop2 (fun _ _ => [(1, hostV), (2, .p 1010 0), (4, .p 1011 0)]) (fun i S => clM c inp i S [] rc0) (fun i S => Inv c S ∧ Runs 10 14 (Fm.act c inp) S i r ∧ i < 18446744073709551616) (fun i => i) g S0 ⟨inv0 c, hr, hg⟩ ⟨rfl, rfl, rfl, trivial⟩ ⟨rfl, rfl, rfl, rfl, rfl, rfl, trivial⟩ rfl rfW rfW ?_
   rintro i S ⟨hI, hR, hg2⟩
   have hst := stepC hcl hi hI hg2
   cases hR with
   | done h =>
    rw [h] at hst
    rcases hst with ⟨he, s', hlm, hl4⟩ | ⟨he, s', g', o', hlm, h14, hn14, hl4⟩
    ·have c1 := hlm
     have hd := cl_idle c inp r.gas s' r.out r
     obtain ⟨e, gs, out⟩ := r
     have he : e = 0 := he
     subst he
     clear h hr hlm
     refine wk ?_ trueW trueW
     exact ⟨[(4, .p 1011 0)], clM c inp gs s' out (resC ⟨0, gs, out⟩), clM c inp gs s' out (resC ⟨0, gs, out⟩), _, _, ⟨rfl, trivial⟩, ⟨rfl, rfl, rfl, rfl, rfl, rfl, trivial⟩, rfl, rfl, hd, resV_1 (res1_cell rfl rfl rfl rfl), ⟨fun _ => true, false, cv_same _⟩, rfl, by repeat' (first | rfl | trivial | apply And.intro)⟩
    ·have p1 := hlm
     have hp1 : PanIn 8 2 := ⟨trivial⟩
     clear hr hlm
     by_cases h2 : r.err = 14
     ·obtain ⟨q1, q2⟩ := h14 h2
      obtain ⟨e, gs, out⟩ := r
      simp only at h2 q1 q2
      subst h2; subst q1; subst q2
      have hd := cl_rev c inp g' s' o'
      clear h h14 hn14
      refine wk ?_ trueW trueW
      exact ⟨[(4, .p 1011 0)], clM c inp g' s' o' rc0, clM c inp g' s' o' [.k (.int .i64 14), uK g', .s none (o'.map bK)], _, _, ⟨rfl, trivial⟩, ⟨rfl, rfl, rfl, rfl, rfl, rfl, trivial⟩, rfl, rfl, hd, resV_1 (res1_cell rfl rfl rfl rfl), ⟨fun _ => true, false, cv_same _⟩, rfl, by repeat' (first | rfl | trivial | apply And.intro)⟩
     ·obtain ⟨q1, q2⟩ := hn14 h2
      obtain ⟨e, gs, out⟩ := r
      simp only at h2 q1 q2
      subst q1; subst q2
      have hd := cl_fail c inp g' s' o' e h2
      clear h h14 hn14
      refine wk ?_ trueW trueW
      exact ⟨[(4, .p 1011 0)], clM c inp g' s' o' rc0, clM c inp g' s' o' [.k (.int .i64 ((e : Nat) : Int)), .k (.int .u64 0), .nil], _, _, ⟨rfl, trivial⟩, ⟨rfl, rfl, rfl, rfl, rfl, rfl, trivial⟩, rfl, rfl, hd, resV_1 (res1_cell rfl rfl rfl rfl), ⟨fun _ => false, true, rfl⟩, rfl, by repeat' (first | rfl | trivial | apply And.intro)⟩
   | @next _ _ s' g' _ h h' =>
    rw [h] at hst
    obtain ⟨hlm, hI'⟩ := hst
    have hlt := act_dec h
    have c1 := hlm
    have hok : Inv c s' ∧ Runs 10 14 (Fm.act c inp) s' g' r ∧ g' < 18446744073709551616 := ⟨hI', h', by omega⟩
    clear h h' hlm hr hI hI'
    exact wk trueW trueW trueW
end Fw
end Lf
open Go.RowKit Rg Wm Ar
set_option linter.unusedVariables false
set_option maxRecDepth 100000
namespace Lf
open Fm FrP Fw
abbrev resV' (r : Res) : V := .a (resC r)
def runF (c inp : List UInt8) : Nat → MS → Nat → Option Res
 | 0, _, _ => none
 | n + 1, s, g => match exec 10 14 (Fm.act c inp s g) g with
  | .done r => some r
  | .next s' g' => runF c inp n s' g'
theorem runF_ok {c inp : List UInt8} : ∀ (n : Nat) (s : MS) (g : Nat) (r : Res), runF c inp n s g = some r → Runs 10 14 (Fm.act c inp) s g r
 | 0, _, _, _, h => by cases h
 | n + 1, s, g, r, h => by
  rw [runF] at h
  split at h
  ·rename_i r' h'
   cases h
   exact .done h'
  ·rename_i s' g' h'
   exact .next h' (runF_ok n s' g' r h)
namespace Fw
theorem Run_at (c inp : List UInt8) (g : Nat) (hcl : c.length < 100000000) (hi : inp.length < 1073741824) (hg : g < 18446744073709551616) (r : Res) (hr : Fm.run c inp g r) : LM Tryz.prog 23 [.p 12 0, hostV] [(12, .b [.s none (c.map bK), .s none (inp.map bK), uK g, .w 61 0 1 0 0, .w 62 0 4 0 0, .k (.map none), .k (.int .i64 0), .s none []]), (61, .w 5 1 0 []), (62, .w 36 4 0 [])] fun q m => q = .ret (.a (resC r)) ∧ m = [(12, .x), (61, .x), (62, .x)] :=
 LM.gen [1000, 1001, 1002] [12, 61, 62] (by decide) (by decide) rfl (Run_ c inp g hcl hi hg r hr) fun ρ hρ => by
  simp only [List.map_cons, List.map_nil, List.cons.injEq, and_true] at hρ
  obtain ⟨r1, r2, r3⟩ := hρ
  refine ⟨?_, ?_, ?_, ?_⟩
  ·simp [V.ren, V.ren.go, r1]
  ·simp [Mem.ren, M.ren, V.ren, r1, r2, r3]; rfl
  ·simp only [Out.ren, V.ren, V.ren.go]; rfl
  ·simp [goneM, Mem.ren, M.ren, r1, r2, r3]
set_option maxHeartbeats 1000000 in
theorem Run (c inp : List UInt8) (g : Nat) (hcl : c.length < 100000000) (hi : inp.length < 1073741824) (hg : g < 18446744073709551616) (r : Res) (hr : Fm.run c inp g r) : LF Tryz.prog 12 [.s none (c.map bK), .s none (inp.map bK), uK g] (fun _ => resV' r) none := by
 have c1 := Run_at c inp g hcl hi hg r hr
 have hstp : StopAt 2 := ⟨trivial⟩
 clear hr
 refine LFx.mk' tt Tryz.func12 rfl rfl rfl (by kernel_rfl) rfl rfl fun F => ?_
 refine wk ?_ trueW trueW
 refine Stp.mk (LC.nilbuf 12 3 61 5 1 rfl rfl rfl (by decide) rfl ?_)
 refine LC.nilbuf 12 4 62 36 4 rfl rfl rfl (by decide) rfl ?_
 refine LC.cellweak (i := 12) 7 (.s none []) rfl rfl rfl (fun _ _ _ h => rep_nilE h) rfl ?_
 clear hstp
 exact wk trueW trueW trueW
end Fw
abbrev aliveC : List UInt8 := [0x60, 7, 0x60, 0, 0x52, 0x60, 32, 0x60, 0, 0xf2]
theorem alive_run : Fm.run aliveC [] 100 ⟨0, 82, List.replicate 31 0 ++ [7]⟩ := runF_ok 20 _ _ _ (by kernel_rfl)
namespace Fw
set_option maxHeartbeats 1000000 in
theorem alive16 : LF Tryz.prog 11 [] (fun _ => .k (.bool true)) none := by
 have c1 := Run aliveC [] 100 (by decide) (by decide) (by decide) _ alive_run
 have hl : (List.replicate 31 (0 : UInt8) ++ [7]).length = 32 := by decide
 refine LFx.mk' tt Tryz.func11 rfl rfl rfl (by kernel_rfl) rfl rfl fun F => ?_
 exact wk trueW trueW trueW
end Fw
end Lf
namespace Lf
namespace Fw
end Fw
end Lf
end Go.Proofs.YtffaobngpbaklaaGreatDoor

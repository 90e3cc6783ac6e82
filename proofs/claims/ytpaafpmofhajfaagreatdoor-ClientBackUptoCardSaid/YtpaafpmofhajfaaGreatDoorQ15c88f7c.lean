/- A part of the proof: texts joined. -/
import Derived.Recover
import Derived.Test.YtpaafpmofhajfaaGreatDoorQ6e3c558
set_option linter.unusedVariables false
set_option linter.unusedSimpArgs false
namespace Go.Proofs.YtpaafpmofhajfaaGreatDoor
set_option linter.unusedSimpArgs false
open Go.RowKit Rg
namespace Lf
section
variable {P : Program}
def RvAt (w : World) (g : Gh) (u : FrameMode) : Option V → Prop
 | none => u = .returning
 | some v => ∃ x, u = .panicking [{ v := x, recovered := false }] ∧ Rep w g v x
structure DefC (P : Program) (f : Nat) (args : List V) (rv : Option V) (mi mo : Mem) : Prop where
 go : ∀ (g : Gh) (w : World) (vals : Array Value) (u : FrameMode), RelM (lentF g mi w) g mi w → args.length = vals.size → (∀ (j : Nat) y x, args[j]? = some y → vals[j]? = some x → Rep w g y x) →
  RvAt w g u rv →
  CallsD P f vals u w fun e u' w' => (∃ y, e = .returned y) ∧ settle u' = .returning ∧ ∃ g', Ev g w g' w' ∧ RelM (lentF g mi w) g' mo w' ∧ Kept (lentF g mi w) g' w'
def rvV : Option V → V
 | none => .k .nilIface
 | some v => v
theorem DefC.enter (X : TOk P) {f N d1 d2 id : Nat} {fn : Func} {c : Code} {o1 o2 : Oper} {cl : Call} {args : List V} {rv : Option V} {mi mo : Mem} (hf : P.funcs[f]? = some fn) (hb : fn.body = some (.seq (.region id #[o1, o2] false) c)) (hN : fn.ntmps = N) (hrs : fn.results = #[])
    (h1 : o1.op = .call cl) (hcl : cl.callee = .builtin .recover) (hca : cl.args = #[]) (hd1 : o1.dst = some d1) (hg1 : o1.guard = none) (h2 : o2.op = .assign (.tmp d1)) (hd2 : o2.dst = some d2) (hg2 : o2.guard = none) (hn1 : Nat.blt d1 N = true) (hn2 : Nat.blt d2 N = true)
    (hle : Nat.ble args.length N = true) (hbig : (mi.all fun x => Nat.ble 1000 x.1) = true) (hks : keysOk mi mo = true)
    (h : ∀ F, F.D = [] → LC P F N c (LRet X [] fun o m => o = .ret (.t []) ∧ m = mo) ((d2, rvV rv) :: (d1, rvV rv) :: params 0 args) mi) : DefC P f args rv mi mo := by
  refine ⟨fun g w vals u hm hl hr hu => callsD_of_wpS hf hb fun c₀ cs hc => wpS_seq (wpS_region ?_)⟩
  have hle' := Nat.le_of_ble_eq_true hle
  have hbg : (lentF g mi w).Big := fun i hi => by
    have : aget mi i = none := by
      cases hg : aget mi i with
      | none => rfl
      | some m =>
        have h1 := Nat.le_of_ble_eq_true (List.all_eq_true.1 hbig _ (aget_mem hg))
        exact absurd h1 (by simp; omega)
    exact ⟨hm.nbx i this, hm.nrw i this⟩
  have hrel : Rel (lentF g mi w) N g (params 0 args) mi { tmps := vals ++ Array.replicate (fn.ntmps - vals.size) undef, defers := [] } w := by
    refine ⟨fun t v ht => ?_, hm, ⟨rfl, rfl, rfl, Nat.le_refl _, fun _ _ _ => rfl, fun _ _ _ _ => ⟨rfl, rfl⟩, fun _ _ _ _ h => h, fun _ _ _ h => h, fun _ _ _ _ => rfl⟩, rfl, by simp; omega, hbg⟩
    obtain ⟨_, h2⟩ := params_get ht
    rw [Nat.sub_zero] at h2
    have hlt := (List.getElem?_eq_some_iff.1 h2).1
    have hx : vals[t]? = some vals[t] := Array.getElem?_eq_getElem (by omega)
    exact ⟨vals[t], by rw [Array.getElem?_append_left (by omega)]; exact hx, hr t v _ h2 hx⟩
  generalize hact : ({ tmps := vals ++ Array.replicate (fn.ntmps - vals.size) undef, defers := [] } : Act) = act at *
  have hrun1 : ∀ a : Act, (execOp a.eval o1).run P w = .ok .recover w := fun a => by
    obtain ⟨ce, ca, ct⟩ := cl
    simp only at hcl hca
    subst hcl; subst hca
    simp [execOp, h1, resolve, invoke, builtin]
  have hrun2 : ∀ a : Act, (execOp a.eval o2).run P w = .ok (.value (a.eval (.tmp d1))) w := fun a => by simp [execOp, h2]
  have hw1 : ∀ t, Region.wanted o1 t = true := fun t => by unfold Region.wanted; rw [hg1]
  have hw2 : ∀ t, Region.wanted o2 t = true := fun t => by unfold Region.wanted; rw [hg2]
  have main : ∀ (x : Value) (cs' : List Frame) (u' : FrameMode), Rep w g (rvV rv) x → settle u' = .returning → cs' = { c₀ with mode := u' } :: cs →
      c.wpS P (bodyPostS P fn c₀ cs fun e u' w' => (∃ y, e = .returned y) ∧ settle u' = .returning ∧ ∃ g', Ev g w g' w' ∧ RelM (lentF g mi w) g' mo w' ∧ Kept (lentF g mi w) g' w') ((act.put (some d1) x).put (some d2) ((act.put (some d1) x).eval (.tmp d1))) cs' w := by
    intro x cs' u' hx hset hcs
    have r1 := hrel.put (d := some d1) (v := rvV rv) (Ev.refl g w) hrel.mem hrel.kept hx hn1
    have hev : (act.put (some d1) x).eval (.tmp d1) = x := by
      have hlt : d1 < N := Nat.le_of_ble_eq_true hn1
      have hnot : ¬ N ≤ d1 := by omega
      simp [Act.put, Act.eval, hrel.size, hlt, hnot]
    rw [hev]
    have r2 := r1.put (d := some d2) (v := rvV rv) (Ev.refl g w) r1.mem r1.kept hx hn2
    refine wpS_of_wp (wp_mono (wpIn_wide.1 ((h _ rfl).go _ (.refl _) _ _ _ r2)) fun e a' w' ⟨F1, hF1, env, mem, g', le, q1, q3, q2⟩ => ?_)
    obtain rfl := hF1.same rfl
    have key : LFin X [] (fun o m => o = .ret (.t []) ∧ m = mo) env mem → a'.defers = [] ∧ ∃ u', cs' = { c₀ with mode := u' } :: cs ∧ ∃ v, (results fn a'.tmps).run P w' = .ok v w' ∧ ((∃ y, Ending.returned v = .returned y) ∧ settle u' = .returning ∧ ∃ g', Ev g w g' w' ∧ RelM (lentF g mi w) g' mo w' ∧ Kept (lentF g mi w) g' w') := by
      rintro ⟨v, v', mo', hv, ht, hR⟩
      obtain ⟨_, rfl⟩ := hR
      obtain ⟨y, hy, hrep⟩ := resV_run X q1 (fn := fn) (rs := []) (by rw [hrs]) (by decide) hv
      obtain ⟨r1, r2, r3, r4⟩ := ht.rep rfl hks hm hrep q1.mem q1.kept
      exact ⟨q1.defers, u', hcs, y, hy, ⟨y, rfl⟩, hset, _, r4, r2, r3⟩
    cases le with
    | normal => cases q3; exact key q2
    | ret => cases q3; exact key q2
    | exit _ => exact q2.elim
    | goto _ => exact q2.elim
    | pan v =>
      obtain ⟨v', mo', _, hR⟩ := q2
      cases hR.1
  have hrange : List.range (#[o1, o2] : Array Oper).size = [0, 1] := rfl
  rw [hrange]
  have e0 : (#[o1, o2] : Array Oper)[0]? = some o1 := rfl
  have e1 : (#[o1, o2] : Array Oper)[1]? = some o2 := rfl
  cases rv with
  | none =>
    have hu : u = .returning := hu
    have hrec : recoverD (c₀ :: cs) = none := by
      simp only [recoverD, hc, hu]
    simp only [wpOpsS, e0, hw1, if_true, hrun1, hrec, e1, hw2, hrun2, Oper.upon, hd1, hd2]
    exact main .nilIface _ c₀.mode (.k _) (by rw [hc, hu]; rfl) (by cases c₀; rfl)
  | some v =>
    obtain ⟨x, hu, hx⟩ := hu
    have hrec : recoverD (c₀ :: cs) = some (x, { c₀ with mode := .panicking [{ v := x, recovered := true }] } :: cs) := by
      simp only [recoverD, hc, hu]
    simp only [wpOpsS, e0, hw1, if_true, hrun1, hrec, e1, hw2, hrun2, Oper.upon, hd1, hd2]
    exact main x _ _ hx rfl rfl
end
end Lf
open Go.RowKit Rg
namespace Lf
section
variable {P : Program}
def DefFin (P : Program) (X : TOk P) (fc : Nat) (cs : List Nat) (rs : List ResultVar) (R : Out → Mem → Prop) (rv : Option V) (env : Env) (mem : Mem) : Prop :=
 ∃ (envR : Env) (mo3 mo4 : Mem) (u v' : V), SubE env envR ∧ SubM mem mo3 ∧ (refsE mo3 envR && (refsM mo3 mo3 && ((mem.all fun x => Nat.blt x.1 1000 || (aget mo3 x.1).isSome) && (mo3.all fun x => Nat.ble 1000 x.1)))) = true ∧
  ((match rv with | none => true | some v => v.refs mo3) && (cs.all fun i => (aget mo3 i).isSome)) = true ∧ DefC P fc (cs.map fun i => .p i 0) rv mo3 mo4 ∧ resV X.tab envR mo4 rs = some u ∧ (∃ keep nn, u.cv keep nn = v') ∧ v'.refs [] = true ∧ R (.ret v') []
def DefQ (P : Program) (X : TOk P) (fc : Nat) (cs : List Nat) (rs : List ResultVar) (R : Out → Mem → Prop) : LQ
 | .normal, env, mem => DefFin P X fc cs rs R none env mem
 | .ret, env, mem => DefFin P X fc cs rs R none env mem
 | .pan v, env, mem => DefFin P X fc cs rs R (some v) env mem
 | _, _, _ => False
def AtQ (env1 : Env) (mem1 : Mem) : LQ
 | .normal, env, mem => Sub env mem env1 mem1
 | _, _, _ => False
theorem LM.enterD (X : TOk P) {f N s fc id : Nat} {fn : Func} {r0 c2 : Code} {oM oD : Oper} {cl : Call} {caps : List Operand} {args : List V} {rs : List ResultVar} {R : Out → Mem → Prop} (ks is : List Nat) (env1 env2 : Env) (mem1 mem2 : Mem)
    (hf : P.funcs[f]? = some fn) (hb : fn.body = some (.seq r0 (.seq (.region id [oM, oD].toArray false) c2))) (hN : fn.ntmps = N) (hrs : fn.results = rs.toArray) (hok : callOk P f = true) (hokc : callOk P fc = true) (hle : Nat.ble args.length N = true) (hrl : Nat.ble rs.length 3 = true)
    (hM : oM.op = .makeFunc (.func fc) ([] : List Operand).toArray caps.toArray) (hMd : oM.dst = some s) (hMg : oM.guard = none) (hsN : Nat.blt s N = true) (hcaps : evs env1 caps = some (is.map fun i => .p i 0))
    (hD : oD.op = .defer cl) (hcl : cl.callee = .value (.tmp s)) (hca : cl.args = #[]) (hDd : oD.dst = none) (hDg : oD.guard = none)
    (hk1 : ks.Nodup) (hk2 : is.Nodup) (hk3 : ks.length = is.length) (hren : ∀ ρ : Pm, ks.map ρ.f = is → Mem.ren ρ.f mem2 = mem1 ∧ ∀ t v, aget env2 t = some v → aget env1 t = some (v.ren ρ.f))
    (hbig : (mem2.all fun x => Nat.ble 1000 x.1) = true) (hns : ∀ t v, aget env2 t = some v → t ≠ s)
    (h0 : ∀ F, F.D = [] → LC P F N r0 (AtQ env1 mem1) (params 0 args) [])
    (h2 : ∀ F, LC P F N c2 (DefQ P X fc ks rs R) env2 mem2) : LM P f args [] R := by
  obtain ⟨ρ, hρ⟩ := exists_pm ks is hk1 hk2 hk3
  obtain ⟨hmr, her⟩ := hren ρ hρ
  refine ⟨hok, fun g w vals hm hl hr => ?_⟩
  have hle' := Nat.le_of_ble_eq_true hle
  have hsN' : s < N := Nat.le_of_ble_eq_true hsN
  refine calls_of_wp_defers hf hb ?_
  have hbg : (lentF g [] w).Big := fun i hi => ⟨hm.nbx i rfl, hm.nrw i rfl⟩
  have hrel : Rel (lentF g [] w) N g (params 0 args) [] { tmps := vals ++ Array.replicate (fn.ntmps - vals.size) undef, defers := [] } w := by
    refine ⟨fun t v ht => ?_, hm, ⟨rfl, rfl, rfl, Nat.le_refl _, fun _ _ _ => rfl, fun _ _ _ _ => ⟨rfl, rfl⟩, fun _ _ _ _ h => h, fun _ _ _ h => h, fun _ _ _ _ => rfl⟩, rfl, by simp; omega, hbg⟩
    obtain ⟨_, h2⟩ := params_get ht
    rw [Nat.sub_zero] at h2
    have hlt := (List.getElem?_eq_some_iff.1 h2).1
    have hx : vals[t]? = some vals[t] := Array.getElem?_eq_getElem (by omega)
    exact ⟨vals[t], by rw [Array.getElem?_append_left (by omega)]; exact hx, hr t v _ h2 hx⟩
  refine wp_seq (wp_mono (wpIn_wide.1 ((h0 _ rfl).go _ (.refl _) _ _ _ hrel)) fun e a1 w1 ⟨F1, hF1, env, mem, gx, le, q1, q3, q2⟩ => ?_)
  obtain rfl := hF1.same rfl
  cases le with
  | exit _ => exact q2.elim
  | goto _ => exact q2.elim
  | ret => exact q2.elim
  | pan _ => exact q2.elim
  | normal =>
  cases q3
  have hr1 := q1.sub q2
  clear q1 q2
  generalize gx.only mem1 = g1 at hr1
  -- the closure, and its deferral
  show (Code.seq (.region id [oM, oD].toArray false) c2).wp P (bodyPostD P fn _) a1 w1
  obtain ⟨e1, e2⟩ := evs_get hcaps
  let us : Array Value := (caps.map a1.eval).toArray
  have hus : ∀ (j i : Nat), is[j]? = some i → ∃ x, us[j]? = some x ∧ Rep w1 g1 (.p i 0) x := fun j i hj => by
    obtain ⟨y, hy, hev⟩ := e2 j (.p i 0) (by rw [List.getElem?_map, hj]; rfl)
    exact ⟨a1.eval y, by simp [us, hy], hr1.evo hev⟩
  have husz : us.size = is.length := by simp [us]; simpa using e1
  have hrunM : ∀ a : Act, a.tmps = a1.tmps → (execOp a.eval oM).run P w1 = .ok (.value (.func (.func fc) #[] us)) w1 := fun a ha => by
    have : a.eval = a1.eval := by funext x; cases x <;> simp [Act.eval, ha]
    simp [execOp, hM, Instr.makeFunc, this, us]
  let a2 : Act := { tmps := a1.tmps.setIfInBounds s (.func (.func fc) #[] us), defers := [{ target := .fn (.func fc) us, args := #[] }] }
  have hwM : ∀ t, Region.wanted oM t = true := fun t => by unfold Region.wanted; rw [hMg]
  have hwD : ∀ t, Region.wanted oD t = true := fun t => by unfold Region.wanted; rw [hDg]
  refine wp_seq (wp_region_lit ?_)
  refine wpList_step fun K hK => ?_
  rw [hwM, if_pos rfl]
  unfold Oper.wp
  rw [hrunM a1 rfl]
  refine hK _ _ (wpList_step fun K2 hK2 => ?_)
  rw [hwD, if_pos rfl]
  unfold Oper.wp
  have hrunD : (execOp (a1.put oM.dst (.func (.func fc) #[] us)).eval oD).run P w1 = .ok (.defer { target := .fn (.func fc) us, args := #[] }) w1 := by
    obtain ⟨ce, ca, ct⟩ := cl
    simp only at hcl hca
    subst hcl; subst hca
    have hsz := hr1.size
    have hns : ¬ N ≤ s := by omega
    simp [execOp, hD, resolve, Deferred.ofValue, hMd, Act.put, Act.eval, hsz, hsN']
  rw [hrunD]
  have ha2 : ({ (a1.put oM.dst (.func (.func fc) #[] us)) with defers := { target := .fn (.func fc) us, args := #[] } :: (a1.put oM.dst (.func (.func fc) #[] us)).defers } : Act).put oD.dst undef = a2 := by
    rw [hMd, hDd]
    simp only [Act.put, hr1.defers]
    rfl
  show K2 (({ (a1.put oM.dst (.func (.func fc) #[] us)) with defers := { target := .fn (.func fc) us, args := #[] } :: (a1.put oM.dst (.func (.func fc) #[] us)).defers } : Act).put oD.dst undef) w1
  rw [ha2]
  refine hK2 _ _ (wpList_nil ?_)
  show c2.wp P (bodyPostD P fn _) a2 w1
  -- the rest, in a frame of its own
  let g2 : Gh := g1.pull ρ.f
  have hm2 : RelM ((lentF g [] w).pull ρ.f) g2 mem2 w1 := relM_pull ρ (by rw [hmr]; exact hr1.mem)
  let F2 : Fr0 := { lentF g2 mem2 w1 with D := [{ target := .fn (.func fc) us, args := #[] }] }
  have hm3 : RelM F2 g2 mem2 w1 := ⟨hm2.ob, fun i m b o hi hp => .inr ⟨i, m, hi, hp⟩, hm2.dj, hm2.nbx, hm2.nrw, hm2.fut, ⟨(show TabAt w1 g1.S from hr1.mem.loc.tab.kept hr1.kept), fun _ _ h => h, fun i a l c h => ⟨a, l, c, h, Nat.le_refl _, fun _ => ⟨rfl, rfl⟩⟩⟩⟩
  have hbig2 : F2.Big := fun i hi => by
    have : aget mem2 i = none := by
      cases hg : aget mem2 i with
      | none => rfl
      | some m =>
        have h1 := Nat.le_of_ble_eq_true (List.all_eq_true.1 hbig _ (aget_mem hg))
        exact absurd h1 (by simp; omega)
    exact ⟨hm2.nbx i this, hm2.nrw i this⟩
  have hr2 : Rel F2 N g2 env2 mem2 a2 w1 := by
    refine ⟨fun t v ht => ?_, hm3, ⟨rfl, rfl, rfl, Nat.le_refl _, fun _ _ _ => rfl, fun _ _ _ _ => ⟨rfl, rfl⟩, fun _ _ _ _ h => h, fun _ _ _ h => h, fun _ _ _ _ => rfl⟩, rfl, by simp [a2, hr1.size], hbig2⟩
    obtain ⟨x, hx, hrep⟩ := hr1.env t _ (her t v ht)
    refine ⟨x, ?_, rep_pull ρ hrep⟩
    have hne := hns t v ht
    simp only [a2]
    rw [Array.getElem?_setIfInBounds_ne (Ne.symm hne)]
    exact hx
  have hnew : ∀ b o, F2.B b o → w.heap.size ≤ b := fun b o ⟨i, m, hi, hp⟩ => by
    rcases hm2.wr i m b o hi hp with h | ⟨_, _, h, _⟩
    · exact h
    · cases h
  have hks2 : ∀ (j i : Nat), ks[j]? = some i → ∃ x z, us[j]? = some x ∧ g2.bx i = some z ∧ x = .pointer (some ⟨z.1, z.2, none⟩) := fun j i hj => by
    have h1 : is[j]? = some (ρ.f i) := by rw [← hρ, List.getElem?_map, hj]; rfl
    obtain ⟨x, hx, hrep⟩ := hus j _ h1
    cases hrep with
    | @p _ _ _ b o h => exact ⟨_, (b, o), hx, h, rfl⟩
  have hk1' := hr1.kept
  refine wp_mono (wpIn_wide.1 ((h2 F2).go _ (.refl _) _ _ _ hr2)) fun e a3 w3 ⟨F3, hF3, env3, mem3, g3, le, q1, q3, q2⟩ => ?_
  obtain rfl := hF3.same rfl
  have key : ∀ (rv : Option V) (u0 : FrameMode), DefFin P X fc ks rs R rv env3 mem3 → u0 ≠ .run → RvAt w3 g3 u0 rv →
      Leaves P fn a3.tmps (fun e w' => ∃ o mo g', R o mo ∧ Ev g w g' w' ∧ RelM (lentF g [] w) g' mo w' ∧ Kept (lentF g [] w) g' w' ∧ o.At w' g' e) a3.defers u0 w3 := by
    rintro rv u0 ⟨envR, mo3, mo4, u, v', t1, t2, t3, t4, t5, t6, ⟨keep, nn, t7⟩, t8, t9⟩ hu0 hrv
    simp only [Bool.and_eq_true] at t3 t4
    obtain ⟨t31, t32, t33, t34⟩ := t3
    obtain ⟨t41, t42⟩ := t4
    have hsub : Sub env3 mem3 envR mo3 := ⟨t1, t2, by rw [t31, t32, t33]; rfl⟩
    have hr3 := q1.sub hsub
    have hm4 : RelM (lentF (g3.only mo3) mo3 w3) (g3.only mo3) mo3 w3 := ⟨hr3.mem.ob, fun i m b o hi hp => .inr ⟨i, m, hi, hp⟩, hr3.mem.dj, hr3.mem.nbx, hr3.mem.nrw, hr3.mem.fut, ⟨(show TabAt w3 (g3.only mo3).S from hr3.mem.loc.tab.kept hr3.kept), fun _ _ h => h, fun i a l c h => ⟨a, l, c, h, Nat.le_refl _, fun _ => ⟨rfl, rfl⟩⟩⟩⟩
    have hd3 : a3.defers = [{ target := .fn (.func fc) us, args := #[] }] := q1.defers
    rw [hd3]
    have hargs : ∀ (j : Nat) y x, (ks.map fun i => V.p i 0)[j]? = some y → us[j]? = some x → Rep w3 (g3.only mo3) y x := fun j y x hj hx => by
      rw [List.getElem?_map] at hj
      obtain ⟨i, hi, rfl⟩ := Option.map_eq_some_iff.1 hj
      obtain ⟨x', z, hx', hz, rfl⟩ := hks2 j i hi
      rw [hx] at hx'; cases hx'
      have h3 := q1.mem.loc.bx i z hz
      have h4 := List.all_eq_true.1 t42 i (List.mem_of_getElem? hi)
      refine .p ?_
      show (if (aget mo3 i).isSome then g3.bx i else none) = _
      rw [if_pos h4]; exact h3
    have hrv2 : RvAt w3 (g3.only mo3) u0 rv := by
      cases rv with
      | none => exact hrv
      | some v => obtain ⟨x, h1, h2⟩ := hrv; exact ⟨x, h1, h2.only t41⟩
    have hlen : (ks.map fun i => V.p i 0).length = us.size := by rw [List.length_map, husz, hk3]
    have hinv : (invoke (.fn (.func fc) us) #[]).run P w3 = .ok (.enter fc us) w3 := by
      unfold callOk at hokc
      split at hokc
      · rename_i fn' hfn
        simp only [Bool.and_eq_true, Bool.not_eq_true', beq_eq_false_iff_ne, ne_eq] at hokc
        obtain ⟨hn, hb'⟩ := hokc
        obtain ⟨c, hc⟩ := Option.isSome_iff_exists.1 hb'
        simp [invoke, callFunc, hfn, hn, hc]
      · cases hokc
    refine leaves_cons hu0 hinv ((t5.go (g3.only mo3) w3 us u0 hm4 hlen hargs hrv2).mono fun e u' w4 hh => ?_)
    obtain ⟨⟨y, rfl⟩, hset, g4, hev4, hm5, hk4⟩ := hh
    show Leaves P fn a3.tmps _ [] (settle u') w4
    rw [hset]
    have hbig4 : (lentF (g3.only mo3) mo3 w3).Big := fun i hi => by
      have : aget mo3 i = none := by
        cases hg : aget mo3 i with
        | none => rfl
        | some m =>
          have h1 := Nat.le_of_ble_eq_true (List.all_eq_true.1 t34 _ (aget_mem hg))
          exact absurd h1 (by simp; omega)
      exact ⟨hm4.nbx i this, hm4.nrw i this⟩
    have hrel4 : Rel (lentF (g3.only mo3) mo3 w3) N g4 envR mo4 { a3 with defers := [] } w4 :=
      ⟨fun t v ht => by obtain ⟨x, h1, h2⟩ := hr3.env t v ht; exact ⟨x, h1, h2.mono hev4⟩, hm5, hk4, rfl, q1.size, hbig4⟩
    obtain ⟨x, hx, hrep⟩ := resV_run X hrel4 hrs (Nat.le_of_ble_eq_true hrl) t6
    have hk3' := q1.kept
    -- old blocks are as they were
    have hB4 : ∀ b o, (lentF (g3.only mo3) mo3 w3).B b o → w.heap.size ≤ b := fun b o ⟨i, m, hi, hp⟩ => by
      rcases hr3.mem.wr i m b o hi hp with h | h
      · exact Nat.le_trans hk1'.size h
      · exact hnew b o h
    have hs1 : w.heap.size ≤ w1.heap.size := hk1'.size
    have hs3 : w1.heap.size ≤ w3.heap.size := hk3'.size
    have hs4 : w3.heap.size ≤ w4.heap.size := hk4.size
    have hnB : ∀ b, b < w.heap.size → ∀ o, ¬ F2.B b o := fun b hb o h => by have := hnew b o h; omega
    have hnB4 : ∀ b, b < w.heap.size → ∀ o, ¬ (lentF (g3.only mo3) mo3 w3).B b o := fun b hb o h => by have := hB4 b o h; omega
    have hnB1 : ∀ b o, ¬ (lentF g [] w).B b o := fun b o ⟨_, _, h, _⟩ => by cases h
    have cell : ∀ b o, b < w.heap.size → w4.cell? ⟨b, o, none⟩ = w.cell? ⟨b, o, none⟩ ∧ w4.frozen? ⟨b, o, none⟩ = w.frozen? ⟨b, o, none⟩ := fun b o hb => by
      obtain ⟨p1, p2⟩ := hk1'.cell b o hb (hnB1 b o)
      obtain ⟨p3, p4⟩ := hk3'.cell b o (Nat.lt_of_lt_of_le hb hs1) (hnB b hb o)
      obtain ⟨p5, p6⟩ := hk4.cell b o (Nat.lt_of_lt_of_le hb (Nat.le_trans hs1 hs3)) (hnB4 b hb o)
      exact ⟨p5.trans (p3.trans p1), p6.trans (p4.trans p2)⟩
    have s2 : ∀ b o, b < w.heap.size → g.S b o → g4.S b o := fun b o hb hs =>
      hk4.S2 b o (Nat.lt_of_lt_of_le hb (Nat.le_trans hs1 hs3)) (hk3'.S2 b o (Nat.lt_of_lt_of_le hb hs1) (hk1'.S2 b o hb hs))
    have s1 : ∀ b o, b < w.heap.size → g4.S b o → g.S b o := fun b o hb hs =>
      hk1'.S1 b o hb (hnB1 b o) (hk3'.S1 b o (Nat.lt_of_lt_of_le hb hs1) (hnB b hb o) (hk4.S1 b o (Nat.lt_of_lt_of_le hb (Nat.le_trans hs1 hs3)) (hnB4 b hb o) hs))
    refine ⟨x, hx, .ret v', [], g4.only [], t9, ⟨Nat.le_trans hs1 (Nat.le_trans hs3 hs4), fun b o hb hs => ⟨s2 b o hb hs, (cell b o hb).1⟩, fun i z hz => ?_, fun r a l c hh => ?_⟩, ⟨fun _ _ h => (by cases h), fun _ _ _ _ h => (by cases h), fun _ _ _ _ _ _ _ h => (by cases h), fun i _ => rfl, fun i _ => rfl, hm5.fut, ⟨hm.loc.tab, fun i z hz => ?_, fun i a l c hh => ?_⟩⟩,
      ⟨hk4.os.trans (hk3'.os.trans hk1'.os), hk4.tape.trans (hk3'.tape.trans hk1'.tape), hk4.output.trans (hk3'.output.trans hk1'.output), Nat.le_trans hs1 (Nat.le_trans hs3 hs4), fun b hb _ => ?_, fun b o hb _ => cell b o hb, fun b o hb _ hs => s1 b o hb hs, fun b o hb hs => s2 b o hb hs, fun b o hb _ => (cell b o hb).1⟩, x, rfl, ?_⟩
    · have := hm.nbx i rfl; rw [this] at hz; cases hz
    · have := hm.nrw r rfl; rw [this] at hh; cases hh
    · have := hm.nbx i rfl
      have hz' : g.bx i = some z := hz
      rw [this] at hz'; cases hz'
    · have := hm.nrw i rfl
      have hh' : g.rw i = some (a, l, c) := hh
      rw [this] at hh'; cases hh'
    · exact (hk4.blk b (Nat.lt_of_lt_of_le hb (Nat.le_trans hs1 hs3)) (hnB4 b hb)).trans ((hk3'.blk b (Nat.lt_of_lt_of_le hb hs1) (hnB b hb)).trans (hk1'.blk b hb (hnB1 b)))
    · subst t7
      exact (hrep.cv).only t8
  cases le with
  | normal => cases q3; exact key none .returning q2 (by simp) rfl
  | ret => cases q3; exact key none .returning q2 (by simp) rfl
  | exit _ => exact q2.elim
  | goto _ => exact q2.elim
  | pan v =>
    obtain ⟨x, rfl, hx⟩ := q3
    exact key (some v) (.panicking [{ v := x, recovered := false }]) q2 (by simp) ⟨x, rfl, hx⟩
end
end Lf
end Go.Proofs.YtpaafpmofhajfaaGreatDoor

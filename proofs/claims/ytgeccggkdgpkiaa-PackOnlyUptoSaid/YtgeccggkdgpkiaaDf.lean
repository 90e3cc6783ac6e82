/- Deferred closures that recover: their contracts; a function that defers one and then goes on. -/
import Derived.Test.YtgeccggkdgpkiaaLz
import Derived.Recover
namespace Go.Proofs.Ytgeccggkdgpkiaa
open Go.RowKit Rg
namespace Lf
section
variable {P : Program}
/-- The frame's mode: it returns, or it panics with v. -/
def RvAt (w : World) (g : Gh) (u : FrameMode) : Option V → Prop
  | none => u = .returning
  | some v => ∃ x, u = .panicking [{ v := x, recovered := false }] ∧ Rep w g v x
/-- The contract of a deferred closure that hands back nothing: entered as its frame returns (none), or as it panics with v (some v); it recovers. -/
structure DefC (P : Program) (f : Nat) (args : List V) (rv : Option V) (mi mo : Mem) : Prop where
  go : ∀ (g : Gh) (w : World) (vals : Array Value) (u : FrameMode), RelM (lentF g mi w) g mi w → args.length = vals.size → (∀ (j : Nat) y x, args[j]? = some y → vals[j]? = some x → Rep w g y x) →
    RvAt w g u rv →
    CallsD P f vals u w fun e u' w' => (∃ y, e = .returned y) ∧ settle u' = .returning ∧ ∃ g', Ev g w g' w' ∧ RelM (lentF g mi w) g' mo w' ∧ Kept (lentF g mi w) g' w'
def rvV : Option V → V
  | none => .k .nilIface
  | some v => v
theorem DefC.enter (X : TOk P) {f N d1 d2 id : Nat} {fn : Func} {c : Code} {o1 o2 : Oper} {cl : Call} {args : List V} {rv : Option V} {mi mo : Mem} (hf : P.funcs[f]? = some fn) (hb : fn.body = some (.seq (.region id #[o1, o2] false) c)) (hN : fn.ntmps = N) (hrs : fn.results = #[])
    (h1 : o1.op = .call cl) (hcl : cl.callee = .builtin .recover) (hca : cl.args = #[]) (hd1 : o1.dst = some d1) (hg1 : o1.guard = none) (h2 : o2.op = .assign (.tmp d1)) (hd2 : o2.dst = some d2) (hg2 : o2.guard = none) (hn1 : Nat.blt d1 N = true) (hn2 : Nat.blt d2 N = true)
    (hle : Nat.ble args.length N = true) (hbig : (mi.all fun x => Nat.ble 1000 x.1) = true) (hks : keysOk mi mo = true)
    (h : ∀ F, F.D = [] → LC P F N c (LRet X [] fun o m => o = .ret (.t []) ∧ m = mo) ((d2, rvV rv) :: (d1, rvV rv) :: params 0 args) mi) : DefC P f args rv mi mo := by
  refine ⟨fun g w vals u hm hl hr hu => callsD_of_wpS hf hb fun c₀ cs hc => wpS_seq (wpS_region ?_)⟩
  have hle' := Nat.le_of_ble_eq_true hle
  have hbg : (lentF g mi w).Big := fun i hi => by
    have : aget mi i = none := by
      cases hg : aget mi i with
      | none => rfl
      | some m =>
        have h1 := Nat.le_of_ble_eq_true (List.all_eq_true.1 hbig _ (aget_mem hg))
        exact absurd h1 (by simp; omega)
    exact ⟨hm.nbx i this, hm.nrw i this⟩
  have hrel : Rel (lentF g mi w) N g (params 0 args) mi { tmps := vals ++ Array.replicate (fn.ntmps - vals.size) undef, defers := [] } w := by
    refine ⟨fun t v ht => ?_, hm, ⟨rfl, rfl, rfl, Nat.le_refl _, fun _ _ _ => rfl, fun _ _ _ _ => ⟨rfl, rfl⟩, fun _ _ _ _ h => h, fun _ _ _ h => h, fun _ _ _ _ => rfl⟩, rfl, by simp; omega, hbg⟩
    obtain ⟨_, h2⟩ := params_get ht
    rw [Nat.sub_zero] at h2
    have hlt := (List.getElem?_eq_some_iff.1 h2).1
    have hx : vals[t]? = some vals[t] := Array.getElem?_eq_getElem (by omega)
    exact ⟨vals[t], by rw [Array.getElem?_append_left (by omega)]; exact hx, hr t v _ h2 hx⟩
  generalize hact : ({ tmps := vals ++ Array.replicate (fn.ntmps - vals.size) undef, defers := [] } : Act) = act at *
  have hrun1 : ∀ a : Act, (execOp a.eval o1).run P w = .ok .recover w := fun a => by
    obtain ⟨ce, ca, ct⟩ := cl
    simp only at hcl hca
    subst hcl; subst hca
    simp [execOp, h1, resolve, invoke, builtin]
  have hrun2 : ∀ a : Act, (execOp a.eval o2).run P w = .ok (.value (a.eval (.tmp d1))) w := fun a => by simp [execOp, h2]
  have hw1 : ∀ t, Region.wanted o1 t = true := fun t => by unfold Region.wanted; rw [hg1]
  have hw2 : ∀ t, Region.wanted o2 t = true := fun t => by unfold Region.wanted; rw [hg2]
  have main : ∀ (x : Value) (cs' : List Frame) (u' : FrameMode), Rep w g (rvV rv) x → settle u' = .returning → cs' = { c₀ with mode := u' } :: cs →
      c.wpS P (bodyPostS P fn c₀ cs fun e u' w' => (∃ y, e = .returned y) ∧ settle u' = .returning ∧ ∃ g', Ev g w g' w' ∧ RelM (lentF g mi w) g' mo w' ∧ Kept (lentF g mi w) g' w') ((act.put (some d1) x).put (some d2) ((act.put (some d1) x).eval (.tmp d1))) cs' w := by
    intro x cs' u' hx hset hcs
    have r1 := hrel.put (d := some d1) (v := rvV rv) (Ev.refl g w) hrel.mem hrel.kept hx hn1
    have hev : (act.put (some d1) x).eval (.tmp d1) = x := by
      have hlt : d1 < N := Nat.le_of_ble_eq_true hn1
      have hnot : ¬ N ≤ d1 := by omega
      simp [Act.put, Act.eval, hrel.size, hlt, hnot]
    rw [hev]
    have r2 := r1.put (d := some d2) (v := rvV rv) (Ev.refl g w) r1.mem r1.kept hx hn2
    refine wpS_of_wp (wp_mono ((h _ rfl).go _ _ _ r2) fun e a' w' ⟨env, mem, g', le, q1, q3, q2⟩ => ?_)
    have key : LFin X [] (fun o m => o = .ret (.t []) ∧ m = mo) env mem → a'.defers = [] ∧ ∃ u', cs' = { c₀ with mode := u' } :: cs ∧ ∃ v, (results fn a'.tmps).run P w' = .ok v w' ∧ ((∃ y, Ending.returned v = .returned y) ∧ settle u' = .returning ∧ ∃ g', Ev g w g' w' ∧ RelM (lentF g mi w) g' mo w' ∧ Kept (lentF g mi w) g' w') := by
      rintro ⟨v, v', mo', hv, ht, hR⟩
      obtain ⟨_, rfl⟩ := hR
      obtain ⟨y, hy, hrep⟩ := resV_run X q1 (fn := fn) (rs := []) (by rw [hrs]) (by decide) hv
      obtain ⟨r1, r2, r3, r4⟩ := ht.rep rfl hks hm hrep q1.mem q1.kept
      exact ⟨q1.defers, u', hcs, y, hy, ⟨y, rfl⟩, hset, _, r4, r2, r3⟩
    cases le with
    | normal => cases q3; exact key q2
    | ret => cases q3; exact key q2
    | exit _ => exact q2.elim
    | goto _ => exact q2.elim
    | pan v =>
      obtain ⟨v', mo', _, hR⟩ := q2
      cases hR.1
  have hrange : List.range (#[o1, o2] : Array Oper).size = [0, 1] := rfl
  rw [hrange]
  have e0 : (#[o1, o2] : Array Oper)[0]? = some o1 := rfl
  have e1 : (#[o1, o2] : Array Oper)[1]? = some o2 := rfl
  cases rv with
  | none =>
    have hu : u = .returning := hu
    have hrec : recoverD (c₀ :: cs) = none := by
      simp only [recoverD, hc, hu]
    simp only [wpOpsS, e0, hw1, if_true, hrun1, hrec, e1, hw2, hrun2, Oper.upon, hd1, hd2]
    exact main .nilIface _ c₀.mode (.k _) (by rw [hc, hu]; rfl) (by cases c₀; rfl)
  | some v =>
    obtain ⟨x, hu, hx⟩ := hu
    have hrec : recoverD (c₀ :: cs) = some (x, { c₀ with mode := .panicking [{ v := x, recovered := true }] } :: cs) := by
      simp only [recoverD, hc, hu]
    simp only [wpOpsS, e0, hw1, if_true, hrun1, hrec, e1, hw2, hrun2, Oper.upon, hd1, hd2]
    exact main x _ _ hx rfl rfl
end
end Lf
end Go.Proofs.Ytgeccggkdgpkiaa

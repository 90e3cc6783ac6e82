/- A part of the proof: texts joined. -/
import Derived.Test.YtkbimhccaacobaaQ1083ea83
namespace Go.Proofs.Ytkbimhccaacobaa
open Go.RowKit Rg
namespace Lf
structure Ms {σ : Type} (U : σ → Mem) : Prop where
  keys : ∀ s s', (U s).map (·.1) = (U s').map (·.1)
  nd : ∀ s, ((U s).map (·.1)).Nodup
  big : ∀ s, ((U s).all fun x => Nat.ble 1000 x.1) = true
  refs : ∀ s, refsM (U s) (U s) = true
theorem aget_mem_keys : ∀ {l : Mem} {i : Nat}, (aget l i).isSome = true ↔ i ∈ l.map (·.1)
  | [], i => by simp [aget]
  | (n, v) :: r, i => by
    rw [aget_cons, List.map_cons, List.mem_cons]
    by_cases h : n = i
    · subst h; simp
    · rw [if_neg h, aget_mem_keys]
      exact ⟨.inr, fun e => e.resolve_left fun e => h e.symm⟩
section
variable {σ : Type} {U : σ → Mem} (hU : Ms U)
include hU
theorem Ms.some_ {s s' : σ} {i : Nat} (h : (aget (U s) i).isSome = true) : (aget (U s') i).isSome = true := by
  rw [aget_mem_keys] at h ⊢
  rw [hU.keys s' s]; exact h
theorem Ms.none_ {s s' : σ} {i : Nat} (h : aget (U s) i = none) : aget (U s') i = none := by
  cases h' : aget (U s') i with
  | none => rfl
  | some m =>
    have := hU.some_ (s := s') (s' := s) (i := i) (by rw [h']; rfl)
    rw [h] at this; cases this
theorem Ms.small {s : σ} {i : Nat} (h : Nat.blt i 1000 = true) : aget (U s) i = none := by
  cases h' : aget (U s) i with
  | none => rfl
  | some m =>
    have h1 := Nat.le_of_ble_eq_true (List.all_eq_true.1 (hU.big s) _ (aget_mem h'))
    have h2 : i < 1000 := Nat.le_of_ble_eq_true h
    exact absurd h1 (by simp; omega)
theorem Ms.keysOk {s s' : σ} : keysOk (U s) (U s') = true := by
  unfold Lf.keysOk
  rw [List.all_eq_true]
  intro x hx
  exact hU.some_ (s := s) (aget_mem_keys.2 (List.mem_map_of_mem hx))
theorem Ms.only {s s' : σ} (g : Gh) : g.only (U s) = g.only (U s') := by
  unfold Gh.only
  congr 1
  · funext i
    by_cases h : (aget (U s) i).isSome = true
    · rw [if_pos h, if_pos (hU.some_ h)]
    · rw [if_neg h, if_neg fun e => h (hU.some_ e)]
  · funext i
    by_cases h : (aget (U s) i).isSome = true
    · rw [if_pos h, if_pos (hU.some_ h)]
    · rw [if_neg h, if_neg fun e => h (hU.some_ e)]
end
theorem refs_mono {m m' : Mem} (h : ∀ i, (aget m i).isSome = true → (aget m' i).isSome = true) (v : V) : v.refs m = true → v.refs m' = true :=
  V.rec (motive_1 := fun v => v.refs m = true → v.refs m' = true) (motive_2 := fun l => V.refs.go m l = true → V.refs.go m' l = true)
    (fun _ _ => rfl) (fun _ ih => ih) (fun _ ih => ih) (fun o _ _ => match o with
      | none => fun _ => rfl
      | some r => h r) (fun _ => rfl) (fun b _ => h b) (fun b _ _ _ => h b) (fun _ _ _ => rfl)
    (fun _ _ _ h1 h2 hh => by simp only [V.refs, Bool.and_eq_true] at hh ⊢; exact ⟨h1 hh.1, h2 hh.2⟩) (fun _ _ ih => ih) (fun b _ _ _ _ => h b) (fun b _ _ => h b) (fun b => h b) (fun b => h b)
    (fun _ => rfl) (fun _ _ h1 h2 hh => by simp only [V.refs.go, Bool.and_eq_true] at hh ⊢; exact ⟨h1 hh.1, h2 hh.2⟩) v
theorem refs_go_mono {m m' : Mem} (h : ∀ i, (aget m i).isSome = true → (aget m' i).isSome = true) : ∀ {l : List V}, V.refs.go m l = true → V.refs.go m' l = true
  | [], _ => rfl
  | v :: r, hl => by
    simp only [V.refs.go, Bool.and_eq_true] at hl ⊢
    exact ⟨refs_mono h v hl.1, refs_go_mono h hl.2⟩
theorem refsM_mono {m m' : Mem} (h : ∀ i, (aget m i).isSome = true → (aget m' i).isSome = true) : ∀ {l : Mem}, refsM m l = true → refsM m' l = true
  | [], _ => rfl
  | (i, .b cs) :: r, hl => by
    simp only [refsM, Bool.and_eq_true] at hl ⊢
    exact ⟨refs_go_mono h hl.1, refsM_mono h hl.2⟩
  | (i, .r ..) :: r, hl => refsM_mono (l := r) h hl
  | (i, .w ..) :: r, hl => refsM_mono (l := r) h hl
  | (i, .m _) :: r, hl => refsM_mono (l := r) h hl
  | (i, .o _) :: r, hl => refsM_mono (l := r) h hl
  | (i, .x) :: r, hl => refsM_mono (l := r) h hl
theorem some_app_r {A T : Mem} (i : Nat) (h : (aget T i).isSome = true) : (aget (A ++ T) i).isSome = true := by
  rw [aget_append]
  cases aget A i with
  | some _ => rfl
  | none => simpa using h
theorem some_app_l {A T : Mem} (i : Nat) (h : (aget A i).isSome = true) : (aget (A ++ T) i).isSome = true := by
  rw [aget_append]
  cases h' : aget A i with
  | some _ => rfl
  | none => rw [h'] at h; cases h
theorem refsM_app {m : Mem} : ∀ {A B : Mem}, refsM m A = true → refsM m B = true → refsM m (A ++ B) = true
  | [], _, _, hb => hb
  | (i, .b cs) :: r, B, ha, hb => by
    simp only [List.cons_append, refsM, Bool.and_eq_true] at ha ⊢
    exact ⟨ha.1, refsM_app ha.2 hb⟩
  | (i, .r ..) :: r, _, ha, hb => refsM_app (A := r) ha hb
  | (i, .w ..) :: r, _, ha, hb => refsM_app (A := r) ha hb
  | (i, .m _) :: r, _, ha, hb => refsM_app (A := r) ha hb
  | (i, .o _) :: r, _, ha, hb => refsM_app (A := r) ha hb
  | (i, .x) :: r, _, ha, hb => refsM_app (A := r) ha hb
theorem refsM_tail {σ : Type} {U : σ → Mem} (hU : Ms U) (A : Mem) (s : σ) (h : refsM (A ++ U s) A = true) : refsM (A ++ U s) (A ++ U s) = true :=
  refsM_app h (refsM_mono some_app_r (hU.refs s))
theorem SubM.of {m : Mem} : ∀ {m' : Mem}, (∀ i z, aget m' i = some z → aget m i = some z) → (m'.map (·.1)).Nodup → SubM m m'
  | [], _, _ => trivial
  | (i, z) :: r, h, hn => by
    rw [List.map_cons, List.nodup_cons] at hn
    refine ⟨h i z (aget_self ..), SubM.of (fun j y hj => h j y ?_) hn.2⟩
    rw [aget_ne fun e => hn.1 (by rw [e]; exact aget_mem_keys.1 (by rw [hj]; rfl))]
    exact hj
theorem SubM.skip {m T : Mem} {i : Nat} {z : M} (h : SubM m T) (hi : aget T i = none) : SubM ((i, z) :: m) T := by
  induction T with
  | nil => trivial
  | cons y r ih =>
    obtain ⟨j, z⟩ := y
    rw [aget_cons] at hi
    split at hi
    · cases hi
    · rename_i e
      exact ⟨by rw [aget_ne (Ne.symm e)]; exact h.1, ih h.2 hi⟩
theorem Ms.sub {σ : Type} {U : σ → Mem} (hU : Ms U) (s : σ) (X : Mem) : SubM (U s ++ X) (U s) :=
  SubM.of (fun i z h => by rw [aget_append, h]; rfl) (hU.nd s)
theorem aget_yield {σ : Type} {U : σ → Mem} (hU : Ms U) {s s0 : σ} {i : Nat} (h : aget (U s0) i = none) (X : Mem) : aget (U s ++ X) i = aget X i := by
  rw [aget_append, hU.none_ (s := s0) h]; rfl
theorem tpre_yield {σ : Type} {U : σ → Mem} (hU : Ms U) {s0 s1 : σ} {A : Mem} (hA : ∀ x ∈ A, aget (U s0) x.1 = none) : tpre (callT (U s0) (U s1)) (A ++ U s0) := by
  intro i m m' hi
  unfold callT at hi
  obtain ⟨⟨j, z0⟩, hx, e⟩ := List.mem_map.1 hi
  cases e
  show aget (A ++ U s0) j = aget (U s0) j
  rw [aget_append]
  cases h : aget A j with
  | none => rfl
  | some z =>
    have h1 := hA _ (aget_mem h)
    have h2 := hU.some_ (s := s1) (s' := s0) (aget_mem_keys.2 (List.mem_map_of_mem hx))
    rw [h1] at h2; cases h2
theorem tpre_yieldB {σ : Type} {U : σ → Mem} (hU : Ms U) {s0 s1 : σ} {A B : Mem} (hA : ∀ x ∈ A, aget (U s0) x.1 = none) (hB : ∀ x ∈ B, aget A x.1 = some x.2) : tpre (callT (B ++ U s0) (B ++ U s1)) (A ++ U s0) := by
  intro i m m' hi
  unfold callT at hi
  obtain ⟨⟨j, z0⟩, hx, e⟩ := List.mem_map.1 hi
  cases e
  show aget (A ++ U s0) j = aget (B ++ U s0) j
  rcases List.mem_append.1 hx with hx | hx
  · have h1 : aget A j = some z0 := hB _ hx
    have h2 : aget B j = some z0 := by
      cases h : aget B j with
      | some z =>
        have h3 : aget A j = some z := hB _ (aget_mem h)
        rw [h1] at h3; rw [h3]
      | none =>
        have := aget_mem_keys.2 (List.mem_map_of_mem (f := (·.1)) hx)
        rw [show ((j, z0) : Nat × M).1 = j from rfl, h] at this; cases this
    rw [aget_append, aget_append, h1, h2]
  · have h2 := hU.some_ (s := s1) (s' := s0) (aget_mem_keys.2 (List.mem_map_of_mem hx))
    have h3 : aget A j = none := by
      cases h : aget A j with
      | none => rfl
      | some z => have h1 := hA _ (aget_mem h); rw [h1] at h2; cases h2
    have h4 : aget B j = none := by
      cases h : aget B j with
      | none => rfl
      | some z => have h1 := hB _ (aget_mem h); rw [h3] at h1; cases h1
    rw [aget_append, aget_append, h3, h4]
def chkT2 (W : Array Nat) : List (Nat × Tch) → Bool
  | [] => true
  | x :: r => (r.all fun y => waits W y.1 x.1 || compat x.2 y.2) && chkT2 W r
theorem chkT_swap (W : Array Nat) : ∀ l, chkT W l = chkT2 W l
  | [] => rfl
  | x :: r => by
    unfold chkT chkT2
    rw [chkT_swap W r]
    congr 2
    funext y
    exact Bool.or_comm _ _
theorem DR.nlS {P : Program} {F : Fr0} {N : Nat} {ops : Array Oper} {W : Array Nat} {K : Env → Mem → Prop} {acc : List (Nat × Tch)} {env : Env} {mem : Mem} (hc : chkT2 W acc.reverse = true) (h : K env mem) : DR P F N ops (chkT W) K [] acc env mem :=
  DR.nl (by rw [chkT_swap]; exact hc) h
theorem DR.yieldO {P : Program} {F : Fr0} {N : Nat} {ops : Array Oper} {chk : List (Nat × Tch) → Bool} {K : Env → Mem → Prop} {i : Nat} {rs : List (Nat × Oper)} {acc : List (Nat × Tch)} {o : Oper} {env : Env} {mem : Mem} {y d : Nat} {f : Operand} {xs : List Operand} {ts : Array Nat} {us args : List V} {mi mo : Mem} {v : V} (hc : LY P (F.gh.only mi) F.w0 y args mi fun q m => q = .ret v ∧ m = mo) (hg : gd ops env o = some true) (hds : o.dst = some d)
    (ho : o.op = .call { callee := .value f, args := xs.toArray, argTypes := ts }) (hf : evo env f = some (.y y)) (hx : evs env xs = some us) (hu : Fits us args) (hr : (V.refs.go mi args && (refsM mi mi && keysOk mi mo)) = true) (hy : (aget mi y).isSome = true) (ht : tpre (callT mi mo) mem) (hd : Nat.blt d N = true)
    (hK : DR P F N ops chk K rs ((i, callT mi mo) :: acc) ((d, v) :: env) (mo ++ mem)) : DR P F N ops chk K ((i, o) :: rs) acc env mem :=
  DR.stepF hg (DoesF.yieldO hc ho hf hx hu hr hy) ht (by rw [hds]; exact hd) (by rw [hds, tset_call]; exact hK)
theorem DR.callI {P : Program} {F : Fr0} {N : Nat} {ops : Array Oper} {chk : List (Nat × Tch) → Bool} {K : Env → Mem → Prop} {i : Nat} {rs : List (Nat × Oper)} {acc : List (Nat × Tch)} {o : Oper} {env : Env} {mem : Mem} {fx d : Nat} {f : Operand} {xs : List Operand} {ts : Array Nat} {us args fi ca : List V} {mi mo : Mem} {v : V} {Y : Gh → World → Prop} (hc : LI P fx args mi Y fun q m => q = .ret v ∧ m = mo) (hY : ∀ g w, Ev F.gh F.w0 g w → Y (g.only mi) w) (hg : gd ops env o = some true) (hds : o.dst = some d)
    (ho : o.op = .call { callee := .value f, args := xs.toArray, argTypes := ts }) (hf : evo env f = some (.f (.func fx) fi ca)) (hx : evs env xs = some us) (hu : Fits (fi ++ us ++ ca) args) (hr : (V.refs.go mi args && (refsM mi mi && keysOk mi mo)) = true) (ht : tpre (callT mi mo) mem) (hd : Nat.blt d N = true)
    (hK : DR P F N ops chk K rs ((i, callT mi mo) :: acc) ((d, v) :: env) (mo ++ mem)) : DR P F N ops chk K ((i, o) :: rs) acc env mem :=
  DR.stepF hg (DoesF.callI hc hY ho hf hx hu hr) ht (by rw [hds]; exact hd) (by rw [hds, tset_call]; exact hK)
theorem LS.yieldO {P : Program} {F : Fr0} {N : Nat} {Q : LQ} {ops : Array Oper} {rs : List Oper} {o : Oper} {env : Env} {mem : Mem} {y d : Nat} {f : Operand} {xs : List Operand} {ts : Array Nat} {us args : List V} {mi mo : Mem} {v : V} (hc : LY P (F.gh.only mi) F.w0 y args mi fun q m => q = .ret v ∧ m = mo) (hg : gd ops env o = some true) (hds : o.dst = some d)
    (ho : o.op = .call { callee := .value f, args := xs.toArray, argTypes := ts }) (hf : evo env f = some (.y y)) (hx : evs env xs = some us) (hu : Fits us args) (hr : (V.refs.go mi args && (refsM mi mi && keysOk mi mo)) = true) (hy : (aget mi y).isSome = true) (ht : tpre (callT mi mo) mem) (hd : Nat.blt d N = true)
    (hK : LS P F N ops rs Q ((d, v) :: env) (mo ++ mem)) : LS P F N ops (o :: rs) Q env mem :=
  LS.stepF hg (DoesF.yieldO hc ho hf hx hu hr hy) ht (by rw [hds]; exact hd) (by rw [hds, tset_call]; exact hK)
theorem LI.congr {P : Program} {f : Nat} {args : List V} {mi mi' : Mem} {Y Y' : Gh → World → Prop} {R R' : Out → Mem → Prop} (h : LI P f args mi Y R) (he : ∀ i, aget mi i = aget mi' i) (hY : ∀ g w, Y' g w → Y g w) (hR : ∀ o m, R o m → ∃ m', R' o m' ∧ ∀ i, aget m i = aget m' i) : LI P f args mi' Y' R' := by
  have hl : ∀ g w, lentF g mi w = lentF g mi' w := fun g w => by
    unfold lentF
    congr 1
    funext b o
    refine propext ⟨?_, ?_⟩
    · rintro ⟨i, m, hi, hp⟩; exact ⟨i, m, by rw [← he]; exact hi, hp⟩
    · rintro ⟨i, m, hi, hp⟩; exact ⟨i, m, by rw [he]; exact hi, hp⟩
  refine ⟨h.ok, fun g w vals hy hm hlen hr => ?_⟩
  rw [← hl] at hm ⊢
  refine Calls.mono (h.go g w vals (hY g w hy) (hm.congr fun i => (he i).symm) hlen hr) ?_
  rintro e w' ⟨o, mo, g', hRo, h1, h2, h3, h4⟩
  obtain ⟨m', k1, k2⟩ := hR o mo hRo
  exact ⟨o, m', g', k1, h1, h2.congr k2, h3, h4⟩
end Lf
open Go.RowKit Rg Wm Ar
set_option maxRecDepth 100000
namespace Lf
open Tr
abbrev Al := Pa × List UInt8
section
variable {σ : Type}
def runI (go : σ → Al → Bool) (nx : σ → Al → σ) : σ → List Al → σ × Bool
  | s, [] => (s, true)
  | s, x :: l => cond (go s x) (runI go nx (nx s x) l) (nx s x, false)
def okI (ok : σ → Al → Prop) (go : σ → Al → Bool) (nx : σ → Al → σ) : σ → List Al → Prop
  | _, [] => True
  | s, x :: l => ok s x ∧ (go s x = true → okI ok go nx (nx s x) l)
variable {ok : σ → Al → Prop} {go : σ → Al → Bool} {nx : σ → Al → σ}
theorem runI_app : ∀ (a b : List Al) (s : σ), runI go nx s (a ++ b) = cond (runI go nx s a).2 (runI go nx (runI go nx s a).1 b) (runI go nx s a)
  | [], b, s => rfl
  | x :: a, b, s => by
    simp only [List.cons_append, runI]
    cases go s x with
    | true => exact runI_app a b _
    | false => rfl
theorem okI_app : ∀ {a b : List Al} {s : σ}, okI ok go nx s (a ++ b) → okI ok go nx s a ∧ ((runI go nx s a).2 = true → okI ok go nx (runI go nx s a).1 b)
  | [], b, s, h => ⟨trivial, fun _ => h⟩
  | x :: a, b, s, h => by
    obtain ⟨h1, h2⟩ := h
    simp only [runI]
    cases hg : go s x with
    | true =>
      obtain ⟨k1, k2⟩ := okI_app (a := a) (b := b) (h2 hg)
      exact ⟨⟨h1, fun _ => k1⟩, k2⟩
    | false => exact ⟨⟨h1, fun e => by rw [hg] at e; cases e⟩, fun e => by cases e⟩
def ok2 (ok : σ → Al → Prop) : σ × Bool → Al → Prop := fun s x => s.2 = true ∧ ok s.1 x
def go2 (go : σ → Al → Bool) : σ × Bool → Al → Bool := fun s x => go s.1 x
def nx2 (go : σ → Al → Bool) (nx : σ → Al → σ) : σ × Bool → Al → σ × Bool := fun s x => (nx s.1 x, go s.1 x)
theorem run2 : ∀ (l : List Al) (s : σ), runI (go2 go) (nx2 go nx) (s, true) l = (runI go nx s l, (runI go nx s l).2)
  | [], s => rfl
  | x :: l, s => by
    simp only [runI, go2, nx2]
    cases hg : go s x with
    | true => exact run2 l _
    | false => rfl
theorem okI2 : ∀ {l : List Al} {s : σ}, okI ok go nx s l → okI (ok2 ok) (go2 go) (nx2 go nx) (s, true) l
  | [], _, _ => trivial
  | x :: l, s, h => ⟨⟨rfl, h.1⟩, fun hg => by
    have hg' : go s x = true := hg
    have := okI2 (h.2 hg')
    simp only [nx2, hg']
    exact this⟩
end
theorem nd_ren (ρ : Nat → Nat) : ∀ n : Nd, (ndV n).ren ρ = ndV n
  | .no => by rw [ndV_no]; rfl
  | .leaf p v => by rw [ndV_leaf]; rfl
  | .road p k => by rw [ndV_road]; simp only [V.ren, V.ren.go, nd_ren ρ k]
  | .fork ks v => by
    rw [ndV_fork, fk_list]
    simp only [V.ren, V.ren.go, nd_ren ρ (ks 0), nd_ren ρ (ks 1), nd_ren ρ (ks 2), nd_ren ρ (ks 3), nd_ren ρ (ks 4), nd_ren ρ (ks 5), nd_ren ρ (ks 6), nd_ren ρ (ks 7), nd_ren ρ (ks 8), nd_ren ρ (ks 9), nd_ren ρ (ks 10), nd_ren ρ (ks 11), nd_ren ρ (ks 12), nd_ren ρ (ks 13), nd_ren ρ (ks 14), nd_ren ρ (ks 15)]
def YsA {σ : Type} (U : σ → Mem) (ok : σ → Al → Prop) (go : σ → Al → Bool) (nx : σ → Al → σ) (y : Nat) (g : Gh) (w : World) : Prop :=
  ∀ s x, ok s x → LY Try.prog (g.only (U s)) w y [bV (pB x.1), bV x.2] (U s) fun q m => q = .ret (.k (.bool (go s x))) ∧ m = U (nx s x)
def bxA (kn kp : Nat) (n : Nd) (p : Pa) : Mem := [(kn, .b [ndV n]), (kp, .b [bV (pB p)])]
def AllC (n : Nd) (p : Pa) : Prop := ∀ (σ : Type) (U : σ → Mem) (ok : σ → Al → Prop) (go : σ → Al → Bool) (nx : σ → Al → σ) (s0 : σ) (y kn kp : Nat), Ms U → (aget (U s0) y).isSome = true → aget (U s0) kn = none → aget (U s0) kp = none → kn ≠ kp → 1000 ≤ kn → 1000 ≤ kp → okI ok go nx s0 (pairs n p) →
  LI Try.prog 98 [.y y, .p kn 0, .p kp 0] (bxA kn kp n p ++ U s0) (YsA U ok go nx y) fun q m => q = .ret (.t []) ∧ m = bxA kn kp n p ++ U (runI go nx s0 (pairs n p)).1
def AllT (n : Nd) (p : Pa) : Prop := ∀ (σ : Type) (U : σ → Mem) (ok : σ → Al → Prop) (go : σ → Al → Bool) (nx : σ → Al → σ) (s0 : σ), Ms U → (aget (U s0) 1999).isSome = true → (∀ i ∈ [1001, 1002, 1003, 1998, 1011, 1012], aget (U s0) i = none) → okI ok go nx s0 (pairs n p) →
  LI Try.prog 98 [.y 1999, .p 1001 0, .p 1002 0] (bxA 1001 1002 n p ++ U s0) (YsA U ok go nx 1999) fun q m => q = .ret (.t []) ∧ m = bxA 1001 1002 n p ++ U (runI go nx s0 (pairs n p)).1
theorem fresh4 (L : List Nat) : ∃ a b c d, 1000 ≤ a ∧ a < b ∧ b < c ∧ c < d ∧ ∀ x ∈ L, x < a := by
  have key : ∀ L : List Nat, ∃ m, ∀ x ∈ L, x < m := by
    intro L
    induction L with
    | nil => exact ⟨0, fun x hx => by cases hx⟩
    | cons a r ih =>
      obtain ⟨m, hm⟩ := ih
      refine ⟨max m (a + 1), fun x hx => ?_⟩
      rcases List.mem_cons.1 hx with rfl | hx
      · omega
      · have := hm x hx; omega
  obtain ⟨m, hm⟩ := key L
  exact ⟨m + 1000, m + 1001, m + 1002, m + 1003, by omega, by omega, by omega, by omega, fun x hx => by have := hm x hx; omega⟩
theorem exists_pmf : ∀ (ks is : List Nat), ks.Nodup → is.Nodup → ks.length = is.length → ∃ ρ : Pm, ks.map ρ.f = is ∧ ∀ i, i ∉ ks → i ∉ is → ρ.f i = i
  | [], [], _, _, _ => ⟨⟨id, id, fun _ => rfl, fun _ => rfl⟩, rfl, fun _ _ _ => rfl⟩
  | [], _ :: _, _, _, h => by simp at h
  | _ :: _, [], _, _, h => by simp at h
  | k :: ks, i :: is, hk, hi, h => by
    obtain ⟨ρ, hρ, hfix⟩ := exists_pmf ks is (List.nodup_cons.1 hk).2 (List.nodup_cons.1 hi).2 (by simpa using h)
    refine ⟨(Pm.swap (ρ.f k) i).comp ρ, ?_, fun j hj1 hj2 => ?_⟩
    · rw [List.map_cons]
      congr 1
      · simp [Pm.comp, Pm.swap, swapF]
      · rw [← hρ]
        refine List.map_congr_left fun j hj => ?_
        have h1 : ρ.f j ≠ ρ.f k := fun e => (List.nodup_cons.1 hk).1 (ρ.inj e ▸ hj)
        have h2 : ρ.f j ≠ i := fun e => (List.nodup_cons.1 hi).1 (by rw [← e, ← hρ]; exact List.mem_map_of_mem hj)
        simp [Pm.comp, Pm.swap, swapF, h1, h2]
    · have e := hfix j (fun h => hj1 (by simp [h])) (fun h => hj2 (by simp [h]))
      have h1 : ρ.f j ≠ ρ.f k := fun e2 => hj1 (by rw [ρ.inj e2]; simp)
      have h2 : ρ.f j ≠ i := fun e2 => hj2 (by rw [← e2, e]; simp)
      show swapF (ρ.f k) i (ρ.f j) = j
      unfold swapF
      rw [if_neg h1, if_neg h2, e]
theorem isSome_ren (ρ : Pm) (m : Mem) (i : Nat) : (aget (Mem.ren ρ.f m) (ρ.f i)).isSome = (aget m i).isSome := by rw [aget_ren]; cases aget m i <;> rfl
theorem refs_ren (ρ : Pm) (m : Mem) (v : V) : (v.ren ρ.f).refs (Mem.ren ρ.f m) = v.refs m :=
  V.rec (motive_1 := fun v => (v.ren ρ.f).refs (Mem.ren ρ.f m) = v.refs m) (motive_2 := fun l => V.refs.go (Mem.ren ρ.f m) (V.ren.go ρ.f l) = V.refs.go m l)
    (fun _ => rfl) (fun _ ih => ih) (fun _ ih => ih) (fun o _ _ => match o with
      | none => rfl
      | some r => isSome_ren ρ m r) rfl (fun b _ => isSome_ren ρ m b) (fun b _ _ _ => isSome_ren ρ m b) (fun _ _ => rfl)
    (fun _ _ _ h1 h2 => by simp only [V.ren, V.refs, h1, h2]) (fun _ _ ih => ih) (fun b _ _ _ _ => isSome_ren ρ m b) (fun b _ _ => isSome_ren ρ m b) (fun b => isSome_ren ρ m b) (fun b => isSome_ren ρ m b)
    rfl (fun _ _ h1 h2 => by simp only [V.ren.go, V.refs.go, h1, h2]) v
theorem refs_go_ren (ρ : Pm) (m : Mem) : ∀ l : List V, V.refs.go (Mem.ren ρ.f m) (l.map (V.ren ρ.f)) = V.refs.go m l
  | [] => rfl
  | v :: r => by rw [List.map_cons, V.refs.go, V.refs.go, refs_ren, refs_go_ren ρ m r]
theorem refsM_ren (ρ : Pm) (m : Mem) : ∀ l : Mem, refsM (Mem.ren ρ.f m) (Mem.ren ρ.f l) = refsM m l
  | [] => rfl
  | (i, .b cs) :: r => by
    show (V.refs.go (Mem.ren ρ.f m) (cs.map (V.ren ρ.f)) && refsM (Mem.ren ρ.f m) (Mem.ren ρ.f r)) = _
    rw [refs_go_ren, refsM_ren ρ m r]; rfl
  | (i, .r ..) :: r => refsM_ren ρ m r
  | (i, .w ..) :: r => refsM_ren ρ m r
  | (i, .m _) :: r => refsM_ren ρ m r
  | (i, .o _) :: r => refsM_ren ρ m r
  | (i, .x) :: r => refsM_ren ρ m r
theorem only_pull (ρ : Pm) (g : Gh) (T : Mem) : (g.only T).pull ρ.f = (g.pull ρ.f).only (Mem.ren ρ.inv.f T) := by
  have e : ∀ i, (aget (Mem.ren ρ.inv.f T) i).isSome = (aget T (ρ.f i)).isSome := fun i => by
    have := isSome_ren ρ.inv T (ρ.f i)
    rw [show ρ.inv.f (ρ.f i) = i from ρ.gf i] at this
    exact this
  unfold Gh.only Gh.pull
  simp only [e]
theorem ren_keys (ρ : Nat → Nat) (m : Mem) : (Mem.ren ρ m).map (·.1) = (m.map (·.1)).map ρ := by
  unfold Mem.ren
  rw [List.map_map, List.map_map]
  rfl
theorem Ms.ren {σ : Type} {U : σ → Mem} (hU : Ms U) (ρ : Pm) (hb : ∀ i, 1000 ≤ i → 1000 ≤ ρ.f i) : Ms fun s => Mem.ren ρ.f (U s) := by
  refine ⟨fun s s' => by rw [ren_keys, ren_keys, hU.keys s s'], fun s => ?_, fun s => ?_, fun s => by rw [refsM_ren]; exact hU.refs s⟩
  · rw [ren_keys]
    exact List.Pairwise.map _ (fun a b h e => h (ρ.inj e)) (hU.nd s)
  · rw [List.all_eq_true]
    intro x hx
    obtain ⟨y, hy, rfl⟩ := List.mem_map.1 hx
    have := Nat.le_of_ble_eq_true (List.all_eq_true.1 (hU.big s) y hy)
    exact Nat.ble_eq_true_of_le (hb _ this)
theorem AllT.gen {n : Nd} {p : Pa} (h : AllT n p) : AllC n p := by
  intro σ U ok go nx s0 y kn kp hU hy hn hp hne h1 h2 hok
  obtain ⟨a, b, c, d, q1, q2, q3, q4, q5⟩ := fresh4 ([y, kn, kp] ++ (U s0).map (·.1))
  have qy := q5 y (by simp)
  have qn := q5 kn (by simp)
  have qp := q5 kp (by simp)
  have qU : ∀ j, a ≤ j → aget (U s0) j = none := fun j hj => by
    cases hg : aget (U s0) j with
    | none => rfl
    | some m =>
      have := q5 j (List.mem_append_right _ (aget_mem_keys.1 (by rw [hg]; rfl)))
      omega
  have hyn : y ≠ kn := fun e => by rw [e, hn] at hy; cases hy
  have hyp : y ≠ kp := fun e => by rw [e, hp] at hy; cases hy
  have hy1 : 1000 ≤ y := by
    rcases Nat.lt_or_ge y 1000 with h | h
    · have := hU.small (s := s0) (i := y) (Nat.ble_eq_true_of_le h)
      rw [this] at hy; cases hy
    · exact h
  obtain ⟨ρ, hρ, hfix⟩ := exists_pmf [1999, 1001, 1002, 1003, 1998, 1011, 1012] [y, kn, kp, a, b, c, d] (by decide) (by simp; omega) rfl
  simp only [List.map_cons, List.map_nil, List.cons.injEq, and_true] at hρ
  obtain ⟨r1, r2, r3, r4, r5, r6, r7⟩ := hρ
  have hbig : ∀ i, 1000 ≤ i → 1000 ≤ ρ.inv.f i := fun i hi => by
    rcases Nat.lt_or_ge (ρ.inv.f i) 1000 with hlt | hge
    · exfalso
      have e : ρ.f (ρ.inv.f i) = ρ.inv.f i := hfix _ (by simp; omega) (by simp; omega)
      have e2 : ρ.f (ρ.inv.f i) = i := ρ.fg i
      omega
    · exact hge
  have inv : ∀ {i j}, ρ.f i = j → ρ.inv.f j = i := fun {i j} e => by rw [← e]; exact ρ.gf i
  have hav : ∀ i, aget (U s0) (ρ.f i) = none → aget (Mem.ren ρ.inv.f (U s0)) i = none := fun i hi => by
    have := aget_ren ρ.inv (U s0) (ρ.f i)
    rw [show ρ.inv.f (ρ.f i) = i from ρ.gf i, hi] at this
    exact this
  have h3 := h σ (fun s => Mem.ren ρ.inv.f (U s)) ok go nx s0 (hU.ren ρ.inv hbig) (by
    have := isSome_ren ρ.inv (U s0) y
    rw [inv r1] at this
    show (aget (Mem.ren ρ.inv.f (U s0)) 1999).isSome = true
    rw [this]; exact hy) (by
    intro i hi
    refine hav i ?_
    simp only [List.mem_cons, List.not_mem_nil, or_false] at hi
    rcases hi with rfl | rfl | rfl | rfl | rfl | rfl
    · rw [r2]; exact hn
    · rw [r3]; exact hp
    · rw [r4]; exact qU _ (by omega)
    · rw [r5]; exact qU _ (by omega)
    · rw [r6]; exact qU _ (by omega)
    · rw [r7]; exact qU _ (by omega)) hok
  have e1 : ∀ s, Mem.ren ρ.f (bxA 1001 1002 n p ++ Mem.ren ρ.inv.f (U s)) = bxA kn kp n p ++ U s := fun s => by
    have e0 : Mem.ren ρ.f (Mem.ren ρ.inv.f (U s)) = U s := memren_inv ρ.inv (U s)
    have : Mem.ren ρ.f (bxA 1001 1002 n p ++ Mem.ren ρ.inv.f (U s)) = Mem.ren ρ.f (bxA 1001 1002 n p) ++ Mem.ren ρ.f (Mem.ren ρ.inv.f (U s)) := List.map_append
    rw [this, e0]
    simp only [bxA, Mem.ren, List.map_cons, List.map_nil, M.ren, nd_ren, r2, r3]
    rfl
  have h4 := h3.ren ρ
  have e2 : [V.y 1999, V.p 1001 0, V.p 1002 0].map (V.ren ρ.f) = [.y y, .p kn 0, .p kp 0] := by
    simp only [List.map_cons, List.map_nil, V.ren, r1, r2, r3]
  rw [e1 s0, e2] at h4
  refine h4.congr (fun _ => rfl) (fun g w hY s x hx => ?_) fun o m hm => ?_
  · have h5 := (hY s x hx).ren ρ.inv
    have e3 : (g.only (U s)).pull ρ.inv.g = (g.pull ρ.f).only (Mem.ren ρ.inv.f (U s)) := only_pull ρ g (U s)
    rw [e3, inv r1] at h5
    refine h5.mono ?_
    rintro o m ⟨o', m', ⟨rfl, rfl⟩, rfl, rfl⟩
    exact ⟨rfl, rfl⟩
  · obtain ⟨o', m', ⟨rfl, rfl⟩, rfl, rfl⟩ := hm
    exact ⟨_, ⟨rfl, rfl⟩, fun i => by rw [e1]⟩
end Lf
open Go.RowKit Rg Wm Ar
set_option linter.unusedVariables false
set_option maxRecDepth 100000
namespace Lf
open Tr
inductive Tail (T : Mem) : Mem → Prop
  | nil : Tail T T
  | cons {i : Nat} {z : M} {m : Mem} (hi : aget T i = none) (h : Tail T m) : Tail T ((i, z) :: m)
theorem Tail.app {T m : Mem} (h : Tail T m) : ∃ A, m = A ++ T ∧ ∀ x ∈ A, aget T x.1 = none := by
  induction h with
  | nil => exact ⟨[], rfl, fun x hx => by cases hx⟩
  | @cons i z m hi _ ih =>
    obtain ⟨A, rfl, hA⟩ := ih
    refine ⟨(i, z) :: A, rfl, fun y hy => ?_⟩
    rcases List.mem_cons.1 hy with rfl | hy
    · exact hi
    · exact hA y hy
section
variable {σ : Type} {U : σ → Mem} (hU : Ms U)
include hU
theorem tpre_tail {s0 s1 : σ} {mem : Mem} (h : Tail (U s0) mem) : tpre (callT (U s0) (U s1)) mem := by
  obtain ⟨A, rfl, hA⟩ := h.app
  exact tpre_yield hU hA
theorem tpre_tailB {s0 s1 : σ} {mem B : Mem} (h : Tail (U s0) mem) (hB : ∀ x ∈ B, aget mem x.1 = some x.2 ∧ aget (U s0) x.1 = none) : tpre (callT (B ++ U s0) (B ++ U s1)) mem := by
  obtain ⟨A, rfl, hA⟩ := h.app
  refine tpre_yieldB hU hA fun x hx => ?_
  obtain ⟨h1, h2⟩ := hB x hx
  rw [aget_append, h2] at h1
  simpa using h1
end
theorem bxA_refs (kn kp : Nat) (n : Nd) (p : Pa) (m : Mem) : refsM m (bxA kn kp n p) = true := by
  simp only [bxA, refsM, V.refs.go, nd_refs, Bool.and_self, Bool.true_and]
  rfl
theorem keysOk_tail {σ : Type} {U : σ → Mem} (hU : Ms U) (A B : Mem) (s s' : σ) (h : A.map (·.1) = B.map (·.1)) : keysOk (A ++ U s) (B ++ U s') = true := by
  unfold keysOk
  rw [List.all_eq_true]
  intro x hx
  rcases List.mem_append.1 hx with hx | hx
  · exact some_app_l _ (aget_mem_keys.2 (by rw [← h]; exact List.mem_map_of_mem hx))
  · exact some_app_r _ (hU.some_ (s := s) (aget_mem_keys.2 (List.mem_map_of_mem hx)))
theorem big_tail {σ : Type} {U : σ → Mem} (hU : Ms U) (A : Mem) (s : σ) (h : (A.all fun x => Nat.ble 1000 x.1) = true) : ((A ++ U s).all fun x => Nat.ble 1000 x.1) = true := by
  rw [List.all_append, h, hU.big s]; rfl
theorem all_end {σ : Type} {U : σ → Mem} (hU : Ms U) {n : Nd} {p : Pa} {s : σ} {X : TOk Try.prog} {env : Env} {mem : Mem} (h1 : aget mem 1001 = some (.b [ndV n])) (h2 : aget mem 1002 = some (.b [bV (pB p)])) (h3 : SubM mem (U s)) : LFin X [] (fun q m => q = .ret (.t []) ∧ m = bxA 1001 1002 n p ++ U s) env mem :=
  LFin.memV (u := .t []) rfl ⟨h1, h2, h3⟩ (by
    rw [show V.refs (bxA 1001 1002 n p ++ U s) (.t []) = true from rfl, Bool.true_and]
    exact refsM_tail hU _ s (bxA_refs _ _ _ _ _)) rfl
theorem Tail.sub {σ : Type} {U : σ → Mem} (hU : Ms U) {s : σ} {mem : Mem} (h : Tail (U s) mem) : SubM mem (U s) := by
  induction h with
  | nil => have := hU.sub s []; rwa [List.append_nil] at this
  | cons hi _ ih => exact SubM.skip ih hi
namespace Te
theorem all_0 (n : Nd) (p : Pa) : LM Try.prog 66 [ndV n, bV (pB p)] [] fun o m => o = .ret (.f (.func 98) [] [.p 2 0, .p 3 0]) ∧ m = [(2, .b [ndV n]), (3, .b [bV (pB p)])] := by
  have hrf := tr_refs
  cases n with
  | no =>
    rw [ndV_no]
    refine LM.enter tt Try.func66 rfl rfl rfl (by kernel_rfl) rfl rfl rfl (fun o mo h => by rw [h.2]; rfl) fun F _ => ?_
    exact wk trueW trueW trueW
  | leaf q v =>
    rw [ndV_leaf]
    refine LM.enter tt Try.func66 rfl rfl rfl (by kernel_rfl) rfl rfl rfl (fun o mo h => by rw [h.2]; rfl) fun F _ => ?_
    exact wk trueW trueW trueW
  | road q k =>
    rw [ndV_road]
    refine LM.enter tt Try.func66 rfl rfl rfl (by kernel_rfl) rfl rfl rfl (fun o mo h => by rw [h.2]; rfl) fun F _ => ?_
    exact wk trueW trueW trueW
  | fork ks v =>
    rw [ndV_fork]
    refine LM.enter tt Try.func66 rfl rfl rfl (by kernel_rfl) rfl rfl rfl (fun o mo h => by rw [h.2]; rfl) fun F _ => ?_
    exact wk trueW trueW trueW
theorem all_ (n : Nd) (p : Pa) : LM Try.prog 66 [ndV n, bV (pB p)] [] fun o m => o = .ret (.f (.func 98) [] [.p 1011 0, .p 1012 0]) ∧ m = bxA 1011 1012 n p :=
  LM.gen [2, 3] [1011, 1012] (by decide) (by decide) rfl (all_0 n p) fun ρ hρ => by
    simp only [List.map_cons, List.map_nil, List.cons.injEq, and_true] at hρ
    refine ⟨?_, rfl, ?_, ?_⟩
    · simp only [List.map_cons, List.map_nil, nd_ren]; rfl
    · simp only [Out.ren, V.ren, V.ren.go, hρ.1, hρ.2]
    · simp only [Mem.ren, List.map_cons, List.map_nil, M.ren, nd_ren, hρ.1, hρ.2]; rfl
set_option maxHeartbeats 4000000 in
theorem allT_no (p : Pa) : AllT .no p := by
  intro σ U ok go nx s0 hU hy hav hok
  have hnt : ∀ i, Nat.blt i 1000 = true → aget (U s0) i = none := fun i h => hU.small h
  refine LI.enterR tt Try.func98 rfl rfl rfl (by kernel_rfl) rfl rfl (big_tail hU _ s0 rfl) (fun o mo h => by rw [h.2]; exact keysOk_tail hU _ _ _ _ rfl) fun F hD hro hlm hY hkF => ?_
  refine LC.seq (LC.region (LS.step rfl (Does.box (i := 1003) rfl rfl rfl) (tpre_one (hav 1003 (by decide))) rfl (LS.nil ?_)))
  show LC _ _ _ _ _ _ ((1003, .b [.y 1999]) :: (1001, .b [ndV .no]) :: (1002, .b [bV (pB p)]) :: U s0)
  rw [ndV_no]
  refine wk ?_ trueW trueW
  refine all_end hU (s := s0) ?_ rfl ?_
  · rw [ndV_no]; rfl
  · repeat (first | exact Tail.sub hU .nil | refine SubM.skip ?_ (by first | exact hnt _ rfl | exact hav _ (by decide)))
set_option maxHeartbeats 4000000 in
theorem allT_leaf (p q : Pa) (v : List UInt8) (hl : p.length + q.length < 1000000000) : AllT (.leaf q v) p := by
  intro σ U ok go nx s0 hU hy hav hok
  have hnt : ∀ i, Nat.blt i 1000 = true → aget (U s0) i = none := fun i h => hU.small h
  have c1 := join_ (pB p) (pB q) (by rw [pB_len, pB_len]; exact hl)
  obtain ⟨hx, _⟩ := hok
  refine LI.enterR tt Try.func98 rfl rfl rfl (by kernel_rfl) rfl rfl (big_tail hU _ s0 rfl) (fun o mo h => by rw [h.2]; exact keysOk_tail hU _ _ _ _ rfl) fun F hD hro hlm hY hkF => ?_
  refine LC.seq (LC.region (LS.step rfl (Does.box (i := 1003) rfl rfl rfl) (tpre_one (hav 1003 (by decide))) rfl (LS.nil ?_)))
  show LC _ _ _ _ _ _ ((1003, .b [.y 1999]) :: (1001, .b [ndV (.leaf q v)]) :: (1002, .b [bV (pB p)]) :: U s0)
  have hYx := hY s0 _ hx
  simp only [pB_app] at hYx
  have hr : runI go nx s0 (pairs (.leaf q v) p) = (nx s0 (p ++ q, v), go s0 (p ++ q, v)) := by
    simp only [pairs, runI]
    cases go s0 (p ++ q, v) <;> rfl
  rw [hr]
  rw [ndV_leaf]
  refine wk ?_ trueW trueW
  refine DR.yieldO (mi := U s0) (mo := U (nx s0 (p ++ q, v))) hYx rfl rfl rfl rfl rfl (ft1 rfl) (by rw [hU.refs, hU.keysOk]; rfl) hy (tpre_tail hU (by repeat (first | exact Tail.nil | refine Tail.cons (by first | exact hnt _ rfl | exact hav _ (by decide)) ?_))) rfl ?_
  refine DR.nlS (by kernel_rfl) ?_
  refine all_end hU ?_ ?_ (hU.sub _ _)
  · rw [aget_yield hU (hav 1001 (by decide)), ndV_leaf]; rfl
  · rw [aget_yield hU (hav 1002 (by decide))]; rfl
set_option maxHeartbeats 4000000 in
theorem allT_road (p q : Pa) (k : Nd) (hl : p.length + q.length < 1000000000) (ih : AllC k (p ++ q)) : AllT (.road q k) p := by
  intro σ U ok go nx s0 hU hy hav hok
  have hnt : ∀ i, Nat.blt i 1000 = true → aget (U s0) i = none := fun i h => hU.small h
  have c1 := join_ (pB p) (pB q) (by rw [pB_len, pB_len]; exact hl)
  have hi := ih σ U ok go nx s0 1999 1011 1012 hU hy (hav 1011 (by decide)) (hav 1012 (by decide)) (by decide) (by decide) (by decide) hok
  have c2 := all_ k (p ++ q)
  rw [pB_app] at c2
  unfold bxA at c2
  rw [pB_app] at c2
  have hrf := tr_refs
  have hcv := tr_cv
  refine LI.enterR tt Try.func98 rfl rfl rfl (by kernel_rfl) rfl rfl (big_tail hU _ s0 rfl) (fun o mo h => by rw [h.2]; exact keysOk_tail hU _ _ _ _ rfl) fun F hD hro hlm hY hkF => ?_
  refine LC.seq (LC.region (LS.step rfl (Does.box (i := 1003) rfl rfl rfl) (tpre_one (hav 1003 (by decide))) rfl (LS.nil ?_)))
  show LC _ _ _ _ _ _ ((1003, .b [.y 1999]) :: (1001, .b [ndV (.road q k)]) :: (1002, .b [bV (pB p)]) :: U s0)
  rw [show pairs (.road q k) p = pairs k (p ++ q) from rfl]
  rw [ndV_road]
  refine wk ?_ trueW trueW
  refine DR.cm rfl rfl (Does.callM c2 rfl rfl (ft1 (by simp only [V.cv, V.cv.go, cond_false, hcv])) (by simp only [V.refs.go, nd_refs]; rfl)) ⟨hav 1011 (by decide), hav 1012 (by decide), trivial⟩ rfl ?_
  refine wk ?_ trueW trueW
  refine DR.callI (mi := bxA 1011 1012 k (p ++ q) ++ U s0) (mo := bxA 1011 1012 k (p ++ q) ++ U (runI go nx s0 (pairs k (p ++ q))).1) hi (fun g w he s x hx => ?_) rfl rfl rfl rfl rfl (.same _) ?_ (tpre_tailB hU (by repeat (first | exact Tail.nil | refine Tail.cons (by first | exact hnt _ rfl | exact hav _ (by decide)) ?_)) ?_) rfl ?_
  · rw [only_only (A := bxA 1011 1012 k (p ++ q) ++ U s0) (T := U s) fun i hi => some_app_r _ (hU.some_ hi)]
    exact (hY s x hx).later (he.only _)
  · have e1 : V.refs (bxA 1011 1012 k (p ++ q) ++ U s0) (.y 1999) = true := some_app_r (A := bxA 1011 1012 k (p ++ q)) _ hy
    simp only [V.refs.go, e1, Bool.true_and, Bool.and_eq_true]
    exact ⟨⟨rfl, rfl, trivial⟩, refsM_tail hU _ s0 (bxA_refs _ _ _ _ _), keysOk_tail hU _ _ _ _ rfl⟩
  · intro x hx
    simp only [bxA, List.mem_cons, List.not_mem_nil, or_false] at hx
    rcases hx with rfl | rfl
    · exact ⟨rfl, hav 1011 (by decide)⟩
    · exact ⟨by rw [pB_app]; rfl, hav 1012 (by decide)⟩
  refine DR.nlS (by kernel_rfl) ?_
  refine all_end hU ?_ ?_ ?_
  · exact (aget_yield hU (hav 1001 (by decide)) _).trans (by rw [ndV_road]; rfl)
  · exact (aget_yield hU (hav 1002 (by decide)) _).trans rfl
  · exact SubM.skip (SubM.skip (hU.sub _ _) (hU.none_ (hav 1012 (by decide)))) (hU.none_ (hav 1011 (by decide)))
end Te
end Lf
end Go.Proofs.Ytkbimhccaacobaa

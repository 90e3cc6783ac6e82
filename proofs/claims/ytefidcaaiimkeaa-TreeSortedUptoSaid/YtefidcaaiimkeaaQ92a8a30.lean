/- A part of the proof: texts joined. -/
import Derived.Test.YtefidcaaiimkeaaQ84fa504
/- Memory whose end is not told: the state of another loop's rounds. -/
namespace Go.Proofs.Ytefidcaaiimkeaa
open Go.RowKit Rg
namespace Lf
/-- A memory of a loop's rounds, told by a state: its numbers are great and stay, each once; it refers to nothing else. -/
structure Ms {σ : Type} (U : σ → Mem) : Prop where
  keys : ∀ s s', (U s).map (·.1) = (U s').map (·.1)
  nd : ∀ s, ((U s).map (·.1)).Nodup
  big : ∀ s, ((U s).all fun x => Nat.ble 1000 x.1) = true
  refs : ∀ s, refsM (U s) (U s) = true
theorem aget_mem_keys : ∀ {l : Mem} {i : Nat}, (aget l i).isSome = true ↔ i ∈ l.map (·.1)
  | [], i => by simp [aget]
  | (n, v) :: r, i => by
    rw [aget_cons, List.map_cons, List.mem_cons]
    by_cases h : n = i
    · subst h; simp
    · rw [if_neg h, aget_mem_keys]
      exact ⟨.inr, fun e => e.resolve_left fun e => h e.symm⟩
section
variable {σ : Type} {U : σ → Mem} (hU : Ms U)
include hU
theorem Ms.some_ {s s' : σ} {i : Nat} (h : (aget (U s) i).isSome = true) : (aget (U s') i).isSome = true := by
  rw [aget_mem_keys] at h ⊢
  rw [hU.keys s' s]; exact h
theorem Ms.none_ {s s' : σ} {i : Nat} (h : aget (U s) i = none) : aget (U s') i = none := by
  cases h' : aget (U s') i with
  | none => rfl
  | some m =>
    have := hU.some_ (s := s') (s' := s) (i := i) (by rw [h']; rfl)
    rw [h] at this; cases this
theorem Ms.small {s : σ} {i : Nat} (h : Nat.blt i 1000 = true) : aget (U s) i = none := by
  cases h' : aget (U s) i with
  | none => rfl
  | some m =>
    have h1 := Nat.le_of_ble_eq_true (List.all_eq_true.1 (hU.big s) _ (aget_mem h'))
    have h2 : i < 1000 := Nat.le_of_ble_eq_true h
    exact absurd h1 (by simp; omega)
theorem Ms.keysOk {s s' : σ} : keysOk (U s) (U s') = true := by
  unfold Lf.keysOk
  rw [List.all_eq_true]
  intro x hx
  exact hU.some_ (s := s) (aget_mem_keys.2 (List.mem_map_of_mem hx))
theorem Ms.only {s s' : σ} (g : Gh) : g.only (U s) = g.only (U s') := by
  unfold Gh.only
  congr 1
  · funext i
    by_cases h : (aget (U s) i).isSome = true
    · rw [if_pos h, if_pos (hU.some_ h)]
    · rw [if_neg h, if_neg fun e => h (hU.some_ e)]
  · funext i
    by_cases h : (aget (U s) i).isSome = true
    · rw [if_pos h, if_pos (hU.some_ h)]
    · rw [if_neg h, if_neg fun e => h (hU.some_ e)]
end
/-! ### Parts of memories -/
theorem refs_mono {m m' : Mem} (h : ∀ i, (aget m i).isSome = true → (aget m' i).isSome = true) (v : V) : v.refs m = true → v.refs m' = true :=
  V.rec (motive_1 := fun v => v.refs m = true → v.refs m' = true) (motive_2 := fun l => V.refs.go m l = true → V.refs.go m' l = true)
    (fun _ _ => rfl) (fun _ ih => ih) (fun _ ih => ih) (fun o _ _ => match o with
      | none => fun _ => rfl
      | some r => h r) (fun _ => rfl) (fun b _ => h b) (fun b _ _ _ => h b) (fun _ _ _ => rfl)
    (fun _ _ _ h1 h2 hh => by simp only [V.refs, Bool.and_eq_true] at hh ⊢; exact ⟨h1 hh.1, h2 hh.2⟩) (fun _ _ ih => ih) (fun b _ _ _ _ => h b) (fun b _ _ => h b) (fun b => h b) (fun b => h b)
    (fun _ => rfl) (fun _ _ h1 h2 hh => by simp only [V.refs.go, Bool.and_eq_true] at hh ⊢; exact ⟨h1 hh.1, h2 hh.2⟩) v
theorem refs_go_mono {m m' : Mem} (h : ∀ i, (aget m i).isSome = true → (aget m' i).isSome = true) : ∀ {l : List V}, V.refs.go m l = true → V.refs.go m' l = true
  | [], _ => rfl
  | v :: r, hl => by
    simp only [V.refs.go, Bool.and_eq_true] at hl ⊢
    exact ⟨refs_mono h v hl.1, refs_go_mono h hl.2⟩
theorem refsM_mono {m m' : Mem} (h : ∀ i, (aget m i).isSome = true → (aget m' i).isSome = true) : ∀ {l : Mem}, refsM m l = true → refsM m' l = true
  | [], _ => rfl
  | (i, .b cs) :: r, hl => by
    simp only [refsM, Bool.and_eq_true] at hl ⊢
    exact ⟨refs_go_mono h hl.1, refsM_mono h hl.2⟩
  | (i, .r ..) :: r, hl => refsM_mono (l := r) h hl
  | (i, .w ..) :: r, hl => refsM_mono (l := r) h hl
  | (i, .m _) :: r, hl => refsM_mono (l := r) h hl
  | (i, .o _) :: r, hl => refsM_mono (l := r) h hl
  | (i, .x) :: r, hl => refsM_mono (l := r) h hl
theorem some_app_r {A T : Mem} (i : Nat) (h : (aget T i).isSome = true) : (aget (A ++ T) i).isSome = true := by
  rw [aget_append]
  cases aget A i with
  | some _ => rfl
  | none => simpa using h
theorem some_app_l {A T : Mem} (i : Nat) (h : (aget A i).isSome = true) : (aget (A ++ T) i).isSome = true := by
  rw [aget_append]
  cases h' : aget A i with
  | some _ => rfl
  | none => rw [h'] at h; cases h
theorem refsM_app {m : Mem} : ∀ {A B : Mem}, refsM m A = true → refsM m B = true → refsM m (A ++ B) = true
  | [], _, _, hb => hb
  | (i, .b cs) :: r, B, ha, hb => by
    simp only [List.cons_append, refsM, Bool.and_eq_true] at ha ⊢
    exact ⟨ha.1, refsM_app ha.2 hb⟩
  | (i, .r ..) :: r, _, ha, hb => refsM_app (A := r) ha hb
  | (i, .w ..) :: r, _, ha, hb => refsM_app (A := r) ha hb
  | (i, .m _) :: r, _, ha, hb => refsM_app (A := r) ha hb
  | (i, .o _) :: r, _, ha, hb => refsM_app (A := r) ha hb
  | (i, .x) :: r, _, ha, hb => refsM_app (A := r) ha hb
theorem refsM_tail {σ : Type} {U : σ → Mem} (hU : Ms U) (A : Mem) (s : σ) (h : refsM (A ++ U s) A = true) : refsM (A ++ U s) (A ++ U s) = true :=
  refsM_app h (refsM_mono some_app_r (hU.refs s))
theorem SubM.of {m : Mem} : ∀ {m' : Mem}, (∀ i z, aget m' i = some z → aget m i = some z) → (m'.map (·.1)).Nodup → SubM m m'
  | [], _, _ => trivial
  | (i, z) :: r, h, hn => by
    rw [List.map_cons, List.nodup_cons] at hn
    refine ⟨h i z (aget_self ..), SubM.of (fun j y hj => h j y ?_) hn.2⟩
    rw [aget_ne fun e => hn.1 (by rw [e]; exact aget_mem_keys.1 (by rw [hj]; rfl))]
    exact hj
theorem SubM.skip {m T : Mem} {i : Nat} {z : M} (h : SubM m T) (hi : aget T i = none) : SubM ((i, z) :: m) T := by
  induction T with
  | nil => trivial
  | cons y r ih =>
    obtain ⟨j, z⟩ := y
    rw [aget_cons] at hi
    split at hi
    · cases hi
    · rename_i e
      exact ⟨by rw [aget_ne (Ne.symm e)]; exact h.1, ih h.2 hi⟩
theorem SubM.skipL {m T : Mem} : ∀ {A : Mem}, SubM m T → (∀ x ∈ A, aget T x.1 = none) → SubM (A ++ m) T
  | [], h, _ => h
  | (_i, _x) :: _r, h, hA => SubM.skip (SubM.skipL h fun y hy => hA y (List.mem_cons_of_mem _ hy)) (hA _ List.mem_cons_self)
theorem Ms.sub {σ : Type} {U : σ → Mem} (hU : Ms U) (s : σ) (X : Mem) : SubM (U s ++ X) (U s) :=
  SubM.of (fun i z h => by rw [aget_append, h]; rfl) (hU.nd s)
/-- Behind a yield: what the call itself has is where it was. -/
theorem aget_yield {σ : Type} {U : σ → Mem} (hU : Ms U) {s s0 : σ} {i : Nat} (h : aget (U s0) i = none) (X : Mem) : aget (U s ++ X) i = aget X i := by
  rw [aget_append, hU.none_ (s := s0) h]; rfl
/-- What a yield meets. -/
theorem tpre_yield {σ : Type} {U : σ → Mem} (hU : Ms U) {s0 s1 : σ} {A : Mem} (hA : ∀ x ∈ A, aget (U s0) x.1 = none) : tpre (callT (U s0) (U s1)) (A ++ U s0) := by
  intro i m m' hi
  unfold callT at hi
  obtain ⟨⟨j, z0⟩, hx, e⟩ := List.mem_map.1 hi
  cases e
  show aget (A ++ U s0) j = aget (U s0) j
  rw [aget_append]
  cases h : aget A j with
  | none => rfl
  | some z =>
    have h1 := hA _ (aget_mem h)
    have h2 := hU.some_ (s := s1) (s' := s0) (aget_mem_keys.2 (List.mem_map_of_mem hx))
    rw [h1] at h2; cases h2
theorem tpre_yieldB {σ : Type} {U : σ → Mem} (hU : Ms U) {s0 s1 : σ} {A B : Mem} (hA : ∀ x ∈ A, aget (U s0) x.1 = none) (hB : ∀ x ∈ B, aget A x.1 = some x.2) : tpre (callT (B ++ U s0) (B ++ U s1)) (A ++ U s0) := by
  intro i m m' hi
  unfold callT at hi
  obtain ⟨⟨j, z0⟩, hx, e⟩ := List.mem_map.1 hi
  cases e
  show aget (A ++ U s0) j = aget (B ++ U s0) j
  rcases List.mem_append.1 hx with hx | hx
  · have h1 : aget A j = some z0 := hB _ hx
    have h2 : aget B j = some z0 := by
      cases h : aget B j with
      | some z =>
        have h3 : aget A j = some z := hB _ (aget_mem h)
        rw [h1] at h3; rw [h3]
      | none =>
        have := aget_mem_keys.2 (List.mem_map_of_mem (f := (·.1)) hx)
        rw [show ((j, z0) : Nat × M).1 = j from rfl, h] at this; cases this
    rw [aget_append, aget_append, h1, h2]
  · have h2 := hU.some_ (s := s1) (s' := s0) (aget_mem_keys.2 (List.mem_map_of_mem hx))
    have h3 : aget A j = none := by
      cases h : aget A j with
      | none => rfl
      | some z => have h1 := hA _ (aget_mem h); rw [h1] at h2; cases h2
    have h4 : aget B j = none := by
      cases h : aget B j with
      | none => rfl
      | some z => have h1 := hB _ (aget_mem h); rw [h3] at h1; cases h1
    rw [aget_append, aget_append, h3, h4]
/-! ### The check of a region's touches, with what waits looked at first -/
def chkT2 (W : Array Nat) : List (Nat × Tch) → Bool
  | [] => true
  | x :: r => (r.all fun y => waits W y.1 x.1 || compat x.2 y.2) && chkT2 W r
theorem chkT_swap (W : Array Nat) : ∀ l, chkT W l = chkT2 W l
  | [] => rfl
  | x :: r => by
    unfold chkT chkT2
    rw [chkT_swap W r]
    congr 2
    funext y
    exact Bool.or_comm _ _
theorem DR.nlS {P : Program} {F : Fr0} {N : Nat} {ops : Array Oper} {W : Array Nat} {K : Env → Mem → Prop} {acc : List (Nat × Tch)} {env : Env} {mem : Mem} (hc : chkT2 W acc.reverse = true) (h : K env mem) : DR P F N ops (chkT W) K [] acc env mem :=
  DR.nl (by rw [chkT_swap]; exact hc) h
theorem DR.yieldO {P : Program} {F : Fr0} {N : Nat} {ops : Array Oper} {chk : List (Nat × Tch) → Bool} {K : Env → Mem → Prop} {i : Nat} {rs : List (Nat × Oper)} {acc : List (Nat × Tch)} {o : Oper} {env : Env} {mem : Mem} {y d : Nat} {f : Operand} {xs : List Operand} {ts : Array Nat} {us args : List V} {mi mo : Mem} {v : V} (hc : LY P (F.gh.only mi) F.w0 y args mi fun q m => q = .ret v ∧ m = mo) (hg : gd ops env o = some true) (hds : o.dst = some d)
    (ho : o.op = .call { callee := .value f, args := xs.toArray, argTypes := ts }) (hf : evo env f = some (.y y)) (hx : evs env xs = some us) (hu : Fits us args) (hr : (V.refs.go mi args && (refsM mi mi && keysOk mi mo)) = true) (hy : (aget mi y).isSome = true) (ht : tpre (callT mi mo) mem) (hd : Nat.blt d N = true)
    (hK : DR P F N ops chk K rs ((i, callT mi mo) :: acc) ((d, v) :: env) (mo ++ mem)) : DR P F N ops chk K ((i, o) :: rs) acc env mem :=
  DR.stepF hg (DoesF.yieldO hc ho hf hx hu hr hy) ht (by rw [hds]; exact hd) (by rw [hds, tset_call]; exact hK)
theorem DR.callI {P : Program} {F : Fr0} {N : Nat} {ops : Array Oper} {chk : List (Nat × Tch) → Bool} {K : Env → Mem → Prop} {i : Nat} {rs : List (Nat × Oper)} {acc : List (Nat × Tch)} {o : Oper} {env : Env} {mem : Mem} {fx d : Nat} {f : Operand} {xs : List Operand} {ts : Array Nat} {us args fi ca : List V} {mi mo : Mem} {v : V} {Y : Gh → World → Prop} (hc : LI P fx args mi Y fun q m => q = .ret v ∧ m = mo) (hY : ∀ g w, Ev F.gh F.w0 g w → Y (g.only mi) w) (hg : gd ops env o = some true) (hds : o.dst = some d)
    (ho : o.op = .call { callee := .value f, args := xs.toArray, argTypes := ts }) (hf : evo env f = some (.f (.func fx) fi ca)) (hx : evs env xs = some us) (hu : Fits (fi ++ us ++ ca) args) (hr : (V.refs.go mi args && (refsM mi mi && keysOk mi mo)) = true) (ht : tpre (callT mi mo) mem) (hd : Nat.blt d N = true)
    (hK : DR P F N ops chk K rs ((i, callT mi mo) :: acc) ((d, v) :: env) (mo ++ mem)) : DR P F N ops chk K ((i, o) :: rs) acc env mem :=
  DR.stepF hg (DoesF.callI hc hY ho hf hx hu hr) ht (by rw [hds]; exact hd) (by rw [hds, tset_call]; exact hK)
theorem LS.yieldO {P : Program} {F : Fr0} {N : Nat} {Q : LQ} {ops : Array Oper} {rs : List Oper} {o : Oper} {env : Env} {mem : Mem} {y d : Nat} {f : Operand} {xs : List Operand} {ts : Array Nat} {us args : List V} {mi mo : Mem} {v : V} (hc : LY P (F.gh.only mi) F.w0 y args mi fun q m => q = .ret v ∧ m = mo) (hg : gd ops env o = some true) (hds : o.dst = some d)
    (ho : o.op = .call { callee := .value f, args := xs.toArray, argTypes := ts }) (hf : evo env f = some (.y y)) (hx : evs env xs = some us) (hu : Fits us args) (hr : (V.refs.go mi args && (refsM mi mi && keysOk mi mo)) = true) (hy : (aget mi y).isSome = true) (ht : tpre (callT mi mo) mem) (hd : Nat.blt d N = true)
    (hK : LS P F N ops rs Q ((d, v) :: env) (mo ++ mem)) : LS P F N ops (o :: rs) Q env mem :=
  LS.stepF hg (DoesF.yieldO hc ho hf hx hu hr hy) ht (by rw [hds]; exact hd) (by rw [hds, tset_call]; exact hK)
theorem LI.congr {P : Program} {f : Nat} {args : List V} {mi mi' : Mem} {Y Y' : Gh → World → Prop} {R R' : Out → Mem → Prop} (h : LI P f args mi Y R) (he : ∀ i, aget mi i = aget mi' i) (hY : ∀ g w, Y' g w → Y g w) (hR : ∀ o m, R o m → ∃ m', R' o m' ∧ ∀ i, aget m i = aget m' i) : LI P f args mi' Y' R' := by
  have hl : ∀ g w, lentF g mi w = lentF g mi' w := fun g w => by
    unfold lentF
    congr 1
    funext b o
    refine propext ⟨?_, ?_⟩
    · rintro ⟨i, m, hi, hp⟩; exact ⟨i, m, by rw [← he]; exact hi, hp⟩
    · rintro ⟨i, m, hi, hp⟩; exact ⟨i, m, by rw [he]; exact hi, hp⟩
  refine ⟨h.ok, fun g w vals hy hm hlen hr => ?_⟩
  rw [← hl] at hm ⊢
  refine Calls.mono (h.go g w vals (hY g w hy) (hm.congr fun i => (he i).symm) hlen hr) ?_
  rintro e w' ⟨o, mo, g', hRo, h1, h2, h3, h4⟩
  obtain ⟨m', k1, k2⟩ := hR o mo hRo
  exact ⟨o, m', g', k1, h1, h2.congr k2, h3, h4⟩
end Lf
end Go.Proofs.Ytefidcaaiimkeaa

/- Runs of a loop's rounds; the contract of tree's iterator. -/
namespace Go.Proofs.Ytefidcaaiimkeaa
open Go.RowKit Rg Wm Ar
set_option maxRecDepth 100000
namespace Lf
open Tr
abbrev Al := Pa × List UInt8
section
variable {σ : Type}
/-- The rounds in turn: the last state, and whether all went on. -/
def runI (go : σ → Al → Bool) (nx : σ → Al → σ) : σ → List Al → σ × Bool
  | s, [] => (s, true)
  | s, x :: l => cond (go s x) (runI go nx (nx s x) l) (nx s x, false)
def okI (ok : σ → Al → Prop) (go : σ → Al → Bool) (nx : σ → Al → σ) : σ → List Al → Prop
  | _, [] => True
  | s, x :: l => ok s x ∧ (go s x = true → okI ok go nx (nx s x) l)
variable {ok : σ → Al → Prop} {go : σ → Al → Bool} {nx : σ → Al → σ}
theorem runI_app : ∀ (a b : List Al) (s : σ), runI go nx s (a ++ b) = cond (runI go nx s a).2 (runI go nx (runI go nx s a).1 b) (runI go nx s a)
  | [], b, s => rfl
  | x :: a, b, s => by
    simp only [List.cons_append, runI]
    cases go s x with
    | true => exact runI_app a b _
    | false => rfl
theorem okI_app : ∀ {a b : List Al} {s : σ}, okI ok go nx s (a ++ b) → okI ok go nx s a ∧ ((runI go nx s a).2 = true → okI ok go nx (runI go nx s a).1 b)
  | [], b, s, h => ⟨trivial, fun _ => h⟩
  | x :: a, b, s, h => by
    obtain ⟨h1, h2⟩ := h
    simp only [runI]
    cases hg : go s x with
    | true =>
      obtain ⟨k1, k2⟩ := okI_app (a := a) (b := b) (h2 hg)
      exact ⟨⟨h1, fun _ => k1⟩, k2⟩
    | false => exact ⟨⟨h1, fun e => by rw [hg] at e; cases e⟩, fun e => by cases e⟩
def ok2 (ok : σ → Al → Prop) : σ × Bool → Al → Prop := fun s x => s.2 = true ∧ ok s.1 x
def go2 (go : σ → Al → Bool) : σ × Bool → Al → Bool := fun s x => go s.1 x
def nx2 (go : σ → Al → Bool) (nx : σ → Al → σ) : σ × Bool → Al → σ × Bool := fun s x => (nx s.1 x, go s.1 x)
theorem run2 : ∀ (l : List Al) (s : σ), runI (go2 go) (nx2 go nx) (s, true) l = (runI go nx s l, (runI go nx s l).2)
  | [], s => rfl
  | x :: l, s => by
    simp only [runI, go2, nx2]
    cases hg : go s x with
    | true => exact run2 l _
    | false => rfl
theorem okI2 : ∀ {l : List Al} {s : σ}, okI ok go nx s l → okI (ok2 ok) (go2 go) (nx2 go nx) (s, true) l
  | [], _, _ => trivial
  | x :: l, s, h => ⟨⟨rfl, h.1⟩, fun hg => by
    have hg' : go s x = true := hg
    have := okI2 (h.2 hg')
    simp only [nx2, hg']
    exact this⟩
end
theorem nd_ren (ρ : Nat → Nat) : ∀ n : Nd, (ndV n).ren ρ = ndV n
  | .no => by rw [ndV_no]; rfl
  | .leaf p v => by rw [ndV_leaf]; rfl
  | .road p k => by rw [ndV_road]; simp only [V.ren, V.ren.go, nd_ren ρ k]
  | .fork ks v => by
    rw [ndV_fork, fk_list]
    simp only [V.ren, V.ren.go, nd_ren ρ (ks 0), nd_ren ρ (ks 1), nd_ren ρ (ks 2), nd_ren ρ (ks 3), nd_ren ρ (ks 4), nd_ren ρ (ks 5), nd_ren ρ (ks 6), nd_ren ρ (ks 7), nd_ren ρ (ks 8), nd_ren ρ (ks 9), nd_ren ρ (ks 10), nd_ren ρ (ks 11), nd_ren ρ (ks 12), nd_ren ρ (ks 13), nd_ren ρ (ks 14), nd_ren ρ (ks 15)]
/-- What the rounds do. -/
def YsA {σ : Type} (U : σ → Mem) (ok : σ → Al → Prop) (go : σ → Al → Bool) (nx : σ → Al → σ) (y : Nat) (g : Gh) (w : World) : Prop :=
  ∀ s x, ok s x → LY Try.prog (g.only (U s)) w y [bV (pB x.1), bV x.2] (U s) fun q m => q = .ret (.k (.bool (go s x))) ∧ m = U (nx s x)
def bxA (kn kp : Nat) (n : Nd) (p : Pa) : Mem := [(kn, .b [ndV n]), (kp, .b [bV (pB p)])]
/-- The contract of the iterator, at any numbers. -/
def AllC (n : Nd) (p : Pa) : Prop := ∀ (σ : Type) (U : σ → Mem) (ok : σ → Al → Prop) (go : σ → Al → Bool) (nx : σ → Al → σ) (s0 : σ) (y kn kp : Nat), Ms U → (aget (U s0) y).isSome = true → aget (U s0) kn = none → aget (U s0) kp = none → kn ≠ kp → 1000 ≤ kn → 1000 ≤ kp → okI ok go nx s0 (pairs n p) →
  LI Try.prog 34 [.y y, .p kn 0, .p kp 0] (bxA kn kp n p ++ U s0) (YsA U ok go nx y) fun q m => q = .ret (.t []) ∧ m = bxA kn kp n p ++ U (runI go nx s0 (pairs n p)).1
/-- The same at numbers of our own. -/
def AllT (n : Nd) (p : Pa) : Prop := ∀ (σ : Type) (U : σ → Mem) (ok : σ → Al → Prop) (go : σ → Al → Bool) (nx : σ → Al → σ) (s0 : σ), Ms U → (aget (U s0) 1999).isSome = true → (∀ i ∈ [1001, 1002, 1003, 1998, 1011, 1012], aget (U s0) i = none) → okI ok go nx s0 (pairs n p) →
  LI Try.prog 34 [.y 1999, .p 1001 0, .p 1002 0] (bxA 1001 1002 n p ++ U s0) (YsA U ok go nx 1999) fun q m => q = .ret (.t []) ∧ m = bxA 1001 1002 n p ++ U (runI go nx s0 (pairs n p)).1
theorem fresh4 (L : List Nat) : ∃ a b c d, 1000 ≤ a ∧ a < b ∧ b < c ∧ c < d ∧ ∀ x ∈ L, x < a := by
  have key : ∀ L : List Nat, ∃ m, ∀ x ∈ L, x < m := by
    intro L
    induction L with
    | nil => exact ⟨0, fun x hx => by cases hx⟩
    | cons a r ih =>
      obtain ⟨m, hm⟩ := ih
      refine ⟨max m (a + 1), fun x hx => ?_⟩
      rcases List.mem_cons.1 hx with rfl | hx
      · omega
      · have := hm x hx; omega
  obtain ⟨m, hm⟩ := key L
  exact ⟨m + 1000, m + 1001, m + 1002, m + 1003, by omega, by omega, by omega, by omega, fun x hx => by have := hm x hx; omega⟩
theorem exists_pmf : ∀ (ks is : List Nat), ks.Nodup → is.Nodup → ks.length = is.length → ∃ ρ : Pm, ks.map ρ.f = is ∧ ∀ i, i ∉ ks → i ∉ is → ρ.f i = i
  | [], [], _, _, _ => ⟨⟨id, id, fun _ => rfl, fun _ => rfl⟩, rfl, fun _ _ _ => rfl⟩
  | [], _ :: _, _, _, h => by simp at h
  | _ :: _, [], _, _, h => by simp at h
  | k :: ks, i :: is, hk, hi, h => by
    obtain ⟨ρ, hρ, hfix⟩ := exists_pmf ks is (List.nodup_cons.1 hk).2 (List.nodup_cons.1 hi).2 (by simpa using h)
    refine ⟨(Pm.swap (ρ.f k) i).comp ρ, ?_, fun j hj1 hj2 => ?_⟩
    · rw [List.map_cons]
      congr 1
      · simp [Pm.comp, Pm.swap, swapF]
      · rw [← hρ]
        refine List.map_congr_left fun j hj => ?_
        have h1 : ρ.f j ≠ ρ.f k := fun e => (List.nodup_cons.1 hk).1 (ρ.inj e ▸ hj)
        have h2 : ρ.f j ≠ i := fun e => (List.nodup_cons.1 hi).1 (by rw [← e, ← hρ]; exact List.mem_map_of_mem hj)
        simp [Pm.comp, Pm.swap, swapF, h1, h2]
    · have e := hfix j (fun h => hj1 (by simp [h])) (fun h => hj2 (by simp [h]))
      have h1 : ρ.f j ≠ ρ.f k := fun e2 => hj1 (by rw [ρ.inj e2]; simp)
      have h2 : ρ.f j ≠ i := fun e2 => hj2 (by rw [← e2, e]; simp)
      show swapF (ρ.f k) i (ρ.f j) = j
      unfold swapF
      rw [if_neg h1, if_neg h2, e]
theorem isSome_ren (ρ : Pm) (m : Mem) (i : Nat) : (aget (Mem.ren ρ.f m) (ρ.f i)).isSome = (aget m i).isSome := by rw [aget_ren]; cases aget m i <;> rfl
theorem refs_ren (ρ : Pm) (m : Mem) (v : V) : (v.ren ρ.f).refs (Mem.ren ρ.f m) = v.refs m :=
  V.rec (motive_1 := fun v => (v.ren ρ.f).refs (Mem.ren ρ.f m) = v.refs m) (motive_2 := fun l => V.refs.go (Mem.ren ρ.f m) (V.ren.go ρ.f l) = V.refs.go m l)
    (fun _ => rfl) (fun _ ih => ih) (fun _ ih => ih) (fun o _ _ => match o with
      | none => rfl
      | some r => isSome_ren ρ m r) rfl (fun b _ => isSome_ren ρ m b) (fun b _ _ _ => isSome_ren ρ m b) (fun _ _ => rfl)
    (fun _ _ _ h1 h2 => by simp only [V.ren, V.refs, h1, h2]) (fun _ _ ih => ih) (fun b _ _ _ _ => isSome_ren ρ m b) (fun b _ _ => isSome_ren ρ m b) (fun b => isSome_ren ρ m b) (fun b => isSome_ren ρ m b)
    rfl (fun _ _ h1 h2 => by simp only [V.ren.go, V.refs.go, h1, h2]) v
theorem refs_go_ren (ρ : Pm) (m : Mem) : ∀ l : List V, V.refs.go (Mem.ren ρ.f m) (l.map (V.ren ρ.f)) = V.refs.go m l
  | [] => rfl
  | v :: r => by rw [List.map_cons, V.refs.go, V.refs.go, refs_ren, refs_go_ren ρ m r]
theorem refsM_ren (ρ : Pm) (m : Mem) : ∀ l : Mem, refsM (Mem.ren ρ.f m) (Mem.ren ρ.f l) = refsM m l
  | [] => rfl
  | (i, .b cs) :: r => by
    show (V.refs.go (Mem.ren ρ.f m) (cs.map (V.ren ρ.f)) && refsM (Mem.ren ρ.f m) (Mem.ren ρ.f r)) = _
    rw [refs_go_ren, refsM_ren ρ m r]; rfl
  | (i, .r ..) :: r => refsM_ren ρ m r
  | (i, .w ..) :: r => refsM_ren ρ m r
  | (i, .m _) :: r => refsM_ren ρ m r
  | (i, .o _) :: r => refsM_ren ρ m r
  | (i, .x) :: r => refsM_ren ρ m r
theorem only_pull (ρ : Pm) (g : Gh) (T : Mem) : (g.only T).pull ρ.f = (g.pull ρ.f).only (Mem.ren ρ.inv.f T) := by
  have e : ∀ i, (aget (Mem.ren ρ.inv.f T) i).isSome = (aget T (ρ.f i)).isSome := fun i => by
    have := isSome_ren ρ.inv T (ρ.f i)
    rw [show ρ.inv.f (ρ.f i) = i from ρ.gf i] at this
    exact this
  unfold Gh.only Gh.pull
  simp only [e]
theorem ren_keys (ρ : Nat → Nat) (m : Mem) : (Mem.ren ρ m).map (·.1) = (m.map (·.1)).map ρ := by
  unfold Mem.ren
  rw [List.map_map, List.map_map]
  rfl
theorem Ms.ren {σ : Type} {U : σ → Mem} (hU : Ms U) (ρ : Pm) (hb : ∀ i, 1000 ≤ i → 1000 ≤ ρ.f i) : Ms fun s => Mem.ren ρ.f (U s) := by
  refine ⟨fun s s' => by rw [ren_keys, ren_keys, hU.keys s s'], fun s => ?_, fun s => ?_, fun s => by rw [refsM_ren]; exact hU.refs s⟩
  · rw [ren_keys]
    exact List.Pairwise.map _ (fun a b h e => h (ρ.inj e)) (hU.nd s)
  · rw [List.all_eq_true]
    intro x hx
    obtain ⟨y, hy, rfl⟩ := List.mem_map.1 hx
    have := Nat.le_of_ble_eq_true (List.all_eq_true.1 (hU.big s) y hy)
    exact Nat.ble_eq_true_of_le (hb _ this)
/-- From numbers of our own to any numbers. -/
theorem AllT.gen {n : Nd} {p : Pa} (h : AllT n p) : AllC n p := by
  intro σ U ok go nx s0 y kn kp hU hy hn hp hne h1 h2 hok
  obtain ⟨a, b, c, d, q1, q2, q3, q4, q5⟩ := fresh4 ([y, kn, kp] ++ (U s0).map (·.1))
  have qy := q5 y (by simp)
  have qn := q5 kn (by simp)
  have qp := q5 kp (by simp)
  have qU : ∀ j, a ≤ j → aget (U s0) j = none := fun j hj => by
    cases hg : aget (U s0) j with
    | none => rfl
    | some m =>
      have := q5 j (List.mem_append_right _ (aget_mem_keys.1 (by rw [hg]; rfl)))
      omega
  have hyn : y ≠ kn := fun e => by rw [e, hn] at hy; cases hy
  have hyp : y ≠ kp := fun e => by rw [e, hp] at hy; cases hy
  have hy1 : 1000 ≤ y := by
    rcases Nat.lt_or_ge y 1000 with h | h
    · have := hU.small (s := s0) (i := y) (Nat.ble_eq_true_of_le h)
      rw [this] at hy; cases hy
    · exact h
  obtain ⟨ρ, hρ, hfix⟩ := exists_pmf [1999, 1001, 1002, 1003, 1998, 1011, 1012] [y, kn, kp, a, b, c, d] (by decide) (by simp; omega) rfl
  simp only [List.map_cons, List.map_nil, List.cons.injEq, and_true] at hρ
  obtain ⟨r1, r2, r3, r4, r5, r6, r7⟩ := hρ
  have hbig : ∀ i, 1000 ≤ i → 1000 ≤ ρ.inv.f i := fun i hi => by
    rcases Nat.lt_or_ge (ρ.inv.f i) 1000 with hlt | hge
    · exfalso
      have e : ρ.f (ρ.inv.f i) = ρ.inv.f i := hfix _ (by simp; omega) (by simp; omega)
      have e2 : ρ.f (ρ.inv.f i) = i := ρ.fg i
      omega
    · exact hge
  have inv : ∀ {i j}, ρ.f i = j → ρ.inv.f j = i := fun {i j} e => by rw [← e]; exact ρ.gf i
  have hav : ∀ i, aget (U s0) (ρ.f i) = none → aget (Mem.ren ρ.inv.f (U s0)) i = none := fun i hi => by
    have := aget_ren ρ.inv (U s0) (ρ.f i)
    rw [show ρ.inv.f (ρ.f i) = i from ρ.gf i, hi] at this
    exact this
  have h3 := h σ (fun s => Mem.ren ρ.inv.f (U s)) ok go nx s0 (hU.ren ρ.inv hbig) (by
    have := isSome_ren ρ.inv (U s0) y
    rw [inv r1] at this
    show (aget (Mem.ren ρ.inv.f (U s0)) 1999).isSome = true
    rw [this]; exact hy) (by
    intro i hi
    refine hav i ?_
    simp only [List.mem_cons, List.not_mem_nil, or_false] at hi
    rcases hi with rfl | rfl | rfl | rfl | rfl | rfl
    · rw [r2]; exact hn
    · rw [r3]; exact hp
    · rw [r4]; exact qU _ (by omega)
    · rw [r5]; exact qU _ (by omega)
    · rw [r6]; exact qU _ (by omega)
    · rw [r7]; exact qU _ (by omega)) hok
  have e1 : ∀ s, Mem.ren ρ.f (bxA 1001 1002 n p ++ Mem.ren ρ.inv.f (U s)) = bxA kn kp n p ++ U s := fun s => by
    have e0 : Mem.ren ρ.f (Mem.ren ρ.inv.f (U s)) = U s := memren_inv ρ.inv (U s)
    have : Mem.ren ρ.f (bxA 1001 1002 n p ++ Mem.ren ρ.inv.f (U s)) = Mem.ren ρ.f (bxA 1001 1002 n p) ++ Mem.ren ρ.f (Mem.ren ρ.inv.f (U s)) := List.map_append
    rw [this, e0]
    simp only [bxA, Mem.ren, List.map_cons, List.map_nil, M.ren, nd_ren, r2, r3]
    rfl
  have h4 := h3.ren ρ
  have e2 : [V.y 1999, V.p 1001 0, V.p 1002 0].map (V.ren ρ.f) = [.y y, .p kn 0, .p kp 0] := by
    simp only [List.map_cons, List.map_nil, V.ren, r1, r2, r3]
  rw [e1 s0, e2] at h4
  refine h4.congr (fun _ => rfl) (fun g w hY s x hx => ?_) fun o m hm => ?_
  · have h5 := (hY s x hx).ren ρ.inv
    have e3 : (g.only (U s)).pull ρ.inv.g = (g.pull ρ.f).only (Mem.ren ρ.inv.f (U s)) := only_pull ρ g (U s)
    rw [e3, inv r1] at h5
    refine h5.mono ?_
    rintro o m ⟨o', m', ⟨rfl, rfl⟩, rfl, rfl⟩
    exact ⟨rfl, rfl⟩
  · obtain ⟨o', m', ⟨rfl, rfl⟩, rfl, rfl⟩ := hm
    exact ⟨_, ⟨rfl, rfl⟩, fun i => by rw [e1]⟩
end Lf
end Go.Proofs.Ytefidcaaiimkeaa

/- Package tree: all, for nothing, for leaves, for roads. -/
namespace Go.Proofs.Ytefidcaaiimkeaa
open Go.RowKit Rg Wm Ar
set_option linter.unusedVariables false
set_option maxRecDepth 100000
namespace Lf
open Tr
/-- A memory that ends in T. -/
inductive Tail (T : Mem) : Mem → Prop
  | nil : Tail T T
  | cons {i : Nat} {z : M} {m : Mem} (hi : aget T i = none) (h : Tail T m) : Tail T ((i, z) :: m)
theorem Tail.app {T m : Mem} (h : Tail T m) : ∃ A, m = A ++ T ∧ ∀ x ∈ A, aget T x.1 = none := by
  induction h with
  | nil => exact ⟨[], rfl, fun x hx => by cases hx⟩
  | @cons i z m hi _ ih =>
    obtain ⟨A, rfl, hA⟩ := ih
    refine ⟨(i, z) :: A, rfl, fun y hy => ?_⟩
    rcases List.mem_cons.1 hy with rfl | hy
    · exact hi
    · exact hA y hy
section
variable {σ : Type} {U : σ → Mem} (hU : Ms U)
include hU
theorem tpre_tail {s0 s1 : σ} {mem : Mem} (h : Tail (U s0) mem) : tpre (callT (U s0) (U s1)) mem := by
  obtain ⟨A, rfl, hA⟩ := h.app
  exact tpre_yield hU hA
theorem tpre_tailB {s0 s1 : σ} {mem B : Mem} (h : Tail (U s0) mem) (hB : ∀ x ∈ B, aget mem x.1 = some x.2 ∧ aget (U s0) x.1 = none) : tpre (callT (B ++ U s0) (B ++ U s1)) mem := by
  obtain ⟨A, rfl, hA⟩ := h.app
  refine tpre_yieldB hU hA fun x hx => ?_
  obtain ⟨h1, h2⟩ := hB x hx
  rw [aget_append, h2] at h1
  simpa using h1
end
theorem bxA_refs (kn kp : Nat) (n : Nd) (p : Pa) (m : Mem) : refsM m (bxA kn kp n p) = true := by
  simp only [bxA, refsM, V.refs.go, nd_refs, Bool.and_self, Bool.true_and]
  rfl
theorem keysOk_tail {σ : Type} {U : σ → Mem} (hU : Ms U) (A B : Mem) (s s' : σ) (h : A.map (·.1) = B.map (·.1)) : keysOk (A ++ U s) (B ++ U s') = true := by
  unfold keysOk
  rw [List.all_eq_true]
  intro x hx
  rcases List.mem_append.1 hx with hx | hx
  · exact some_app_l _ (aget_mem_keys.2 (by rw [← h]; exact List.mem_map_of_mem hx))
  · exact some_app_r _ (hU.some_ (s := s) (aget_mem_keys.2 (List.mem_map_of_mem hx)))
theorem big_tail {σ : Type} {U : σ → Mem} (hU : Ms U) (A : Mem) (s : σ) (h : (A.all fun x => Nat.ble 1000 x.1) = true) : ((A ++ U s).all fun x => Nat.ble 1000 x.1) = true := by
  rw [List.all_append, h, hU.big s]; rfl
/-- The end of the iterator, whatever its memory is by then. -/
theorem all_end {σ : Type} {U : σ → Mem} (hU : Ms U) {n : Nd} {p : Pa} {s : σ} {X : TOk Try.prog} {env : Env} {mem : Mem} (h1 : aget mem 1001 = some (.b [ndV n])) (h2 : aget mem 1002 = some (.b [bV (pB p)])) (h3 : SubM mem (U s)) : LFin X [] (fun q m => q = .ret (.t []) ∧ m = bxA 1001 1002 n p ++ U s) env mem :=
  LFin.memV (u := .t []) rfl ⟨h1, h2, h3⟩ (by
    rw [show V.refs (bxA 1001 1002 n p ++ U s) (.t []) = true from rfl, Bool.true_and]
    exact refsM_tail hU _ s (bxA_refs _ _ _ _ _)) rfl
theorem Tail.sub {σ : Type} {U : σ → Mem} (hU : Ms U) {s : σ} {mem : Mem} (h : Tail (U s) mem) : SubM mem (U s) := by
  induction h with
  | nil => have := hU.sub s []; rwa [List.append_nil] at this
  | cons hi _ ih => exact SubM.skip ih hi
namespace Te
theorem all_0 (n : Nd) (p : Pa) : LM Try.prog 19 [ndV n, bV (pB p)] [] fun o m => o = .ret (.f (.func 34) [] [.p 2 0, .p 3 0]) ∧ m = [(2, .b [ndV n]), (3, .b [bV (pB p)])] := by
  have hrf := tr_refs
  cases n with
  | no =>
    rw [ndV_no]
    refine LM.enter tt Try.func19 rfl rfl rfl (by kernel_rfl) rfl rfl rfl (fun o mo h => by rw [h.2]; rfl) fun F _ => ?_
    exact wk trueW trueW trueW
  | leaf q v =>
    rw [ndV_leaf]
    refine LM.enter tt Try.func19 rfl rfl rfl (by kernel_rfl) rfl rfl rfl (fun o mo h => by rw [h.2]; rfl) fun F _ => ?_
    exact wk trueW trueW trueW
  | road q k =>
    rw [ndV_road]
    refine LM.enter tt Try.func19 rfl rfl rfl (by kernel_rfl) rfl rfl rfl (fun o mo h => by rw [h.2]; rfl) fun F _ => ?_
    exact wk trueW trueW trueW
  | fork ks v =>
    rw [ndV_fork]
    refine LM.enter tt Try.func19 rfl rfl rfl (by kernel_rfl) rfl rfl rfl (fun o mo h => by rw [h.2]; rfl) fun F _ => ?_
    exact wk trueW trueW trueW
/-- The iterator's value, with its boxes at given numbers. -/
theorem all_ (n : Nd) (p : Pa) : LM Try.prog 19 [ndV n, bV (pB p)] [] fun o m => o = .ret (.f (.func 34) [] [.p 1011 0, .p 1012 0]) ∧ m = bxA 1011 1012 n p :=
  LM.gen [2, 3] [1011, 1012] (by decide) (by decide) rfl (all_0 n p) fun ρ hρ => by
    simp only [List.map_cons, List.map_nil, List.cons.injEq, and_true] at hρ
    refine ⟨?_, rfl, ?_, ?_⟩
    · simp only [List.map_cons, List.map_nil, nd_ren]; rfl
    · simp only [Out.ren, V.ren, V.ren.go, hρ.1, hρ.2]
    · simp only [Mem.ren, List.map_cons, List.map_nil, M.ren, nd_ren, hρ.1, hρ.2]; rfl
set_option maxHeartbeats 4000000 in
theorem allT_no (p : Pa) : AllT .no p := by
  intro σ U ok go nx s0 hU hy hav hok
  have hnt : ∀ i, Nat.blt i 1000 = true → aget (U s0) i = none := fun i h => hU.small h
  refine LI.enterR tt Try.func34 rfl rfl rfl (by kernel_rfl) rfl rfl (big_tail hU _ s0 rfl) (fun o mo h => by rw [h.2]; exact keysOk_tail hU _ _ _ _ rfl) fun F hD hro hlm hY hkF => ?_
  refine LC.seq (LC.region (LS.step rfl (Does.box (i := 1003) rfl rfl rfl) (tpre_one (hav 1003 (by decide))) rfl (LS.nil ?_)))
  show LC _ _ _ _ _ _ ((1003, .b [.y 1999]) :: (1001, .b [ndV .no]) :: (1002, .b [bV (pB p)]) :: U s0)
  rw [ndV_no]
  refine wk ?_ trueW trueW
  refine all_end hU (s := s0) ?_ rfl ?_
  · rw [ndV_no]; rfl
  · repeat (first | exact Tail.sub hU .nil | refine SubM.skip ?_ (by first | exact hnt _ rfl | exact hav _ (by decide)))
set_option maxHeartbeats 4000000 in
theorem allT_leaf (p q : Pa) (v : List UInt8) (hl : p.length + q.length < 1000000000) : AllT (.leaf q v) p := by
  intro σ U ok go nx s0 hU hy hav hok
  have hnt : ∀ i, Nat.blt i 1000 = true → aget (U s0) i = none := fun i h => hU.small h
  have c1 := join_ (pB p) (pB q) (by rw [pB_len, pB_len]; exact hl)
  obtain ⟨hx, _⟩ := hok
  refine LI.enterR tt Try.func34 rfl rfl rfl (by kernel_rfl) rfl rfl (big_tail hU _ s0 rfl) (fun o mo h => by rw [h.2]; exact keysOk_tail hU _ _ _ _ rfl) fun F hD hro hlm hY hkF => ?_
  refine LC.seq (LC.region (LS.step rfl (Does.box (i := 1003) rfl rfl rfl) (tpre_one (hav 1003 (by decide))) rfl (LS.nil ?_)))
  show LC _ _ _ _ _ _ ((1003, .b [.y 1999]) :: (1001, .b [ndV (.leaf q v)]) :: (1002, .b [bV (pB p)]) :: U s0)
  have hYx := hY s0 _ hx
  simp only [pB_app] at hYx
  have hr : runI go nx s0 (pairs (.leaf q v) p) = (nx s0 (p ++ q, v), go s0 (p ++ q, v)) := by
    simp only [pairs, runI]
    cases go s0 (p ++ q, v) <;> rfl
  rw [hr]
  rw [ndV_leaf]
  refine wk ?_ trueW trueW
  refine DR.yieldO (mi := U s0) (mo := U (nx s0 (p ++ q, v))) hYx rfl rfl rfl rfl rfl (ft1 rfl) (by rw [hU.refs, hU.keysOk]; rfl) hy (tpre_tail hU (by repeat (first | exact Tail.nil | refine Tail.cons (by first | exact hnt _ rfl | exact hav _ (by decide)) ?_))) rfl ?_
  refine DR.nlS (by kernel_rfl) ?_
  refine all_end hU ?_ ?_ (hU.sub _ _)
  · rw [aget_yield hU (hav 1001 (by decide)), ndV_leaf]; rfl
  · rw [aget_yield hU (hav 1002 (by decide))]; rfl
set_option maxHeartbeats 4000000 in
theorem allT_road (p q : Pa) (k : Nd) (hl : p.length + q.length < 1000000000) (ih : AllC k (p ++ q)) : AllT (.road q k) p := by
  intro σ U ok go nx s0 hU hy hav hok
  have hnt : ∀ i, Nat.blt i 1000 = true → aget (U s0) i = none := fun i h => hU.small h
  have c1 := join_ (pB p) (pB q) (by rw [pB_len, pB_len]; exact hl)
  have hi := ih σ U ok go nx s0 1999 1011 1012 hU hy (hav 1011 (by decide)) (hav 1012 (by decide)) (by decide) (by decide) (by decide) hok
  have c2 := all_ k (p ++ q)
  rw [pB_app] at c2
  unfold bxA at c2
  rw [pB_app] at c2
  have hrf := tr_refs
  have hcv := tr_cv
  refine LI.enterR tt Try.func34 rfl rfl rfl (by kernel_rfl) rfl rfl (big_tail hU _ s0 rfl) (fun o mo h => by rw [h.2]; exact keysOk_tail hU _ _ _ _ rfl) fun F hD hro hlm hY hkF => ?_
  refine LC.seq (LC.region (LS.step rfl (Does.box (i := 1003) rfl rfl rfl) (tpre_one (hav 1003 (by decide))) rfl (LS.nil ?_)))
  show LC _ _ _ _ _ _ ((1003, .b [.y 1999]) :: (1001, .b [ndV (.road q k)]) :: (1002, .b [bV (pB p)]) :: U s0)
  rw [show pairs (.road q k) p = pairs k (p ++ q) from rfl]
  rw [ndV_road]
  refine wk ?_ trueW trueW
  refine DR.cm rfl rfl (Does.callM c2 rfl rfl (ft1 (by simp only [V.cv, V.cv.go, cond_false, hcv])) (by simp only [V.refs.go, nd_refs]; rfl)) ⟨hav 1011 (by decide), hav 1012 (by decide), trivial⟩ rfl ?_
  refine wk ?_ trueW trueW
  refine DR.callI (mi := bxA 1011 1012 k (p ++ q) ++ U s0) (mo := bxA 1011 1012 k (p ++ q) ++ U (runI go nx s0 (pairs k (p ++ q))).1) hi (fun g w he s x hx => ?_) rfl rfl rfl rfl rfl (.same _) ?_ (tpre_tailB hU (by repeat (first | exact Tail.nil | refine Tail.cons (by first | exact hnt _ rfl | exact hav _ (by decide)) ?_)) ?_) rfl ?_
  · rw [only_only (A := bxA 1011 1012 k (p ++ q) ++ U s0) (T := U s) fun i hi => some_app_r _ (hU.some_ hi)]
    exact (hY s x hx).later (he.only _)
  · have e1 : V.refs (bxA 1011 1012 k (p ++ q) ++ U s0) (.y 1999) = true := some_app_r (A := bxA 1011 1012 k (p ++ q)) _ hy
    simp only [V.refs.go, e1, Bool.true_and, Bool.and_eq_true]
    exact ⟨⟨rfl, rfl, trivial⟩, refsM_tail hU _ s0 (bxA_refs _ _ _ _ _), keysOk_tail hU _ _ _ _ rfl⟩
  · intro x hx
    simp only [bxA, List.mem_cons, List.not_mem_nil, or_false] at hx
    rcases hx with rfl | rfl
    · exact ⟨rfl, hav 1011 (by decide)⟩
    · exact ⟨by rw [pB_app]; rfl, hav 1012 (by decide)⟩
  refine DR.nlS (by kernel_rfl) ?_
  refine all_end hU ?_ ?_ ?_
  · exact (aget_yield hU (hav 1001 (by decide)) _).trans (by rw [ndV_road]; rfl)
  · exact (aget_yield hU (hav 1002 (by decide)) _).trans rfl
  · exact SubM.skip (SubM.skip (hU.sub _ _) (hU.none_ (hav 1012 (by decide)))) (hU.none_ (hav 1011 (by decide)))
end Te
end Lf
end Go.Proofs.Ytefidcaaiimkeaa

/- Package tree: all, for forks. -/
namespace Go.Proofs.Ytefidcaaiimkeaa
open Go.RowKit Rg Wm Ar
set_option linter.unusedVariables false
set_option maxRecDepth 100000
namespace Lf
open Tr
/-- A memory with more ahead of it that stays. -/
theorem Ms.ext {σ τ : Type} {U : σ → Mem} (hU : Ms U) (f : τ → σ) (B : τ → Mem) (K : List Nat) (hK : ∀ t, (B t).map (·.1) = K) (hn : K.Nodup) (hb : ∀ k ∈ K, 1000 ≤ k) (s0 : σ) (hd : ∀ k ∈ K, aget (U s0) k = none) (hr : ∀ t, refsM (B t ++ U (f t)) (B t) = true) : Ms fun t => B t ++ U (f t) := by
  refine ⟨fun t t' => by rw [List.map_append, List.map_append, hK, hK, hU.keys (f t) (f t')], fun t => ?_, fun t => ?_, fun t => refsM_tail hU _ _ (hr t)⟩
  · rw [List.map_append, hK]
    refine List.nodup_append.2 ⟨hn, hU.nd _, fun a ha b hb' e => ?_⟩
    subst e
    have h1 := aget_mem_keys.2 hb'
    rw [hU.none_ (hd a ha)] at h1
    cases h1
  · rw [List.all_append, hU.big, Bool.and_true, List.all_eq_true]
    intro x hx
    refine Nat.ble_eq_true_of_le (hb _ ?_)
    rw [← hK t]
    exact List.mem_map_of_mem hx
def bxF (ks : Fin 16 → Nd) (v : List UInt8) (p : Pa) : Mem := [(1003, .b [.y 1999]), (1001, .b [.i 73 (.a (fkC ks v))]), (1002, .b [bV (pB p)])]
theorem bxF_refs (ks : Fin 16 → Nd) (v : List UInt8) (p : Pa) (m : Mem) (h : (aget m 1999).isSome = true) : refsM m (bxF ks v p) = true := by
  simp only [bxF, refsM, V.refs, V.refs.go, fk_refs, h, Bool.and_self]
theorem all_c {α : Type} {f : α → Bool} {x : α} {m : List α} (h : f x = true) (h2 : m.all f = true) : (x :: m).all f = true := by rw [List.all_cons, h, h2]; rfl
theorem all_a {α : Type} {f : α → Bool} {a b : List α} (h : a.all f = true) (h2 : b.all f = true) : (a ++ b).all f = true := by rw [List.all_append, h, h2]; rfl
theorem all_u {σ : Type} {U : σ → Mem} (hU : Ms U) (B : Mem) (s s1 : σ) : ((U s).all fun x => Nat.blt x.1 1000 || (aget (B ++ U s1) x.1).isSome) = true := by
  rw [List.all_eq_true]
  intro x hx
  rw [some_app_r (A := B) (T := U s1) x.1 (hU.some_ (s := s) (aget_mem_keys.2 (List.mem_map_of_mem hx))), Bool.or_true]
theorem weak_r {σ : Type} {U : σ → Mem} (hU : Ms U) {B mem : Mem} {s1 : σ} {env : Env} (hE : refsE (B ++ U s1) env = true) (hB : refsM (B ++ U s1) B = true) (hm : (mem.all fun x => Nat.blt x.1 1000 || (aget (B ++ U s1) x.1).isSome) = true) : (refsE (B ++ U s1) env && (refsM (B ++ U s1) (B ++ U s1) && mem.all fun x => Nat.blt x.1 1000 || (aget (B ++ U s1) x.1).isSome)) = true := by
  rw [hE, refsM_tail hU B s1 hB, hm]; rfl
def firstP (ks : Fin 16 → Nd) (p : Pa) (i : Nat) : List Al := ((List.finRange 16).take i).flatMap fun j => pairs (ks j) (p ++ [j])
theorem firstP_all (ks : Fin 16 → Nd) (p : Pa) : firstP ks p 16 = (List.finRange 16).flatMap fun i => pairs (ks i) (p ++ [i]) := by
  unfold firstP
  rw [List.take_of_length_le (by rw [List.length_finRange]; exact Nat.le_refl 16)]
theorem firstP_succ (ks : Fin 16 → Nd) (p : Pa) {i : Nat} (h : i < 16) : firstP ks p (i + 1) = firstP ks p i ++ pairs (ks ⟨i, h⟩) (p ++ [⟨i, h⟩]) := by
  unfold firstP
  rw [List.take_succ_eq_append_getElem (by rw [List.length_finRange]; exact h), List.flatMap_append, List.getElem_finRange]
  simp
theorem firstP_split (ks : Fin 16 → Nd) (p : Pa) {i : Nat} (h : i ≤ 16) : ∃ r, firstP ks p 16 = firstP ks p i ++ r := by
  refine ⟨((List.finRange 16).drop i).flatMap fun j => pairs (ks j) (p ++ [j]), ?_⟩
  unfold firstP
  rw [← List.flatMap_append]
  congr 1
  rw [List.take_of_length_le (by rw [List.length_finRange]; exact Nat.le_refl 16), List.take_append_drop]
/-- Less is known: what was not lent may be left out, whatever its number. -/
theorem LC.weakK {P : Program} {F : Fr0} {N : Nat} {Q : LQ} {env env' : Env} {mem mem' : Mem} {c : Code} (hE : SubE env env') (hM : SubM mem mem') (h1 : refsE mem' env' = true) (h2 : refsM mem' mem' = true) (hk : ∀ i, aget mem' i = none → F.bx0 i = none ∧ F.rw0 i = none) (h : LC P F N c Q env' mem') : LC P F N c Q env mem := by
  refine ⟨fun F0 hx g a w hr => h.go F0 hx (g.only mem') a w ?_⟩
  have hs : ∀ i, aget mem' i ≠ none → (aget mem' i).isSome = true := fun i hi => by
    cases h : aget mem' i with
    | none => exact absurd h hi
    | some _ => rfl
  have hL : LocOk F0 (g.only mem') := by
    refine ⟨hr.mem.loc.tab, fun i z hz => ?_, fun i a l c hz => ?_⟩
    · have : (aget mem' i).isSome = true := hs i fun e => by rw [hx.bx, (hk i e).1] at hz; cases hz
      simp only [Gh.only]; rw [if_pos this]; exact hr.mem.loc.bx i z hz
    · have : (aget mem' i).isSome = true := hs i fun e => by rw [hx.rw, (hk i e).2] at hz; cases hz
      obtain ⟨a', l', c', k1, k2⟩ := hr.mem.loc.rw i a l c hz
      exact ⟨a', l', c', by simp only [Gh.only]; rw [if_pos this]; exact k1, k2⟩
  refine ⟨fun t v ht => ?_, hr.mem.sub (fun i m hi => hM.get hi) h2 hL fun i m b o hi hp => hr.mem.wr i m b o (hM.get hi) hp, ⟨hr.kept.os, hr.kept.tape, hr.kept.output, hr.kept.size, hr.kept.blk, hr.kept.cell, hr.kept.S1, hr.kept.S2, hr.kept.cellS⟩, hr.defers, hr.size, hr.big⟩
  obtain ⟨x, e1, e2⟩ := hr.env t v (hE.get ht)
  exact ⟨x, e1, e2.only (refsE_get h1 ht)⟩
theorem lblk_n {Q : LQ} {id : Nat} {env : Env} {mem : Mem} (h : Q .normal env mem) : LBlk id Q .normal env mem := h
theorem lblk_r {Q : LQ} {id : Nat} {env : Env} {mem : Mem} (h : Q .ret env mem) : LBlk id Q .ret env mem := h
def restP (ks : Fin 16 → Nd) (p : Pa) : List Al := (List.finRange 16).flatMap fun i => pairs (ks i) (p ++ [i])
namespace Te
set_option maxHeartbeats 8000000 in
theorem allT_fork (p : Pa) (ks : Fin 16 → Nd) (v : List UInt8) (hl : p.length < 1000000000) (ih : ∀ i, AllC (ks i) (p ++ [i])) : AllT (.fork ks v) p := by
  intro σ U ok go nx s0 hU hy hav hok
  have hnt : ∀ i, Nat.blt i 1000 = true → aget (U s0) i = none := fun i h => hU.small h
  have c1 := own_ (pB p) (by rw [pB_len]; exact hl)
  have hrf := tr_refs
  have hcv := tr_cv
  have hfk := fk_len ks v
  have ld1 := @fk_val ks v
  have ld2 := @fk_kids ks v
  refine LI.enterR tt Try.func34 rfl rfl rfl (by kernel_rfl) rfl rfl (big_tail hU _ s0 rfl) (fun o mo h => by rw [h.2]; exact keysOk_tail hU _ _ _ _ rfl) fun F hD hro hlm hY hkF => ?_
  refine LC.seq (LC.region (LS.step rfl (Does.box (i := 1003) rfl rfl rfl) (tpre_one (hav 1003 (by decide))) rfl (LS.nil ?_)))
  show LC _ _ _ _ _ _ ((1003, .b [.y 1999]) :: (1001, .b [ndV (.fork ks v)]) :: (1002, .b [bV (pB p)]) :: U s0)
  rw [ndV_fork]
  have hU1 := hU
  have hcs : v = [] ∨ (v ≠ [] ∧ go s0 (p, v) = true) ∨ (v ≠ [] ∧ go s0 (p, v) = false) := by
    by_cases h : v = []
    · exact .inl h
    · cases hg : go s0 (p, v) with
      | true => exact .inr (.inl ⟨h, rfl⟩)
      | false => exact .inr (.inr ⟨h, rfl⟩)
  have hpr : pairs (.fork ks v) p = (if v = [] then [] else [(p, v)]) ++ firstP ks p 16 := by rw [firstP_all]; rfl
  rw [hpr] at hok ⊢
  rcases hcs with hv | ⟨hv, hg⟩ | ⟨hv, hg⟩
  case' inl =>
    have hv0 : v.length = 0 := by rw [hv]; rfl
    rw [if_pos hv, List.nil_append] at hok ⊢
    obtain ⟨s1, hs1⟩ : ∃ s1, s0 = s1 := ⟨_, rfl⟩
    have hok1 := hok
    rw [hs1] at hok1 hav hnt hy ⊢
    have hav1 := hav
    have hnt1 := hnt
    have hy1 := hy
    refine wk ?_ trueW trueW
    refine LC.weak (env' := [(1, .p 1001 0), (2, .p 1002 0), (3, .p 1003 0), (52, .a (kdC ks)), (53, .k (.int .i64 ((0 : Nat) : Int)))]) (mem' := bxF ks v p ++ U s1) ⟨(by repeat (first | exact True.intro | refine And.intro rfl ?_)), ⟨rfl, rfl, rfl, (by repeat (first | exact Tail.sub hU1 .nil | exact hU.sub _ _ | refine SubM.skip ?_ (by first | exact hnt1 _ rfl | exact hav1 _ (by decide))))⟩, weak_r hU (by simp only [refsE, V.refs, kd_refs]; rfl) (bxF_refs _ _ _ _ (some_app_r (A := bxF ks v p) _ hy1)) (by repeat (first | exact all_u hU _ _ _ | refine all_c rfl ?_ | refine all_a (all_u hU _ _ _) ?_))⟩ ?_
  case' inr.inl =>
    have hv0 : 0 < v.length := List.length_pos_iff.2 hv
    rw [if_neg hv] at hok ⊢
    obtain ⟨hx, hok1⟩ := hok
    have hok1 : okI ok go nx (nx s0 (p, v)) (firstP ks p 16) := hok1 hg
    have hYx := hY s0 _ hx
    rw [hg] at hYx
    rw [show runI go nx s0 ([(p, v)] ++ firstP ks p 16) = runI go nx (nx s0 (p, v)) (firstP ks p 16) by
      rw [List.singleton_append, runI, hg]; rfl]
    generalize nx s0 (p, v) = s1 at *
    have hav1 : ∀ i ∈ [1001, 1002, 1003, 1998, 1011, 1012], aget (U s1) i = none := fun i hi => hU.none_ (hav i hi)
    have hnt1 : ∀ i, Nat.blt i 1000 = true → aget (U s1) i = none := fun i h => hU.small h
    have hy1 := hU.some_ (s' := s1) hy
    refine wk ?_ trueW trueW
    refine DR.yieldO (mi := U s0) (mo := U s1) hYx rfl rfl rfl rfl rfl (ft1 rfl) (by rw [hU.refs, hU.keysOk]; rfl) hy (tpre_tail hU (by repeat (first | exact Tail.nil | refine Tail.cons (by first | exact hnt _ rfl | exact hav _ (by decide)) ?_))) rfl ?_
    refine DR.pp rfl rfl (Does.not rfl rfl) rfl (DR.pp rfl rfl (Does.pick rfl rfl rfl) rfl ?_)
    refine DR.nlS (by kernel_rfl) ?_
    refine LC.condF rfl (LC.skip ?_)
    refine LC.weak (env' := [(1, .p 1001 0), (2, .p 1002 0), (3, .p 1003 0), (6, .p 6 0)]) (mem' := ((6, .b (fkC ks v)) :: bxF ks v p) ++ U s1) ⟨(by repeat (first | exact True.intro | refine And.intro rfl ?_)), ⟨(aget_yield hU (hnt 6 rfl) _).trans rfl, (aget_yield hU (hav 1003 (by decide)) _).trans rfl, (aget_yield hU (hav 1001 (by decide)) _).trans rfl, (aget_yield hU (hav 1002 (by decide)) _).trans rfl, hU.sub _ _⟩, weak_r hU (by simp only [refsE, V.refs]; rfl) (by rw [refsM, fk_refs]; exact bxF_refs _ _ _ _ (some_app_r (A := (6, M.b (fkC ks v)) :: bxF ks v p) _ hy1)) (by repeat (first | exact all_u hU _ _ _ | refine all_c rfl ?_ | refine all_a (all_u hU _ _ _) ?_))⟩ ?_
    show LC _ _ _ _ _ _ ((6, .b (fkC ks v)) :: (bxF ks v p ++ U s1))
    clear hnt
    have hnt := hnt1
    refine wk ?_ trueW trueW
    refine LC.weak (env' := [(1, .p 1001 0), (2, .p 1002 0), (3, .p 1003 0), (52, .a (kdC ks)), (53, .k (.int .i64 ((0 : Nat) : Int)))]) (mem' := bxF ks v p ++ U s1) ⟨(by repeat (first | exact True.intro | refine And.intro rfl ?_)), ⟨rfl, rfl, rfl, (by repeat (first | exact Tail.sub hU1 .nil | exact hU.sub _ _ | refine SubM.skip ?_ (by first | exact hnt1 _ rfl | exact hav1 _ (by decide))))⟩, weak_r hU (by simp only [refsE, V.refs, kd_refs]; rfl) (bxF_refs _ _ _ _ (some_app_r (A := bxF ks v p) _ hy1)) (by repeat (first | exact all_u hU _ _ _ | refine all_c rfl ?_ | refine all_a (all_u hU _ _ _) ?_))⟩ ?_
  case inr.inr =>
    have hv0 : 0 < v.length := List.length_pos_iff.2 hv
    rw [if_neg hv] at hok ⊢
    obtain ⟨hx, _⟩ := hok
    have hYx := hY s0 _ hx
    rw [hg] at hYx
    rw [show runI go nx s0 ([(p, v)] ++ firstP ks p 16) = (nx s0 (p, v), false) by
      rw [List.singleton_append, runI, hg]; rfl]
    refine wk ?_ trueW trueW
    refine DR.yieldO (mi := U s0) (mo := U (nx s0 (p, v))) hYx rfl rfl rfl rfl rfl (ft1 rfl) (by rw [hU.refs, hU.keysOk]; rfl) hy (tpre_tail hU (by repeat (first | exact Tail.nil | refine Tail.cons (by first | exact hnt _ rfl | exact hav _ (by decide)) ?_))) rfl ?_
    refine DR.pp rfl rfl (Does.not rfl rfl) rfl (DR.pp rfl rfl (Does.pick rfl rfl rfl) rfl ?_)
    refine DR.nlS (by kernel_rfl) ?_
    refine LC.condT rfl (LC.ret ?_)
    refine all_end hU ?_ ?_ (hU.sub _ _)
    · exact (aget_yield hU (hav 1001 (by decide)) _).trans (by rw [ndV_fork]; rfl)
    · exact (aget_yield hU (hav 1002 (by decide)) _).trans rfl
  all_goals
    refine LC.loop (α := Nat × σ) (fun x => [(1, .p 1001 0), (2, .p 1002 0), (3, .p 1003 0), (52, .a (kdC ks)), (53, .k (.int .i64 ((x.1 : Nat) : Int)))]) (fun x => bxF ks v p ++ U x.2) (fun x => x.1 ≤ 16 ∧ runI go nx s1 (firstP ks p x.1) = (x.2, true)) (fun x => 16 - x.1) (0, s1) ⟨by omega, rfl⟩ ⟨(by repeat (first | exact True.intro | refine And.intro rfl ?_)), ⟨rfl, rfl, rfl, hU.sub s1 [] |> fun h => SubM.skip (SubM.skip (SubM.skip (by rwa [List.append_nil] at h) (hav1 1002 (by decide))) (hav1 1001 (by decide))) (hav1 1003 (by decide))⟩, weak_r hU (by simp only [refsE, V.refs, kd_refs]; rfl) (bxF_refs _ _ _ _ (some_app_r (A := bxF ks v p) _ hy1)) (by refine all_c rfl (all_c rfl (all_c rfl ?_)); exact all_u hU _ _ _)⟩ ?_
    rintro ⟨i, s⟩ ⟨hi, hs⟩
    dsimp only at hi hs ⊢
    have hav2 : ∀ i ∈ [1001, 1002, 1003, 1998, 1011, 1012], aget (U s) i = none := fun i hi => hU.none_ (hav1 i hi)
    have hnt2 : ∀ i, Nat.blt i 1000 = true → aget (U s) i = none := fun i h => hU.small h
    have hy2 := hU.some_ (s' := s) hy1
    clear hnt
    have hnt := hnt2
    show LC _ _ _ _ _ _ ((1003, .b [.y 1999]) :: (1001, .b [.i 73 (.a (fkC ks v))]) :: (1002, .b [bV (pB p)]) :: U s)
    rcases Nat.lt_or_ge i 16 with h | h
    · have ld3 := @kd_get ks ⟨i, h⟩
      have hkd := kd_len ks
      have hpl := pB_len p
      obtain ⟨r, hr⟩ := firstP_split ks p (i := i + 1) h
      rw [firstP_succ ks p h, List.append_assoc] at hr
      have hk1 := hok1
      rw [hr] at hk1
      have hk1 := (okI_app hk1).2 (by rw [hs])
      rw [hs] at hk1
      have hok2 := (okI_app hk1).1
      have hrun : runI go nx s1 (firstP ks p 16) = runI go nx s (pairs (ks ⟨i, h⟩) (p ++ [⟨i, h⟩]) ++ r) := by
        rw [hr, runI_app, hs]; rfl
      rw [runI_app] at hrun
      have hsu : runI go nx s1 (firstP ks p (i + 1)) = runI go nx s (pairs (ks ⟨i, h⟩) (p ++ [⟨i, h⟩])) := by
        rw [firstP_succ ks p h, runI_app, hs]; rfl
      have hb : bV (pB (p ++ [⟨i, h⟩])) = .s none (List.map bK (pB p) ++ [.k (.int .u8 ((i : Nat) : Int))]) := by
        rw [pB_app]
        show V.s none ((pB p ++ [UInt8.ofNat i]).map bK) = _
        rw [List.map_append]
        show V.s none ((pB p).map bK ++ [.k (.int .u8 ((UInt8.ofNat (⟨i, h⟩ : Fin 16).val).toNat : Int))]) = _
        rw [half_byte]
      have c2 := all_ (ks ⟨i, h⟩) (p ++ [⟨i, h⟩])
      rw [hb] at c2
      have hik := ih ⟨i, h⟩
      generalize p ++ [⟨i, h⟩] = p2 at *
      generalize ks ⟨i, h⟩ = kid at *
      refine wk ?_ trueW trueW
      refine DR.cm rfl rfl (Does.callM c2 rfl rfl (ft1 (by simp only [V.cv, V.cv.go, cond_false, hcv])) (by simp only [V.refs.go, nd_refs]; rfl)) (And.intro (hav2 1011 (by decide)) (And.intro (hav2 1012 (by decide)) True.intro)) rfl ?_
      refine DR.nl rfl (LC.block ?_)
      refine LC.weak (env' := [(1, .p 1001 0), (2, .p 1002 0), (3, .p 1003 0), (52, .a (kdC ks)), (53, .k (.int .i64 ((i : Nat) : Int))), (64, .f (.func 34) [] [.p 1011 0, .p 1012 0])]) (mem' := (bxA 1011 1012 kid p2 ++ bxF ks v p) ++ U s) ⟨(by repeat (first | exact True.intro | refine And.intro rfl ?_)), ⟨rfl, rfl, rfl, rfl, rfl, by repeat (first | exact Tail.sub hU .nil | refine SubM.skip ?_ (by first | exact hnt2 _ rfl | exact hav2 _ (by decide)))⟩, weak_r hU (by simp only [refsE, V.refs, V.refs.go, kd_refs]; rfl) (refsM_app (bxA_refs _ _ _ _ _) (bxF_refs _ _ _ _ (some_app_r (A := bxA 1011 1012 kid p2 ++ bxF ks v p) _ hy2))) (by repeat (first | exact all_u hU _ _ _ | refine all_c rfl ?_ | refine all_a (all_u hU _ _ _) ?_ | refine all_a rfl ?_))⟩ ?_
      have hsub : ∀ (s' : σ) j, (aget (bxF ks v p ++ U s') j).isSome = true → (aget ((bxA 1011 1012 kid p2 ++ bxF ks v p) ++ U s) j).isSome = true := fun s' j hj => by
        rw [List.append_assoc]
        refine some_app_r _ ?_
        rw [aget_append] at hj ⊢
        cases hb2 : aget (bxF ks v p) j with
        | some z => rfl
        | none =>
          rw [hb2] at hj
          simpa using hU.some_ (s := s') (s' := s) (by simpa using hj)
      have hKs : ∀ (s' s'' : σ) (ob ob' : Obj), keysOk ((1998, .o ob) :: (bxF ks v p ++ U s')) ((1998, .o ob') :: (bxF ks v p ++ U s'')) = true := fun s' s'' ob ob' => keysOk_tail hU ((1998, .o ob) :: bxF ks v p) ((1998, .o ob') :: bxF ks v p) s' s'' rfl
      have hit : ∀ lo : LoF, LI Try.prog 34 (.y 1998 :: [.p 1011 0, .p 1012 0]) ((1998, .o (lo .ready none)) :: ((bxA 1011 1012 kid p2 ++ bxF ks v p) ++ U s)) (fun g w => ∀ s x, ok s x → LY Try.prog (g.only ((1998, .o (lo .ready none)) :: (bxF ks v p ++ U s))) w 1998 [bV (pB x.1), bV x.2] ((1998, .o (lo .ready none)) :: (bxF ks v p ++ U s)) fun q m => q = .ret (.k (.bool (go s x))) ∧ m = (1998, .o (endP lo .ret (go s x))) :: (bxF ks v p ++ U (nx s x))) fun q m => q = .ret (.t []) ∧ m = (1998, .o (endP lo .ret (runI go nx s (pairs kid p2)).2)) :: ((bxA 1011 1012 kid p2 ++ bxF ks v p) ++ U (runI go nx s (pairs kid p2)).1) := fun lo => by
        have h2 := hik (σ × Bool) (fun t => ((1998, .o (endP lo .ret t.2)) :: bxF ks v p) ++ U t.1) (ok2 ok) (go2 go) (nx2 go nx) (s, true) 1998 1011 1012 (Ms.ext hU Prod.fst (fun t => (1998, .o (endP lo .ret t.2)) :: bxF ks v p) [1998, 1003, 1001, 1002] (fun _ => rfl) (by decide) (by decide) s (fun k hk => by
            simp only [List.mem_cons, List.not_mem_nil, or_false] at hk
            rcases hk with rfl | rfl | rfl | rfl
            · exact hav2 1998 (by decide)
            · exact hav2 1003 (by decide)
            · exact hav2 1001 (by decide)
            · exact hav2 1002 (by decide)) (fun t => bxF_refs _ _ _ _ (some_app_r (A := (1998, .o (endP lo .ret t.2)) :: bxF ks v p) _ (hU.some_ (s := s) hy2)))) rfl (hav2 1011 (by decide)) (hav2 1012 (by decide)) (by decide) (by decide) (by decide) (okI2 hok2)
        have ord : ∀ (ob : Obj) (T : Mem) j, aget (bxA 1011 1012 kid p2 ++ (((1998, .o ob) :: bxF ks v p) ++ T)) j = aget ((1998, .o ob) :: ((bxA 1011 1012 kid p2 ++ bxF ks v p) ++ T)) j := fun ob T j => by
          simp only [bxA, List.cons_append, List.nil_append, aget_cons]
          by_cases h1 : 1011 = j
          · rw [if_pos h1, if_neg (by omega), if_pos h1]
          · rw [if_neg h1]
            by_cases h2 : 1012 = j
            · rw [if_pos h2, if_neg (by omega), if_neg h1, if_pos h2]
            · rw [if_neg h2, if_neg h1, if_neg h2]
        refine h2.congr (ord _ _) (fun g w hY2 => ?_) fun o m hm => ?_
        · rintro ⟨s', b⟩ x ⟨hb1, hx⟩
          obtain rfl : b = true := hb1
          exact hY2 s' x hx
        · obtain ⟨rfl, rfl⟩ := hm
          rw [run2]
          exact ⟨_, ⟨rfl, rfl⟩, ord _ _⟩
      refine LC.range2 (y := 1998) (m1 := (bxA 1011 1012 kid p2 ++ bxF ks v p) ++ U (runI go nx s (pairs kid p2)).1) [(3, .p 1003 0)] ok (fun x => bV (pB x.1)) (fun x => bV x.2) (fun s => bxF ks v p ++ U s) go nx (runI go nx s (pairs kid p2)).2 .ret .ret (.inr ⟨rfl, rfl⟩) hlm hro rfl rfl rfl (hav2 1998 (by decide)) rfl ⟨rfl, trivial⟩ (fun s ob => rfl) hsub (fun ob => ?_) (fun s => big_tail hU _ s rfl) (fun s x _ ob ob' => hKs _ _ _ _) (fun lo FR hFR s x hx hev => ?_) hit (fun ob ob' => ?_) ?_ (fun hfin => ?_) (fun hfin => ?_)
      · have e1 : refsM ((1998, .o ob) :: ((bxA 1011 1012 kid p2 ++ bxF ks v p) ++ U s)) ((1998, .o ob) :: ((bxA 1011 1012 kid p2 ++ bxF ks v p) ++ U s)) = true := refsM_tail hU ((1998, .o ob) :: (bxA 1011 1012 kid p2 ++ bxF ks v p)) s (refsM_app (bxA_refs _ _ _ _ _) (bxF_refs _ _ _ _ (some_app_r (A := (1998, .o ob) :: (bxA 1011 1012 kid p2 ++ bxF ks v p)) _ hy2)))
        rw [e1]; rfl
      · have hav3 : ∀ i ∈ [1001, 1002, 1003, 1998, 1011, 1012], aget (U s) i = none := fun i hi => hU.none_ (hav2 i hi)
        have hy3 := hU.some_ (s := s1) (s' := s) hy1
        have hnt : ∀ i, Nat.blt i 1000 = true → aget (U s) i = none := fun i h => hU.small h
        have hYx := (hY s x hx).later (hev (U s) fun j hj => some_app_r _ hj)
        clear hit hik hsub hKs
        cases hg : go s x with
        | true =>
          rw [hg] at hYx
          refine wk ?_ trueW trueW
          refine ⟨rfl, ?_⟩
          show LC _ _ _ _ _ _ ((1998, .o (lo .busy none)) :: (1998, .o (lo .ready none)) :: (1003, .b [.y 1999]) :: (1001, .b [.i 73 (.a (fkC ks v))]) :: (1002, .b [bV (pB p)]) :: U s)
          refine wk ?_ trueW trueW
          refine DR.yieldO (mi := U s) (mo := U (nx s x)) hYx rfl rfl rfl rfl rfl (.same _) (by rw [hU.refs, hU.keysOk]; rfl) hy3 (tpre_tail hU (by repeat (first | exact Tail.nil | refine Tail.cons (by first | exact hnt _ rfl | exact hav3 _ (by decide)) ?_))) rfl ?_
          refine DR.pp rfl rfl (Does.not rfl rfl) rfl (DR.nl rfl ?_)
          refine LC.condF rfl (LC.skip ?_)
          refine lblk_n ?_
          exact ⟨(aget_yield hU (hav3 1998 (by decide)) _).trans rfl, (1998, .o (lo .ready none)) :: (bxF ks v p ++ U (nx s x)), ⟨rfl, (aget_yield hU (hav3 1003 (by decide)) _).trans rfl, (aget_yield hU (hav3 1001 (by decide)) _).trans rfl, (aget_yield hU (hav3 1002 (by decide)) _).trans rfl, SubM.skip (hU.sub _ _) (hU.none_ (hav3 1998 (by decide)))⟩, refsM_tail hU ((1998, .o (lo .ready none)) :: bxF ks v p) _ (bxF_refs _ _ _ _ (some_app_r (A := (1998, .o (lo .ready none)) :: bxF ks v p) _ (hU.some_ (s := s) hy3))), rfl, rfl⟩
        | false =>
          rw [hg] at hYx
          refine wk ?_ trueW trueW
          refine ⟨rfl, ?_⟩
          show LC _ _ _ _ _ _ ((1998, .o (lo .busy none)) :: (1998, .o (lo .ready none)) :: (1003, .b [.y 1999]) :: (1001, .b [.i 73 (.a (fkC ks v))]) :: (1002, .b [bV (pB p)]) :: U s)
          refine wk ?_ trueW trueW
          refine DR.yieldO (mi := U s) (mo := U (nx s x)) hYx rfl rfl rfl rfl rfl (.same _) (by rw [hU.refs, hU.keysOk]; rfl) hy3 (tpre_tail hU (by repeat (first | exact Tail.nil | refine Tail.cons (by first | exact hnt _ rfl | exact hav3 _ (by decide)) ?_))) rfl ?_
          refine DR.pp rfl rfl (Does.not rfl rfl) rfl (DR.nl rfl ?_)
          refine LC.condT rfl (LC.ret ?_)
          refine lblk_r ?_
          exact ⟨(aget_yield hU (hav3 1998 (by decide)) _).trans rfl, (1998, .o (lo .done (some .ret))) :: (bxF ks v p ++ U (nx s x)), ⟨rfl, (aget_yield hU (hav3 1003 (by decide)) _).trans rfl, (aget_yield hU (hav3 1001 (by decide)) _).trans rfl, (aget_yield hU (hav3 1002 (by decide)) _).trans rfl, SubM.skip (hU.sub _ _) (hU.none_ (hav3 1998 (by decide)))⟩, refsM_tail hU ((1998, .o (lo .done (some .ret))) :: bxF ks v p) _ (bxF_refs _ _ _ _ (some_app_r (A := (1998, .o (lo .done (some .ret))) :: bxF ks v p) _ (hU.some_ (s := s) hy3))), rfl, rfl⟩
      · exact keysOk_tail hU ((1998, .o ob) :: (bxA 1011 1012 kid p2 ++ bxF ks v p)) ((1998, .o ob') :: (bxA 1011 1012 kid p2 ++ bxF ks v p)) _ _ rfl
      · have e1 : refsM ((1998, .x) :: ((bxA 1011 1012 kid p2 ++ bxF ks v p) ++ U (runI go nx s (pairs kid p2)).1)) ((1998, .x) :: ((bxA 1011 1012 kid p2 ++ bxF ks v p) ++ U (runI go nx s (pairs kid p2)).1)) = true := refsM_tail hU ((1998, .x) :: (bxA 1011 1012 kid p2 ++ bxF ks v p)) _ (refsM_app (bxA_refs _ _ _ _ _) (bxF_refs _ _ _ _ (some_app_r (A := (1998, .x) :: (bxA 1011 1012 kid p2 ++ bxF ks v p)) _ (hU.some_ (s := s) hy2))))
        rw [e1, Bool.and_true]
        simp only [refsE, V.refs, V.refs.go, kd_refs]
        rfl
      · refine LC.weakK (env' := [(1, .p 1001 0), (2, .p 1002 0), (3, .p 1003 0), (52, .a (kdC ks)), (53, .k (.int .i64 ((i : Nat) : Int)))]) (mem' := bxF ks v p ++ U (runI go nx s (pairs kid p2)).1) (by repeat (first | exact True.intro | refine And.intro rfl ?_)) ⟨rfl, rfl, rfl, (by repeat (first | exact Tail.sub hU .nil | refine SubM.skip ?_ (hU.none_ (hav2 _ (by decide)))))⟩ (by simp only [refsE, V.refs, kd_refs]; rfl) (refsM_tail hU _ _ (bxF_refs _ _ _ _ (some_app_r (A := bxF ks v p) _ (hU.some_ (s := s) hy2)))) (fun j hj => hkF j ?_) ?_
        · rw [aget_append] at hj ⊢
          have e1 : aget (bxF ks v p) j = none := by
            cases h : aget (bxF ks v p) j with
            | none => rfl
            | some z => rw [h] at hj; cases hj
          rw [e1] at hj
          have e2 : aget (bxA 1001 1002 (.fork ks v) p) j = none := by
            simp only [bxF, bxA, aget_cons] at e1 ⊢
            by_cases h1 : 1003 = j
            · rw [if_pos h1] at e1; cases e1
            · rw [if_neg h1] at e1
              by_cases h2 : 1001 = j
              · rw [if_pos h2] at e1; cases e1
              · rw [if_neg h2] at e1 ⊢
                by_cases h3 : 1002 = j
                · rw [if_pos h3] at e1; cases e1
                · rw [if_neg h3]; rfl
          rw [e2]
          exact hU.none_ (s := (runI go nx s (pairs kid p2)).1) (by simpa using hj)
        show LC _ _ _ _ _ _ ((1003, .b [.y 1999]) :: (1001, .b [.i 73 (.a (fkC ks v))]) :: (1002, .b [bV (pB p)]) :: U (runI go nx s (pairs kid p2)).1)
        refine wk ?_ trueW trueW
        refine ⟨(i + 1, (runI go nx s (pairs kid p2)).1), ⟨h, ?_⟩, ?_, ⟨(by repeat (first | exact True.intro | refine And.intro rfl ?_)), ⟨rfl, rfl, rfl, (by repeat (first | exact Tail.sub hU .nil | refine SubM.skip ?_ (hU.none_ (hav2 _ (by decide)))))⟩, weak_r hU (by simp only [refsE, V.refs, kd_refs]; rfl) (bxF_refs _ _ _ _ (some_app_r (A := bxF ks v p) _ (hU.some_ (s := s) hy2))) (by repeat (first | exact all_u hU _ _ _ | refine all_c rfl ?_))⟩⟩
        · rw [hsu]
          show runI go nx s (pairs kid p2) = ((runI go nx s (pairs kid p2)).1, true)
          rw [← hfin]
        · show 16 - (i + 1) < 16 - i
          omega
      · have e : runI go nx s1 (firstP ks p 16) = runI go nx s (pairs kid p2) := by rw [hrun, hfin]; rfl
        rw [e]
        refine all_end hU ?_ rfl ?_
        · rw [ndV_fork]; rfl
        · exact (by repeat (first | exact Tail.sub hU .nil | refine SubM.skip ?_ (hU.none_ (hav2 _ (by decide)))))
    · obtain rfl : i = 16 := by omega
      rw [hs]
      refine wk ?_ trueW trueW
      refine all_end hU ?_ rfl ?_
      · rw [ndV_fork]; rfl
      · exact SubM.skip (SubM.skip (SubM.skip (Tail.sub hU .nil) (hav2 1002 (by decide))) (hav2 1001 (by decide))) (hav2 1003 (by decide))
end Te
end Lf
end Go.Proofs.Ytefidcaaiimkeaa

/- Package tree: all, of every right tree; Pairs. -/
namespace Go.Proofs.Ytefidcaaiimkeaa
open Go.RowKit Rg Wm Ar
set_option linter.unusedVariables false
set_option maxRecDepth 100000
namespace Lf
open Tr
theorem LM.enterRR {P : Program} (X : TOk P) {f N : Nat} {fn : Func} {c : Code} {args : List V} {rs : List ResultVar} {mi : Mem} {R : Out → Mem → Prop} (hf : P.funcs[f]? = some fn) (hb : fn.body = some c) (hN : fn.ntmps = N) (hrs : fn.results = rs.toArray) (hok : callOk P f = true)
    (hle : Nat.ble args.length N = true) (hrl : Nat.ble rs.length 3 = true) (hbig : (mi.all fun x => Nat.ble 1000 x.1) = true) (hks : ∀ o mo, R o mo → keysOk mi mo = true) (h : ∀ F, F.D = [] → F.ro = none → F.lm = true → (∀ i, aget mi i = none → F.bx0 i = none ∧ F.rw0 i = none) → LC P F N c (LRet X rs R) (params 0 args) mi) : LM P f args mi R :=
  ⟨hok, fun _ _ _ hm hl hr => enter_core X hf hb hN hrs hle hrl hbig hks hm hl hr true (h _ rfl rfl rfl fun i hi => ⟨hm.nbx i hi, hm.nrw i hi⟩)⟩
theorem allC : ∀ (n : Nd) (p : Pa), Right n p.length → AllC n p := by
  intro n
  induction n with
  | no => intro p _; exact (Te.allT_no p).gen
  | leaf q v =>
    intro p h
    have := right_le h (by intro e; cases e)
    exact (Te.allT_leaf p q v (by have h2 : p.length + q.length ≤ 64 := this; omega)).gen
  | road q k ih =>
    intro p h
    have := right_le h (by intro e; cases e)
    refine (Te.allT_road p q k (by have h2 : p.length + q.length ≤ 64 := this; omega) (ih (p ++ q) ?_)).gen
    rw [List.length_append]; exact h.2.2
  | fork ks v ih =>
    intro p h
    have := right_le h (by intro e; cases e)
    refine (Te.allT_fork p ks v (by have h2 : p.length + 0 ≤ 64 := this; omega) fun i => ih i (p ++ [i]) ?_).gen
    rw [List.length_append]; exact h.2.2.1 i
/-- Other numbers for the call's own boxes and rows. -/
theorem LC.renK {P : Program} {F : Fr0} {N : Nat} {Q : LQ} {env env' : Env} {mem mem' : Mem} {c : Code} (ks is : List Nat) (hk : ks.Nodup) (hi : is.Nodup) (hl : ks.length = is.length)
    (hfr : ∀ i, i ∈ ks ∨ i ∈ is → F.bx0 i = none ∧ F.rw0 i = none) (hren : ∀ ρ : Pm, ks.map ρ.f = is → (∀ i, i ∉ ks → i ∉ is → ρ.f i = i) → Mem.ren ρ.f mem' = mem ∧ ∀ t v, aget env' t = some v → aget env t = some (v.ren ρ.f)) (h : LC P F N c Q env' mem') : LC P F N c Q env mem := by
  obtain ⟨ρ, hρ, hfix⟩ := exists_pmf ks is hk hi hl
  obtain ⟨h1, h2⟩ := hren ρ hρ hfix
  have hcl : ∀ i, i ∈ ks ∨ i ∈ is → ρ.f i ∈ ks ∨ ρ.f i ∈ is := fun i hi => Classical.byContradiction fun hn => by
    have hn1 : ρ.f i ∉ ks := fun e => hn (.inl e)
    have hn2 : ρ.f i ∉ is := fun e => hn (.inr e)
    have := ρ.inj (hfix _ hn1 hn2)
    rcases hi with hi | hi
    · exact hn1 (by rw [this]; exact hi)
    · exact hn2 (by rw [this]; exact hi)
  have hsame : ∀ i, F.bx0 (ρ.f i) = F.bx0 i ∧ F.rw0 (ρ.f i) = F.rw0 i := fun i => by
    by_cases hm : i ∈ ks ∨ i ∈ is
    · obtain ⟨a1, a2⟩ := hfr i hm
      obtain ⟨b1, b2⟩ := hfr _ (hcl i hm)
      rw [a1, a2, b1, b2]; exact ⟨rfl, rfl⟩
    · rw [hfix i (fun e => hm (.inl e)) (fun e => hm (.inr e))]; exact ⟨rfl, rfl⟩
  refine ⟨fun F0 hx g a w hr => h.go F0 hx (g.pull ρ.f) a w ?_⟩
  have hp : F0.pull ρ.f = F0 := by
    unfold Fr0.pull
    have e1 : (fun i => F0.bx0 (ρ.f i)) = F0.bx0 := funext fun i => by rw [hx.bx]; exact (hsame i).1
    have e2 : (fun i => F0.rw0 (ρ.f i)) = F0.rw0 := funext fun i => by rw [hx.rw]; exact (hsame i).2
    rw [e1, e2]
  have hm := relM_pull ρ (F := F0) (g := g) (mem := mem') (w := w) (by rw [h1]; exact hr.mem)
  rw [hp] at hm
  refine ⟨fun t v hv => ?_, hm, ⟨hr.kept.os, hr.kept.tape, hr.kept.output, hr.kept.size, hr.kept.blk, hr.kept.cell, hr.kept.S1, hr.kept.S2, hr.kept.cellS⟩, hr.defers, hr.size, hr.big⟩
  obtain ⟨x, e1, e2⟩ := hr.env t _ (h2 t v hv)
  exact ⟨x, e1, rep_pull ρ e2⟩
theorem aget_renE (ρ : Nat → Nat) : ∀ (l : Env) {t : Nat} {v : V}, aget l t = some v → aget (l.map fun x => (x.1, x.2.ren ρ)) t = some (v.ren ρ)
  | [], _, _, h => by cases h
  | (a, x) :: l, t, v, h => by
    rw [List.map_cons, aget_cons]
    rw [aget_cons] at h
    split at h
    · rename_i e; rw [if_pos e]; cases h; rfl
    · rename_i e; rw [if_neg e]; exact aget_renE ρ l h
theorem get_ends : ∀ {n : Nd} {d : Nat}, Right n d → ∀ q, Tr.get n q ≠ [] → ends (d + q.length)
  | .no, _, _, q, hg => absurd rfl hg
  | .leaf p v, _, h, q, hg => by rw [leaf_one hg]; exact h.1
  | .road p k, d, h, q, hg => by
    obtain ⟨r, rfl, h2⟩ := get_road_in hg
    have := get_ends h.2.2 r h2
    rw [List.length_append, ← Nat.add_assoc]; exact this
  | .fork ks v, d, h, [], hg => h.2.1 hg
  | .fork ks v, d, h, x :: q, hg => by
    have := get_ends (h.2.2.1 x) q hg
    rw [List.length_cons, show d + (q.length + 1) = d + 1 + q.length by omega]; exact this
/-! ### How many pairs there are -/
theorem pairs_size : ∀ (n : Nat) (x : Rn) (p : Pa), x.size ≤ n → (pairs (toN x) p).length ≤ x.size := by
  intro n
  induction n with
  | zero => intro x p hx; obtain ⟨k, q, v, ks⟩ := x; rw [size_eq] at hx; omega
  | succ n ih =>
    intro x p hx
    obtain ⟨k, q, v, ks⟩ := x
    rw [size_eq] at hx ⊢
    rw [toN_eq]
    have kid : ∀ i p, (pairs (toN (ks.getD i default)) p).length ≤ (ks.getD i default).size := fun i p => by
      rcases Nat.lt_or_ge i ks.length with h | h
      · exact ih _ p (by have := sizeL_get h; omega)
      · rw [List.getD_eq_getElem?_getD, List.getElem?_eq_none h, Option.getD_none, toN_default]
        exact Nat.zero_le _
    by_cases h1 : k = 1
    · rw [if_pos h1]; show 1 ≤ _; omega
    rw [if_neg h1]
    by_cases h2 : k = 2
    · rw [if_pos h2]
      show (pairs (toN (ks.getD 0 default)) _).length ≤ _
      have h3 := kid 0 (p ++ pOf q)
      rcases Nat.lt_or_ge 0 ks.length with h | h
      · have := sizeL_get h; omega
      · rw [List.getD_eq_getElem?_getD, List.getElem?_eq_none h, Option.getD_none, toN_default]
        exact Nat.zero_le _
    rw [if_neg h2]
    by_cases h3 : k = 3
    · rw [if_pos h3]
      show ((if v = [] then [] else [(p, v)]) ++ (List.finRange 16).flatMap fun i => pairs (toN (ks.getD i.val default)) (p ++ [i])).length ≤ _
      have hv : (if v = [] then [] else [(p, v)] : List Al).length ≤ v.length := by
        by_cases h : v = []
        · rw [if_pos h]; exact Nat.zero_le _
        · rw [if_neg h]; exact List.length_pos_iff.2 h
      have app : ∀ (a b : List Rn), Rn.sizeL (a ++ b) = Rn.sizeL a + Rn.sizeL b := by
        intro a b
        induction a with
        | nil => simp [Rn.sizeL]
        | cons k r ih => simp only [List.cons_append, Rn.sizeL, ih]; omega
      have hsum : ∀ m, m ≤ 16 → (((List.finRange 16).take m).flatMap fun i => pairs (toN (ks.getD i.val default)) (p ++ [i])).length ≤ Rn.sizeL (ks.take m) := by
        intro m hm
        induction m with
        | zero => simp
        | succ m ihm =>
          rw [List.take_succ_eq_append_getElem (by rw [List.length_finRange]; exact hm), List.flatMap_append, List.length_append, List.getElem_finRange]
          have h5 := ihm (by omega)
          have h6 := kid m (p ++ [⟨m, hm⟩])
          simp only [List.flatMap_cons, List.flatMap_nil, List.append_nil]
          have h7 : Rn.sizeL (ks.take (m + 1)) = Rn.sizeL (ks.take m) + (if m < ks.length then (ks.getD m default).size + 1 else 0) := by
            rcases Nat.lt_or_ge m ks.length with h | h
            · rw [if_pos h, List.take_succ_eq_append_getElem h, app, List.getD_eq_getElem?_getD, List.getElem?_eq_getElem h]
              simp [Rn.sizeL]
            · rw [if_neg (by omega), List.take_of_length_le (by omega), List.take_of_length_le h, Nat.add_zero]
          rw [h7]
          rcases Nat.lt_or_ge m ks.length with h | h
          · rw [if_pos h]
            have h8 : (pairs (toN (ks.getD (Fin.cast List.length_finRange.symm.symm ⟨m, by rw [List.length_finRange]; exact hm⟩).val default)) (p ++ [Fin.cast List.length_finRange.symm.symm ⟨m, by rw [List.length_finRange]; exact hm⟩])).length ≤ (ks.getD m default).size := h6
            omega
          · rw [if_neg (by omega)]
            have h8 : (pairs (toN (ks.getD (Fin.cast List.length_finRange.symm.symm ⟨m, by rw [List.length_finRange]; exact hm⟩).val default)) (p ++ [Fin.cast List.length_finRange.symm.symm ⟨m, by rw [List.length_finRange]; exact hm⟩])).length = 0 := by
              show (pairs (toN (ks.getD m default)) _).length = 0
              rw [List.getD_eq_getElem?_getD, List.getElem?_eq_none h, Option.getD_none, toN_default]; rfl
            omega
      have h9 := hsum 16 (Nat.le_refl _)
      rw [List.take_of_length_le (by rw [List.length_finRange]; exact Nat.le_refl 16)] at h9
      have h10 := app (ks.take 16) (ks.drop 16)
      rw [List.take_append_drop] at h10
      rw [List.length_append]
      omega
    · rw [if_neg h3]; exact Nat.zero_le _
/-! ### Pairs -/
def pkB (x : Al) : Pr := (keyB x.1, x.2)
def memP (S : List Pr) : Mem := [(1004, .b [.s (some 1090) (S.map prV)]), (1090, .r 42 2 S.length)]
theorem memP_ms : Ms memP := ⟨fun _ _ => rfl, fun _ => by simp [memP], fun _ => rfl, fun _ => rfl⟩
def okP (S : List Pr) (x : Al) : Prop := S.length < 100000000 ∧ x.1.length % 2 = 0 ∧ x.1.length ≤ 64 ∧ x.2.length ≤ 1024
def nxP (S : List Pr) (x : Al) : List Pr := S ++ [pkB x]
def goP (_ : List Pr) (_ : Al) : Bool := true
theorem runP : ∀ (l : List Al) (S : List Pr), runI goP nxP S l = (S ++ l.map pkB, true)
  | [], S => by simp [runI]
  | x :: l, S => by
    show cond true (runI goP nxP (nxP S x) l) _ = _
    rw [cond_true, runP l]
    simp [nxP]
theorem okIP : ∀ (l : List Al) (S : List Pr), (∀ x ∈ l, x.1.length % 2 = 0 ∧ x.1.length ≤ 64 ∧ x.2.length ≤ 1024) → S.length + l.length < 100000000 → okI okP goP nxP S l
  | [], _, _, _ => trivial
  | x :: l, S, h, hl => by
    simp only [List.length_cons] at hl
    exact ⟨⟨by omega, h x (by simp)⟩, fun _ => okIP l _ (fun y hy => h y (by simp [hy])) (by simp [nxP]; omega)⟩
def pairsOf (n : Nd) : List Pr := (pairs n []).map pkB
namespace Te
set_option maxHeartbeats 8000000 in
theorem Pairs_no (x : Rn) (hx : x.size < 1000000000) (hr : rt x 0 = false) : LM Try.prog 10 [rnV x] [] fun o m => o = .ret (.t [prsV [], erV 1]) ∧ m = [] := by
  have c1 := Right_ x hx
  rw [hr] at c1
  have hk4 := rnC_len x
  have hrf := tr_refs
  refine LM.enterRR tt Try.func10 rfl rfl rfl (by kernel_rfl) rfl rfl rfl (fun o mo h => by rw [h.2]; rfl) fun F hD hro hlm hkF => ?_
  exact wk trueW trueW trueW
set_option maxHeartbeats 8000000 in
theorem Pairs_ok (x : Rn) (hx : x.size < 50000000) (hr : rt x 0 = true) : LM Try.prog 10 [rnV x] [] fun o m => o = .ret (.t [prsV (pairsOf (toN x)), erV 0]) ∧ m = [] := by
  have c1 := Right_ x (by omega)
  rw [hr] at c1
  have hR := rt_right x.size x 0 (Nat.le_refl _) hr
  have hk4 := rnC_len x
  have hrf := tr_refs
  have hcv := tr_cv
  have c2 := inner_ x.size x 0 (Nat.le_refl _) (by omega) hr
  have c3 := all_ (toN x) []
  have hsz := pairs_size x.size x [] (Nat.le_refl _)
  have hok : okI okP goP nxP [] (pairs (toN x) []) := okIP _ _ (fun y hy => by
    obtain ⟨q, w⟩ := y
    obtain ⟨r, hq, h1, h2⟩ := (mem_pairs (toN x) [] 0 hR q w).1 hy
    have hq : q = r := hq
    rw [← hq] at h1
    have h3 := get_ends hR q (by rw [h1]; exact h2)
    have h4 := get_len hR q
    rw [h1] at h4
    rw [Nat.zero_add] at h3
    exact ⟨h3.1, h3.2, h4⟩) (by simp; omega)
  refine LM.enterRR tt Try.func10 rfl rfl rfl (by kernel_rfl) rfl rfl rfl (fun o mo h => by rw [h.2]; rfl) fun F hD hro hlm hkF => ?_
  have hal := allC (toN x) [] hR
  have hrp := runP (pairs (toN x) []) []
  refine wk ?_ trueW trueW
  refine LC.weak (env' := [(14, .f (.func 34) [] [.p 1011 0, .p 1012 0]), (4, .p 4 0)]) (mem' := bxA 1011 1012 (toN x) [] ++ [(4, .b [.nil])]) ⟨(by repeat (first | exact True.intro | refine And.intro rfl ?_)), (by repeat (first | exact True.intro | refine And.intro rfl ?_)), ?_⟩ ?_
  · have e1 := bxA_refs 1011 1012 (toN x) [] (bxA 1011 1012 (toN x) [] ++ [(4, .b [.nil])])
    rw [refsM_app e1 rfl]
    rfl
  refine LC.nilcell 4 0 1090 42 2 rfl rfl rfl (by decide) rfl ?_
  refine LC.weak (env' := [(14, .f (.func 34) [] [.p 1011 0, .p 1012 0]), (4, .p 4 0)]) (mem' := bxA 1011 1012 (toN x) [] ++ [(4, .b [.s (some 1090) []]), (1090, .r 42 2 0)]) ⟨(by repeat (first | exact True.intro | refine And.intro rfl ?_)), (by repeat (first | exact True.intro | refine And.intro rfl ?_)), ?_⟩ ?_
  · have e1 := bxA_refs 1011 1012 (toN x) [] (bxA 1011 1012 (toN x) [] ++ [(4, .b [.s (some 1090) []]), (1090, .r 42 2 0)])
    rw [refsM_app e1 rfl]
    rfl
  refine LC.renK (env' := [(14, .f (.func 34) [] [.p 1011 0, .p 1012 0]), (4, .p 1004 0)]) (mem' := bxA 1011 1012 (toN x) [] ++ memP []) [1004] [4] (by decide) (by decide) rfl (fun i _ => hkF i rfl) (fun ρ hρ hfix => ?_) ?_
  · simp only [List.map_cons, List.map_nil, List.cons.injEq, and_true] at hρ
    have f1 := hfix 1011 (by decide) (by decide)
    have f2 := hfix 1012 (by decide) (by decide)
    have f3 := hfix 1090 (by decide) (by decide)
    refine ⟨?_, fun t v hv => ?_⟩
    · simp only [Mem.ren, bxA, memP, List.cons_append, List.nil_append, List.map_cons, List.map_nil, M.ren, V.ren, nd_ren, hρ, f1, f2, f3]
      rfl
    · have h3 := aget_renE ρ.f _ hv
      simp only [List.map_cons, List.map_nil, V.ren, V.ren.go, hρ, f1, f2] at h3
      exact h3
  have hU : Ms (fun S => ((1999, .x) : Nat × M) :: memP S) := ⟨fun _ _ => rfl, fun _ => by simp [memP], fun _ => rfl, fun _ => rfl⟩
  refine LC.range2 (y := 1999) (m1 := bxA 1011 1012 (toN x) [] ++ memP (pairsOf (toN x))) [(4, .p 1004 0)] okP (fun x => bV (pB x.1)) (fun x => bV x.2) memP goP nxP true (.exit 0) (.exit 0) (.inl ⟨0, rfl, rfl⟩) hlm hro rfl rfl rfl rfl rfl ⟨rfl, trivial⟩ (fun s ob => rfl) (fun s i hi => ?_) (fun ob => ?_) (fun s => rfl) (fun s x _ ob ob' => rfl) (fun lo FR hFR s x hx hev => ?_) (fun lo => ?_) (fun ob ob' => rfl) ?_ (fun _ => ?_) (fun hfin => by cases hfin)
  · rw [aget_mem_keys] at hi ⊢
    rw [List.map_append]
    exact List.mem_append_right _ hi
  · have e1 : refsM ((1999, .o ob) :: (bxA 1011 1012 (toN x) [] ++ memP [])) ((1999, .o ob) :: (bxA 1011 1012 (toN x) [] ++ memP [])) = true := refsM_app (A := bxA 1011 1012 (toN x) []) (bxA_refs _ _ _ _ _) rfl
    rw [e1]; rfl
  · obtain ⟨h1, h2, h3, h4⟩ := hx
    have c4 := Join_ x.1 (by omega) h2
    have c5 := own_ x.2 (by omega)
    have hcl : ∀ e ∈ s.map prV, e.cells.length = 2 := fun e he => by
      obtain ⟨z, _, rfl⟩ := List.mem_map.1 he
      exact prC_len z
    clear hal hok c1 c2 c3
    refine wk ?_ trueW trueW
    refine ⟨rfl, ?_⟩
    show LC _ _ _ _ _ _ ((1999, .o (lo .busy none)) :: (1999, .o (lo .ready none)) :: (1004, .b [.s (some 1090) (s.map prV)]) :: (1090, .r 42 2 s.length) :: [])
    have e : s.map prV ++ [V.a [bV (keyB x.1), bV x.2]] = (nxP s x).map prV := by
      simp only [nxP, List.map_append, List.map_cons, List.map_nil, prV, prC_eq, pkB]
    have el : (s.map prV ++ [V.a [bV (keyB x.1), bV x.2]]).length = (nxP s x).length := by rw [e, List.length_map]
    refine wk ?_ trueW trueW
    refine ⟨rfl, (1999, .o (lo .ready none)) :: memP (nxP s x), ⟨rfl, ?_, ?_, trivial⟩, rfl, rfl, rfl⟩
    · rw [← e]; rfl
    · rw [← el]; rfl
  · have hi := hal (List Pr) (fun S => (1999, .o (lo .ready none)) :: memP S) okP goP nxP [] 1999 1011 1012 ⟨fun _ _ => rfl, fun _ => by simp [memP], fun _ => rfl, fun _ => rfl⟩ rfl rfl rfl (by decide) (by decide) (by decide) hok
    have ord : ∀ (ob : Obj) (T : Mem) j, aget (bxA 1011 1012 (toN x) [] ++ ((1999, .o ob) :: T)) j = aget ((1999, .o ob) :: (bxA 1011 1012 (toN x) [] ++ T)) j := fun ob T j => by
      simp only [bxA, List.cons_append, List.nil_append, aget_cons]
      by_cases h1 : 1011 = j
      · rw [if_pos h1, if_neg (by omega), if_pos h1]
      · rw [if_neg h1]
        by_cases h2 : 1012 = j
        · rw [if_pos h2, if_neg (by omega), if_neg h1, if_pos h2]
        · rw [if_neg h2, if_neg h1, if_neg h2]
    refine hi.congr (ord _ _) (fun g w hY s x hx => hY s x hx) fun o m hm => ?_
    obtain ⟨rfl, rfl⟩ := hm
    rw [hrp]
    exact ⟨_, ⟨rfl, rfl⟩, ord _ _⟩
  · have e1 : refsM ((1999, .x) :: (bxA 1011 1012 (toN x) [] ++ memP (pairsOf (toN x)))) ((1999, .x) :: (bxA 1011 1012 (toN x) [] ++ memP (pairsOf (toN x)))) = true := refsM_app (A := bxA 1011 1012 (toN x) []) (bxA_refs _ _ _ _ _) rfl
    rw [e1]; rfl
  · show LC _ _ _ _ _ _ _
    exact wk trueW trueW trueW
end Te
end Lf
end Go.Proofs.Ytefidcaaiimkeaa

/- What the given statement tells of an argument: a lifted value by a datum of one's own, and a bound of its bulk. -/
namespace Go.Proofs.Ytefidcaaiimkeaa
open Go.RowKit Rg Rp Go.WideShapes Go.ChangeShapes
namespace Lf
/-- Cells and what they read. -/
def RO (W : World) : List V → List Value → Prop
  | [], [] => True
  | u :: us, c :: cs => (u.one = true ∧ Rep W allS u c) ∧ RO W us cs
  | _, _ => False
theorem RO.append {W : World} : ∀ {us : List V} {cs : List Value} {vs : List V} {ds : List Value}, RO W us cs → RO W vs ds → RO W (us ++ vs) (cs ++ ds)
  | [], [], _, _, _, h => h
  | _u :: _us, _c :: _cs, _, _, h, k => ⟨h.1, RO.append h.2 k⟩
  | [], _ :: _, _, _, h, _ => h.elim
  | _ :: _, [], _, _, h, _ => h.elim
theorem RO.spec {W : World} : ∀ {us : List V} {cs : List Value}, RO W us cs → us.length = cs.length ∧ ∀ (j : Nat) u c, us[j]? = some u → cs[j]? = some c → u.one = true ∧ Rep W allS u c
  | [], [], _ => ⟨rfl, fun j u c h => by simp at h⟩
  | u :: us, c :: cs, h => by
    obtain ⟨h1, h2⟩ := RO.spec h.2
    refine ⟨by simp [h1], fun j a b ha hb => ?_⟩
    cases j with
    | zero => simp at ha hb; subst ha; subst hb; exact h.1
    | succ j => simp at ha hb; exact h2 j a b ha hb
  | [], _ :: _, h => h.elim
  | _ :: _, [], h => h.elim
theorem RO.flatten {W : World} : ∀ {uss : List (List V)} {css : List (List Value)}, uss.length = css.length → (∀ (j : Nat) us cs, uss[j]? = some us → css[j]? = some cs → RO W us cs) → RO W uss.flatten css.flatten
  | [], [], _, _ => trivial
  | us :: uss, cs :: css, hl, h => by
    rw [List.flatten_cons, List.flatten_cons]
    exact (h 0 us cs rfl rfl).append (RO.flatten (by simpa using hl) fun j a b ha hb => h (j + 1) a b (by simpa using ha) (by simpa using hb))
  | [], _ :: _, hl, _ => by simp at hl
  | _ :: _, [], hl, _ => by simp at hl
theorem mapM_some {α β : Type} {f : α → Option β} : ∀ {l : List α} {r : List β}, l.mapM f = some r → r.length = l.length ∧ ∀ (j : Nat) a, l[j]? = some a → ∃ b, r[j]? = some b ∧ f a = some b
  | [], r, h => by simp at h; subst h; simp
  | a :: l, r, h => by
    simp only [List.mapM_cons, Option.bind_eq_bind, Option.pure_def] at h
    obtain ⟨b, hb, h⟩ := Option.bind_eq_some_iff.1 h
    obtain ⟨bs, hbs, h⟩ := Option.bind_eq_some_iff.1 h
    cases h
    obtain ⟨h1, h2⟩ := mapM_some hbs
    refine ⟨by simp [h1], fun j x hj => ?_⟩
    cases j with
    | zero => simp at hj; subst hj; exact ⟨b, rfl, hb⟩
    | succ j => simp at hj; exact h2 j x hj
theorem list_choose {α : Type} {p : Nat → α → Prop} : ∀ (n : Nat), (∀ j, j < n → ∃ x, p j x) → ∃ xs : List α, xs.length = n ∧ ∀ j x, xs[j]? = some x → p j x
  | 0, _ => ⟨[], rfl, by simp⟩
  | n + 1, h => by
    obtain ⟨xs, hl, hx⟩ := list_choose n fun j hj => h j (by omega)
    obtain ⟨x, hp⟩ := h n (by omega)
    refine ⟨xs ++ [x], by simp [hl], fun j y hj => ?_⟩
    rcases Nat.lt_or_ge j xs.length with hlt | hge
    · rw [List.getElem?_append_left hlt] at hj; exact hx j y hj
    · rw [List.getElem?_append_right hge] at hj
      have : j - xs.length = 0 := by
        rcases Nat.eq_zero_or_pos (j - xs.length) with h0 | h0
        · exact h0
        · rw [List.getElem?_eq_none (by simp; omega)] at hj; cases hj
      rw [this] at hj
      simp at hj; subst hj
      obtain rfl : j = n := by omega
      exact hp
theorem range_flatten {s : Nat} : ∀ {n : Nat} {cs : List Value}, cs.length = n * s → ((List.range n).map fun i => (cs.drop (i * s)).take s).flatten = cs
  | 0, cs, h => by simp at h; subst h; rfl
  | n + 1, cs, h => by
    rw [List.range_succ_eq_map, List.map_cons, List.flatten_cons, List.map_map, Nat.zero_mul, List.drop_zero]
    have e := range_flatten (s := s) (n := n) (cs := cs.drop s) (by rw [List.length_drop, h, Nat.succ_mul]; omega)
    have e2 : ((List.range n).map ((fun i => (cs.drop (i * s)).take s) ∘ Nat.succ)) = (List.range n).map fun i => ((cs.drop s).drop (i * s)).take s := by
      refine List.map_congr_left fun i _ => ?_
      simp only [Function.comp, List.drop_drop, Nat.succ_mul]
      rw [Nat.add_comm]
    rw [e2, e]
    exact List.take_append_drop _ _
theorem flat_inv {α : Type} {f : α → List V} {k : Nat} (hk : 0 < k) : ∀ {l : List α} {J : Nat} {u : V}, (∀ a ∈ l, (f a).length = k) → (l.flatMap f)[J]? = some u → ∃ a, l[J / k]? = some a ∧ (f a)[J % k]? = some u
  | [], J, u, _, h => by simp at h
  | a :: l, J, u, hf, h => by
    rw [List.flatMap_cons] at h
    have ha := hf a (by simp)
    rcases Nat.lt_or_ge J k with hlt | hge
    · rw [List.getElem?_append_left (by omega)] at h
      exact ⟨a, by rw [Nat.div_eq_of_lt hlt]; rfl, by rw [Nat.mod_eq_of_lt hlt]; exact h⟩
    · rw [List.getElem?_append_right (by omega), ha] at h
      obtain ⟨b, h1, h2⟩ := flat_inv hk (fun a ha => hf a (by simp [ha])) h
      obtain ⟨J', rfl⟩ : ∃ J', J = J' + k := ⟨J - k, by omega⟩
      rw [Nat.add_sub_cancel] at h1 h2
      exact ⟨b, by rw [Nat.add_div_right _ hk]; exact h1, by rw [Nat.add_mod_right]; exact h2⟩
theorem sum_le {α β : Type} {f : α → Nat} {g : β → Nat} : ∀ {l : List α} {m : List β}, l.length = m.length → (∀ (j : Nat) a b, l[j]? = some a → m[j]? = some b → f a ≤ g b) → (l.map f).sum ≤ (m.map g).sum
  | [], [], _, _ => Nat.le_refl _
  | a :: l, b :: m, hl, h => by
    simp only [List.map_cons, List.sum_cons]
    exact Nat.add_le_add (h 0 a b rfl rfl) (sum_le (by simpa using hl) fun j x y hx hy => h (j + 1) x y (by simpa using hx) (by simpa using hy))
  | [], _ :: _, hl, _ => by simp at hl
  | _ :: _, [], hl, _ => by simp at hl
section
variable {H : Type} {enc : TypeId × Value → H} {P : Program} {W : World}
theorem sum_bulk (xs : List (DataW H × List MemPlace)) : (xs.map fun x => Rows.uptoBulk x.1).sum = Rows.uptoBulkAll (xs.map (·.1)) := by
  induction xs with
  | nil => simp [Rows.uptoBulkAll]
  | cons x r ih => simp [Rows.uptoBulkAll, ih]
/-- Cells of a type, as the given reader takes them: lifted by a datum of one's own. -/
structure Opn (enc : TypeId × Value → H) (P : Program) (W : World) (n T : Nat) {α : Type} (f : α → List V) (ok : α → Prop) (sz : α → Nat) : Prop where
  go : ∀ cs x, DataW.trod enc P W 0 (fun _ => true) true n T cs = some x → ∃ a, RO W (f a) cs ∧ ok a ∧ sz a ≤ Rows.uptoBulk x.1
theorem Opn.zero {T : Nat} {α : Type} {f : α → List V} {ok : α → Prop} {sz : α → Nat} : Opn enc P W 0 T f ok sz := ⟨fun cs x h => by simp [DataW.trod] at h⟩
theorem Opn.map {n T : Nat} {α β : Type} {f : α → List V} {ok : α → Prop} {sz : α → Nat} {f' : β → List V} {ok' : β → Prop} {sz' : β → Nat} (g : α → β) (h : Opn enc P W n T f ok sz) (hf : ∀ a, ok a → f' (g a) = f a) (hok : ∀ a, ok a → ok' (g a)) (hs : ∀ a, ok a → sz' (g a) ≤ sz a) : Opn enc P W n T f' ok' sz' :=
  ⟨fun cs x hx => by
    obtain ⟨a, h1, h2, h3⟩ := h.go cs x hx
    exact ⟨g a, by rw [hf a h2]; exact h1, hok a h2, Nat.le_trans (hs a h2) h3⟩⟩
theorem Opn.bool {n T : Nat} (hT : P.underlying T = some .bool) : Opn enc P W n T (fun b : Bool => [.k (.bool b)]) (fun _ => True) (fun _ => 1) := ⟨fun cs x h => by
  cases n with
  | zero => simp [DataW.trod] at h
  | succ n =>
    unfold DataW.trod at h
    rw [hT] at h
    split at h <;> rename_i hu <;> first | (cases hu; done) | skip
    all_goals first | (cases h; exact ⟨_, ⟨⟨rfl, .k _⟩, trivial⟩, trivial, by simp [Rows.uptoBulk]⟩) | cases h⟩
theorem Opn.int {n T : Nat} {k : IntKind} (hT : P.underlying T = some (.int k)) : Opn enc P W n T (fun z : Int => [.k (.int k z)]) (fun z => k.min ≤ z ∧ z ≤ k.max) (fun _ => 1) := ⟨fun cs x h => by
  cases n with
  | zero => simp [DataW.trod] at h
  | succ n =>
    unfold DataW.trod at h
    rw [hT] at h
    split at h <;> rename_i hu <;> first | (cases hu; done) | skip
    all_goals first | cases h | skip
    cases hu
    split at h
    · rename_i hw
      cases h
      obtain ⟨rfl, hw⟩ := hw
      exact ⟨_, ⟨⟨rfl, .k _⟩, trivial⟩, by simpa [Lit.wf] using hw, by simp [Rows.uptoBulk]⟩
    · cases h⟩
theorem Opn.str {n T : Nat} (hT : P.underlying T = some .string) : Opn enc P W n T (fun s : ByteArray => [.k (.string s)]) (fun s => s.size ≤ maxLen) (fun s => s.size + 1) := ⟨fun cs x h => by
  cases n with
  | zero => simp [DataW.trod] at h
  | succ n =>
    unfold DataW.trod at h
    rw [hT] at h
    split at h <;> rename_i hu <;> first | (cases hu; done) | skip
    all_goals first | cases h | skip
    split at h
    · rename_i hw
      cases h
      exact ⟨_, ⟨⟨rfl, .k _⟩, trivial⟩, hw, by simp [Rows.uptoBulk]⟩
    · cases h⟩
/-- A slice. -/
theorem Opn.sl {n T e k : Nat} {α : Type} {f : α → List V} {ok : α → Prop} {sz : α → Nat} (p : α → V) (hT : P.underlying T = some (.slice e)) (hc : P.cellsOf e = k) (hk : 0 < k) (hp : ∀ a, (p a).cells = f a) (h : Opn enc P W (n - 1) e f ok sz) :
    Opn enc P W n T (fun l : List α => [.s none (l.map p)]) (fun l => ∀ a ∈ l, ok a) (fun l => (l.map sz).sum + 1) := ⟨fun cs x hx => by
  cases n with
  | zero => simp [DataW.trod] at hx
  | succ n =>
    unfold DataW.trod at hx
    rw [hT] at hx
    split at hx <;> rename_i hu <;> first | (cases hu; done) | skip
    all_goals first | (cases hx; exact ⟨[], ⟨⟨rfl, .s0 (fun _ h => by cases h)⟩, trivial⟩, by simp, by simp [Rows.uptoBulk]⟩) | skip
    all_goals first | cases hx | skip
    cases hu
    rename_i a len cap
    simp only [hc] at hx
    split at hx
    · rename_i hb
      obtain ⟨_, hlc, hcm⟩ := hb
      obtain ⟨elems, he, hx⟩ := Option.bind_eq_some_iff.1 hx
      obtain ⟨rest, hr, hx⟩ := Option.map_eq_some_iff.1 hx
      subst hx
      obtain ⟨e1, e2⟩ := mapM_some he
      rw [List.length_range] at e1
      have key : ∀ j, j < len → ∃ y : α, (∃ b, elems[j]? = some b ∧ ok y ∧ sz y ≤ Rows.uptoBulk b.1) ∧ (f y).length = k ∧ ∀ i, i < k → ∃ u c, (f y)[i]? = some u ∧ W.cell? ((a.add (j * k)).add i) = some c ∧ u.one = true ∧ Rep W allS u c := fun j hj => by
        obtain ⟨b, h1, h2⟩ := e2 j j (by rw [List.getElem?_range hj])
        obtain ⟨ds, h3, h4⟩ := Option.bind_eq_some_iff.1 h2
        obtain ⟨y, k1, k2, k3⟩ := h.go ds b h4
        unfold World.cells? at h3
        split at h3
        · obtain ⟨m1, m2⟩ := mapM_some h3
          rw [List.length_range] at m1
          obtain ⟨l1, l2⟩ := k1.spec
          refine ⟨y, ⟨b, h1, k2, k3⟩, by omega, fun i hi => ?_⟩
          obtain ⟨c, c1, c2⟩ := m2 i i (by rw [List.getElem?_range hi])
          have hu : (f y)[i]? = some (f y)[i] := List.getElem?_eq_getElem (by omega)
          exact ⟨_, c, hu, c2, l2 i _ c hu c1⟩
        · cases h3
      obtain ⟨ys, hyl, hys⟩ := list_choose len key
      have hspot : 0 < cap → a.spot = none := fun h0 => by
        have : ∃ v : DataW H × List MemPlace, ((W.cells? 0 (a.add (0 * k)) k).bind (DataW.trod enc P W 0 (fun _ => true) true n e)) = some v := by
          rcases Nat.eq_zero_or_pos len with hl | hl
          · subst hl
            simp only [if_true] at hr
            obtain ⟨_, r2⟩ := mapM_some hr
            obtain ⟨v, _, hv⟩ := r2 0 0 (by rw [List.getElem?_range (by omega)])
            exact ⟨v, by simpa using hv⟩
          · obtain ⟨v, _, hv⟩ := e2 0 0 (by rw [List.getElem?_range hl])
            exact ⟨v, hv⟩
        obtain ⟨v, hv⟩ := this
        obtain ⟨ds, h3, _⟩ := Option.bind_eq_some_iff.1 hv
        unfold World.cells? at h3
        split at h3
        · obtain ⟨_, m2⟩ := mapM_some h3
          obtain ⟨c, _, c2⟩ := m2 0 0 (by rw [List.getElem?_range hk])
          obtain ⟨b, o, s⟩ := a
          cases s with
          | none => rfl
          | some s =>
            exfalso
            simp only [Addr.add, Nat.zero_mul] at c2
            simp [World.cell?] at c2
            split at c2 <;> simp at c2
        · cases h3
      refine ⟨ys, ⟨⟨rfl, ?_⟩, trivial⟩, fun y hy => ?_, ?_⟩
      · rcases Nat.eq_zero_or_pos cap with h0 | h0
        · obtain rfl : len = 0 := by omega
          subst h0
          have : ys = [] := List.eq_nil_of_length_eq_zero hyl
          subst this
          exact .se a (fun _ h => by cases h)
        · have hsp := hspot h0
          obtain ⟨b, o, s⟩ := a
          simp only at hsp
          subst hsp
          have hfl : ∀ y ∈ ys, (f y).length = k := fun y hy => by
            obtain ⟨j, hj⟩ := List.getElem?_of_mem hy
            exact (hys j y hj).2.1
          have hfe : (ys.map p).flatMap V.cells = ys.flatMap f := by
            rw [List.flatMap_map]
            congr 1
            funext y; exact hp y
          have hat : ∀ (J : Nat) u, (ys.flatMap f)[J]? = some u → ∃ c, W.cell? ⟨b, o + J, none⟩ = some c ∧ u.one = true ∧ Rep W allS u c := fun J u hu => by
            obtain ⟨y, h1, h2⟩ := flat_inv hk hfl hu
            obtain ⟨_, _, h3⟩ := hys _ y h1
            obtain ⟨u', c, k1, k2, k3⟩ := h3 (J % k) (Nat.mod_lt _ hk)
            rw [k1] at h2; cases h2
            rw [Addr.add_lit, Addr.add_lit, Nat.add_assoc, Nat.mul_comm, Nat.div_add_mod] at k2
            exact ⟨c, k2, k3⟩
          have hlen : (ys.map p).length = len := by simpa using hyl
          rw [← hlen]
          refine .s (size := k) (fun J => (W.cell? ⟨b, o + J, none⟩).getD undef) (by omega) hcm hk (fun v hv => ?_) (fun J u hu => ?_) (fun J u hu => ?_) (fun _ h => by cases h)
          · obtain ⟨y, hy, rfl⟩ := List.mem_map.1 hv
            rw [hp]
            refine ⟨hfl y hy, fun u hu => ?_⟩
            obtain ⟨J, hJ⟩ := List.getElem?_of_mem (List.mem_flatMap.2 ⟨y, hy, hu⟩)
            obtain ⟨_, _, h1, _⟩ := hat J u hJ
            exact h1
          · rw [hfe] at hu
            obtain ⟨c, h1, _⟩ := hat J u hu
            exact ⟨World.block_lt_of_cell? W ⟨b, o + J, none⟩ (by rw [h1]), trivial, by rw [h1]; rfl⟩
          · rw [hfe] at hu
            obtain ⟨c, h1, _, h2⟩ := hat J u hu
            rw [h1]
            exact h2
      · obtain ⟨j, hj⟩ := List.getElem?_of_mem hy
        obtain ⟨⟨b, _, h1, _⟩, _⟩ := hys j y hj
        exact h1
      · have := sum_le (f := sz) (g := fun x : DataW H × List MemPlace => Rows.uptoBulk x.1) (l := ys) (m := elems) (by omega) fun j y b hy hb => by
          obtain ⟨⟨b', hb', _, h1⟩, _⟩ := hys j y hy
          rw [hb] at hb'; cases hb'
          exact h1
        rw [sum_bulk] at this
        simp only [Rows.uptoBulk]
        omega
    · cases hx⟩
/-- A struct's fields, from a place on. -/
def tileB (P : Program) (total : Nat) : Nat → List Field → Bool
  | off, [] => Nat.beq off total
  | off, f :: r => Nat.beq f.offset off && tileB P total (off + P.cellsOf f.type) r
structure OpnFs (enc : TypeId × Value → H) (P : Program) (W : World) (n : Nat) (fs : List Field) {α : Type} (f : α → List V) (ok : α → Prop) (sz : α → Nat) : Prop where
  go : ∀ (total off : Nat) (cs : List Value) (xs : List (DataW H × List MemPlace)), tileB P total off fs = true → cs.length = total → (fs.mapM fun fl => DataW.trod enc P W 0 (fun _ => true) true n fl.type ((cs.drop fl.offset).take (P.cellsOf fl.type))) = some xs → ∃ a, RO W (f a) (cs.drop off) ∧ ok a ∧ sz a ≤ Rows.uptoBulkAll (xs.map (·.1))
theorem OpnFs.nil {n : Nat} : OpnFs enc P W n [] (fun _ : Unit => []) (fun _ => True) (fun _ => 0) := ⟨fun total off cs xs ht hl hx => by
  have : off = total := Nat.eq_of_beq_eq_true ht
  refine ⟨(), ?_, trivial, Nat.zero_le _⟩
  rw [List.drop_of_length_le (by omega)]
  trivial⟩
theorem OpnFs.cons {n : Nat} {fl : Field} {fs : List Field} {α β : Type} {f : α → List V} {ok : α → Prop} {sz : α → Nat} {f' : β → List V} {ok' : β → Prop} {sz' : β → Nat} (h : Opn enc P W n fl.type f ok sz) (k : OpnFs enc P W n fs f' ok' sz') :
    OpnFs enc P W n (fl :: fs) (fun x : α × β => f x.1 ++ f' x.2) (fun x => ok x.1 ∧ ok' x.2) (fun x => sz x.1 + sz' x.2) := ⟨fun total off cs xs ht hl hx => by
  simp only [tileB, Bool.and_eq_true] at ht
  have ho : fl.offset = off := Nat.eq_of_beq_eq_true ht.1
  simp only [List.mapM_cons, Option.bind_eq_bind, Option.pure_def] at hx
  obtain ⟨b, hb, hx⟩ := Option.bind_eq_some_iff.1 hx
  obtain ⟨bs, hbs, hx⟩ := Option.bind_eq_some_iff.1 hx
  cases hx
  obtain ⟨a, a1, a2, a3⟩ := h.go _ _ hb
  obtain ⟨c, c1, c2, c3⟩ := k.go _ _ _ _ ht.2 hl hbs
  refine ⟨(a, c), ?_, ⟨a2, c2⟩, by simp only [List.map_cons, Rows.uptoBulkAll]; omega⟩
  have := a1.append c1
  rw [ho, ← List.drop_drop, List.take_append_drop] at this
  exact this⟩
theorem Opn.st {n T : Nat} {fs : Array Field} {α : Type} {f : α → List V} {ok : α → Prop} {sz : α → Nat} (hT : P.underlying T = some (.struct fs)) (ht : tileB P (P.cellsOf T) 0 fs.toList = true) (h : OpnFs enc P W (n - 1) fs.toList f ok sz) :
    Opn enc P W n T f ok (fun a => sz a + 1) := ⟨fun cs x hx => by
  cases n with
  | zero => simp [DataW.trod] at hx
  | succ n =>
    have hx : (if cs.length = P.cellsOf T then (fs.toList.mapM fun fl => DataW.trod enc P W 0 (fun _ => true) true n fl.type ((cs.drop fl.offset).take (P.cellsOf fl.type))).map fun xs => (DataW.agg (xs.map (·.1)), xs.flatMap (·.2)) else none) = some x := by
      unfold DataW.trod at hx
      rw [hT] at hx
      exact hx
    split at hx
    · rename_i hl
      obtain ⟨xs, hxs, hx⟩ := Option.map_eq_some_iff.1 hx
      subst hx
      obtain ⟨a, h1, h2, h3⟩ := h.go _ _ _ _ ht hl hxs
      rw [List.drop_zero] at h1
      exact ⟨a, h1, h2, by simp only [Rows.uptoBulk]; omega⟩
    · cases hx⟩
/-- An array. -/
theorem Opn.ar {n T m e : Nat} {α : Type} {f : α → List V} {ok : α → Prop} {sz : α → Nat} (hT : P.underlying T = some (.array m e)) (hc : P.cellsOf T = m * P.cellsOf e) (h : Opn enc P W (n - 1) e f ok sz) :
    Opn enc P W n T (fun l : List α => l.flatMap f) (fun l => l.length = m ∧ ∀ a ∈ l, ok a) (fun l => (l.map sz).sum + 1) := ⟨fun cs x hx => by
  cases n with
  | zero => simp [DataW.trod] at hx
  | succ n =>
    have hx : (if cs.length = P.cellsOf T then ((List.range m).mapM fun i => DataW.trod enc P W 0 (fun _ => true) true n e ((cs.drop (i * P.cellsOf e)).take (P.cellsOf e))).map fun xs => (DataW.agg (xs.map (·.1)), xs.flatMap (·.2)) else none) = some x := by
      unfold DataW.trod at hx
      rw [hT] at hx
      exact hx
    split at hx
    · rename_i hl
      obtain ⟨xs, hxs, hx⟩ := Option.map_eq_some_iff.1 hx
      subst hx
      obtain ⟨e1, e2⟩ := mapM_some hxs
      rw [List.length_range] at e1
      obtain ⟨ys, hyl, hys⟩ := list_choose (p := fun j (y : α) => (∃ b, xs[j]? = some b ∧ ok y ∧ sz y ≤ Rows.uptoBulk b.1) ∧ RO W (f y) ((cs.drop (j * P.cellsOf e)).take (P.cellsOf e))) m fun j hj => by
        obtain ⟨b, h1, h2⟩ := e2 j j (by rw [List.getElem?_range hj])
        obtain ⟨y, k1, k2, k3⟩ := h.go _ b h2
        exact ⟨y, ⟨b, h1, k2, k3⟩, k1⟩
      refine ⟨ys, ?_, ⟨hyl, fun y hy => ?_⟩, ?_⟩
      · have hrf := range_flatten (s := P.cellsOf e) (n := m) (cs := cs) (by rw [hl, hc])
        rw [← hrf, List.flatMap]
        refine RO.flatten (by simp [hyl]) fun j us ds h1 h2 => ?_
        rw [List.getElem?_map] at h1 h2
        obtain ⟨y, hy, rfl⟩ := Option.map_eq_some_iff.1 h1
        obtain ⟨i, hi, rfl⟩ := Option.map_eq_some_iff.1 h2
        have hjl : j < m := by have := (List.getElem?_eq_some_iff.1 hy).1; omega
        rw [List.getElem?_range hjl] at hi
        cases hi
        exact (hys j y hy).2
      · obtain ⟨j, hj⟩ := List.getElem?_of_mem hy
        obtain ⟨⟨b, _, h1, _⟩, _⟩ := hys j y hj
        exact h1
      · have := sum_le (f := sz) (g := fun x : DataW H × List MemPlace => Rows.uptoBulk x.1) (l := ys) (m := xs) (by omega) fun j y b hy hb => by
          obtain ⟨⟨b', hb', _, h1⟩, _⟩ := hys j y hy
          rw [hb] at hb'; cases hb'
          exact h1
        rw [sum_bulk] at this
        simp only [Rows.uptoBulk]
        omega
    · cases hx⟩
/-! ### Arguments -/
/-- A struct or an array. -/
def aggT (P : Program) (t : Nat) : Bool :=
  match P.underlying t with
  | some (.struct _) | some (.array _ _) => true
  | _ => false
theorem Opn.argA {T base : Nat} {α : Type} {f : α → List V} {ok : α → Prop} {sz : α → Nat} {v : Value} {d : DataW H} {ps : List MemPlace} (h : ∀ n, Opn enc P W n T f ok sz) (ha : aggT P T = true) (hv : Value.okWide P W .any base T v) (ht : DataW.Trod enc P W 0 (fun _ => true) true T v d ps) :
    ∃ a, Rep W allS (.a (f a)) v ∧ ok a ∧ sz a ≤ Rows.uptoBulk d := by
  obtain ⟨n, hn⟩ := ht
  obtain ⟨a, h1, h2, h3⟩ := (h n).go _ _ hn
  obtain ⟨cs, rfl⟩ : ∃ cs, v = .agg cs := by
    unfold Value.okWide at hv
    unfold aggT at ha
    split at hv
    · obtain ⟨cs, rfl, _⟩ := hv; exact ⟨cs, rfl⟩
    · obtain ⟨cs, rfl, _⟩ := hv; exact ⟨cs, rfl⟩
    · rename_i k1 k2
      split at ha
      · rename_i fs hu; exact absurd hu (k1 fs)
      · rename_i m e hu; exact absurd hu (k2 m e)
      · cases ha
  obtain ⟨l1, l2⟩ := h1.spec
  refine ⟨a, .a (by simpa [Value.cells] using l1) (fun u hu => ?_) (fun j u x hj hx => ?_), h2, h3⟩
  · obtain ⟨j, hj⟩ := List.getElem?_of_mem hu
    have hjl := (List.getElem?_eq_some_iff.1 hj).1
    have hx : (Value.cells (.agg cs)).toList[j]? = some (Value.cells (.agg cs)).toList[j] := List.getElem?_eq_getElem (by omega)
    exact (l2 j u _ hj hx).1
  · exact (l2 j u x hj (by simpa [Value.cells] using hx)).2
theorem ro_one {u : V} {cs : List Value} (h : RO W [u] cs) : ∃ c, cs = [c] ∧ Rep W allS u c := by
  match cs, h with
  | [c], h => exact ⟨c, rfl, h.1.2⟩
theorem Opn.arg1 {T base : Nat} {α : Type} {p : α → V} {ok : α → Prop} {sz : α → Nat} {v : Value} {d : DataW H} {ps : List MemPlace} (h : ∀ n, Opn enc P W n T (fun a => [p a]) ok sz) (ha : (match P.underlying T with | some .bool | some (.int _) | some .string | some (.slice _) => true | _ => false) = true) (hv : Value.okWide P W .any base T v) (ht : DataW.Trod enc P W 0 (fun _ => true) true T v d ps) :
    ∃ a, Rep W allS (p a) v ∧ ok a ∧ sz a ≤ Rows.uptoBulk d := by
  obtain ⟨n, hn⟩ := ht
  obtain ⟨a, h1, h2, h3⟩ := (h n).go _ _ hn
  have hc : v.cells = #[v] := by
    split at ha
    · rename_i hu; obtain ⟨b, rfl⟩ := okWide_bool hu hv; rfl
    · rename_i k hu; obtain ⟨b, rfl⟩ := okWide_int hu hv; rfl
    · rename_i hu; obtain ⟨b, rfl⟩ := okWide_string hu hv; rfl
    · rename_i e hu; obtain ⟨x, y, z, rfl⟩ := okWide_slice hu hv; rfl
    · cases ha
  rw [hc] at h1
  obtain ⟨c, hc', hr⟩ := ro_one h1
  simp at hc'
  subst hc'
  exact ⟨a, hr, h2, h3⟩
/-! ### Plain types -/
theorem Opn.u8 {n T : Nat} (hT : P.underlying T = some (.int .u8)) : Opn enc P W n T (fun b : UInt8 => [bK b]) (fun _ => True) (fun _ => 1) :=
  (Opn.int hT).map (fun z => UInt8.ofNat z.toNat) (fun z hz => by
    have h0 : IntKind.u8.min = 0 := rfl
    have h1 : IntKind.u8.max = 255 := rfl
    have e : (UInt8.ofNat z.toNat).toNat = z.toNat := UInt8.toNat_ofNat_of_lt (by show _ < 256; omega)
    have : ((z.toNat : Nat) : Int) = z := by omega
    simp only [bK, e, this]) (fun _ _ => trivial) fun _ _ => Nat.le_refl _
theorem Opn.u64 {n T : Nat} (hT : P.underlying T = some (.int .u64)) : Opn enc P W n T (fun b : UInt64 => [qK b]) (fun _ => True) (fun _ => 1) :=
  (Opn.int hT).map (fun z => UInt64.ofNat z.toNat) (fun z hz => by
    have h0 : IntKind.u64.min = 0 := rfl
    have h1 : IntKind.u64.max = 18446744073709551615 := rfl
    have e : (UInt64.ofNat z.toNat).toNat = z.toNat := UInt64.toNat_ofNat_of_lt (by show _ < 18446744073709551616; omega)
    have : ((z.toNat : Nat) : Int) = z := by omega
    simp only [qK, e, this]) (fun _ _ => trivial) fun _ _ => Nat.le_refl _
theorem Opn.i64 {n T : Nat} (hT : P.underlying T = some (.int .i64)) : Opn enc P W n T (fun z : Int => [.k (.int .i64 z)]) (fun z => -9223372036854775808 ≤ z ∧ z ≤ 9223372036854775807) (fun _ => 1) :=
  (Opn.int hT).map id (fun _ _ => rfl) (fun _ hz => hz) fun _ _ => Nat.le_refl _
theorem sum_map_one {α : Type} (l : List α) : (l.map fun _ => 1).sum = l.length := by induction l with
  | nil => rfl
  | cons a l ih => simp [ih]; omega
theorem flatMap_one {α : Type} (g : α → V) (l : List α) : l.flatMap (fun a => [g a]) = l.map g := by
  induction l with
  | nil => rfl
  | cons a l ih => rw [List.flatMap_cons, List.map_cons, ih]; rfl
/-- Bytes. -/
theorem Opn.bytes {n T e : Nat} (hT : P.underlying T = some (.slice e)) (hE : P.underlying e = some (.int .u8)) (hc : P.cellsOf e = 1) : Opn enc P W n T (fun l : List UInt8 => [.s none (l.map bK)]) (fun _ => True) (fun l => l.length + 1) :=
  (Opn.sl bK hT hc (by decide) (fun _ => rfl) (Opn.u8 hE)).map id (fun _ _ => rfl) (fun _ _ => trivial) fun l _ => by rw [sum_map_one]; exact Nat.le_refl _
theorem Opn.u64s {n T e : Nat} (hT : P.underlying T = some (.slice e)) (hE : P.underlying e = some (.int .u64)) (hc : P.cellsOf e = 1) : Opn enc P W n T (fun l : List UInt64 => [.s none (l.map qK)]) (fun _ => True) (fun l => l.length + 1) :=
  (Opn.sl qK hT hc (by decide) (fun _ => rfl) (Opn.u64 hE)).map id (fun _ _ => rfl) (fun _ _ => trivial) fun l _ => by rw [sum_map_one]; exact Nat.le_refl _
/-- An array of bytes, or of numbers. -/
theorem Opn.arr8 {n T e m : Nat} (hT : P.underlying T = some (.array m e)) (hE : P.underlying e = some (.int .u8)) (hc : P.cellsOf T = m * P.cellsOf e) : Opn enc P W n T (fun l : List UInt8 => l.map bK) (fun l => l.length = m) (fun l => l.length + 1) :=
  (Opn.ar hT hc (Opn.u8 hE)).map id (fun l _ => (flatMap_one bK l).symm) (fun _ h => h.1) fun l _ => by rw [sum_map_one]; exact Nat.le_refl _
theorem Opn.arr64 {n T e m : Nat} (hT : P.underlying T = some (.array m e)) (hE : P.underlying e = some (.int .u64)) (hc : P.cellsOf T = m * P.cellsOf e) : Opn enc P W n T (fun l : List UInt64 => l.map qK) (fun l => l.length = m) (fun l => l.length + 1) :=
  (Opn.ar hT hc (Opn.u64 hE)).map id (fun l _ => (flatMap_one qK l).symm) (fun _ h => h.1) fun l _ => by rw [sum_map_one]; exact Nat.le_refl _
end
end Lf
end Go.Proofs.Ytefidcaaiimkeaa

/- Package tree: what the given statement tells of a node; alive7. -/
namespace Go.Proofs.Ytefidcaaiimkeaa
open Go.RowKit Rg Rp Go.WideShapes Go.ChangeShapes Wm Ar
set_option linter.unusedVariables false
set_option maxRecDepth 100000
namespace Lf
open Tr
section
variable {H : Type} {enc : TypeId × Value → H} {W : World}
theorem sum_sizesN (ks : List Rn) : (ks.map fun k => k.size + 2).sum = Rn.sizeL ks + ks.length := by
  induction ks with
  | nil => rfl
  | cons k r ih => simp only [List.map_cons, List.sum_cons, ih, Rn.sizeL, List.length_cons]; omega
theorem opnNode : ∀ n : Nat, Opn enc Try.prog W n 25 rnC (fun _ => True) (fun x => x.size + 2) := by
  intro n
  induction n using Nat.strongRecOn with
  | _ n ih =>
    cases n with
    | zero => exact Opn.zero
    | succ n =>
      have hk : Opn enc Try.prog W (n - 1) 25 rnC (fun _ => True) (fun x => x.size + 2) := ih (n - 1) (by omega)
      have h1 : Opn enc Try.prog W n 23 (fun l : List Rn => [.s none (l.map rnV)]) (fun l => ∀ a ∈ l, True) (fun l => (l.map fun x => x.size + 2).sum + 1) :=
        Opn.sl (e := 25) (k := 4) rnV (by kernel_rfl) (by kernel_rfl) (by decide) (fun _ => rfl) hk
      have h2 := Opn.st (T := 25) (n := n + 1) (P := Try.prog) (enc := enc) (W := W) (fs := #[⟨"Kind", 3, 0, false, "", "", 0⟩, ⟨"Path", 22, 1, false, "", "", 8⟩, ⟨"Value", 22, 2, false, "", "", 32⟩, ⟨"Kids", 23, 3, false, "", "", 56⟩]) (by kernel_rfl) (by kernel_rfl)
        (OpnFs.cons (Opn.i64 (by kernel_rfl)) (OpnFs.cons (Opn.bytes (e := 5) (by kernel_rfl) (by kernel_rfl) (by kernel_rfl)) (OpnFs.cons (Opn.bytes (e := 5) (by kernel_rfl) (by kernel_rfl) (by kernel_rfl)) (OpnFs.cons h1 OpnFs.nil))))
      refine h2.map (fun x => .mk x.1 x.2.1 x.2.2.1 x.2.2.2.1) (fun x _ => ?_) (fun _ _ => trivial) (fun x _ => ?_)
      · rw [rnC_eq]; rfl
      · have := sum_sizesN x.2.2.2.1
        simp only [Rn.size]
        omega
end
def psA : List Pr := [([1, 2], [97]), ([1], [98])]
def nA : Rn := ofN (ofP psA)
theorem psA_ok : ∀ p ∈ psA, prOk p := by
  intro p hp
  simp only [psA, List.mem_cons, List.not_mem_nil, or_false] at hp
  rcases hp with rfl | rfl <;> exact ⟨by decide, by decide⟩
theorem nA_right : rt nA 0 = true := rt_of _ _ (ofP_right psA_ok)
theorem nA_toN : toN nA = ofP psA := toN_of _
theorem nA_get : Tr.get (ofP psA) (keyP [1, 2]) = [97] := by rfl
theorem nA_pairs : (pairsOf (ofP psA)).length = 2 := by rfl
theorem nA_kind : nA.kind = 2 := by rfl
theorem nA_size : nA.size < 50000000 := by
  have : nA.size ≤ 1000 := by decide
  omega
attribute [irreducible] nA
theorem tr_cv2 (keep : Nat → Bool) (nn : Bool) : (∀ n, (ndV n).cv keep nn = ndV n) ∧ (∀ ks v, V.cv.go keep nn (fkC ks v) = fkC ks v) ∧ (∀ x, V.cv.go keep nn (rnC x) = rnC x) ∧ ∀ x, V.cv.go keep nn (rnV x).cells = rnC x := ⟨nd_cv keep nn, fk_cv keep nn, fun x => rnC_cv x keep nn, fun x => rnC_cv x keep nn⟩
namespace Te
set_option maxHeartbeats 4000000 in
theorem alive7_ : LF Try.prog 8 [] (fun _ => .k (.bool true)) none := by
  have hn := nA_size
  have c1 : LM Try.prog 17 [prsV psA] [] fun o m => o = .ret (.t [rnV nA, erV 0]) ∧ m = [] := by
    rcases Of_ psA (by decide) (fun p hp => by have := psA_ok p hp; exact ⟨by have := this.1; omega, by have := this.2; omega⟩) with ⟨_, h⟩ | ⟨⟨p, hp, h⟩, _⟩
    · rw [show nA = ofN (ofP psA) by unfold nA; rfl]
      exact h
    · exact absurd (psA_ok p hp) h
  have c2 : LM Try.prog 14 [rnV nA, .s none [.k (.int .u8 1), .k (.int .u8 2)]] [] fun o m => o = .ret (.t [bV [97], erV 0]) ∧ m = [] := by
    have h := Get_ok nA [1, 2] (by omega) nA_right (by decide)
    rw [nA_toN, nA_get] at h
    exact h
  have c3 := Pairs_ok nA hn nA_right
  rw [nA_toN] at c3
  have c4 := Right_ nA (by omega)
  rw [nA_right] at c4
  have hk4 := rnC_len nA
  have hrf := tr_refs
  have hcv := tr_cv2
  have hlen := nA_pairs
  have hkd := nA_kind
  have ld1 := @rn_kind nA
  rw [hkd] at ld1
  have hs : arithS .eql ⟨([97] : List UInt8).toArray⟩ ⟨#[97]⟩ = some (.bool true) := eqS (a := [97]) (b := [97]) rfl
  unfold psA at c1
  simp only [prsV, prV, List.map_cons, List.map_nil, prC_eq] at c1
  generalize nA = T at *
  generalize pairsOf (ofP psA) = L at *
  refine LFx.mk' tt Try.func8 rfl rfl rfl (by kernel_rfl) rfl rfl fun F => ?_
  exact wk trueW trueW trueW
end Te
end Lf
end Go.Proofs.Ytefidcaaiimkeaa

/- Package tree: the plain law: how large a tree's node is; put's growth. -/
namespace Go.Proofs.Ytefidcaaiimkeaa
set_option maxRecDepth 100000
namespace Lf
open Tr
/-- The size of the node that shows a tree. -/
def wt : Nd → Nat
  | .no => 1
  | .leaf p v => 1 + p.length + v.length
  | .road p k => 2 + p.length + wt k
  | .fork ks v => 1 + v.length + ((List.finRange 16).map fun i => wt (ks i) + 1).sum
theorem wt_pos : ∀ n, 1 ≤ wt n
  | .no => Nat.le_refl _
  | .leaf _ _ => by simp only [wt]; omega
  | .road _ _ => by simp only [wt]; omega
  | .fork _ _ => by simp only [wt]; omega
def wts (ks : Fin 16 → Nd) : Nat := ((List.finRange 16).map fun i => wt (ks i) + 1).sum
theorem wt_fork (ks : Fin 16 → Nd) (v : List UInt8) : wt (.fork ks v) = 1 + v.length + wts ks := by rw [wt]; rfl
theorem sizeL_map {α : Type} (f : α → Rn) : ∀ l : List α, Rn.sizeL (l.map f) = (l.map fun a => (f a).size + 1).sum
  | [] => by simp [Rn.sizeL]
  | a :: r => by simp only [List.map_cons, List.sum_cons, Rn.sizeL, sizeL_map f r]
theorem size_of : ∀ n : Nd, (ofN n).size = wt n
  | .no => by simp [ofN, Rn.size, Rn.sizeL, wt]
  | .leaf p v => by simp [ofN, Rn.size, Rn.sizeL, wt, pB_len]
  | .road p k => by simp only [ofN, Rn.size, Rn.sizeL, wt, pB_len, size_of k, List.length_nil]; omega
  | .fork ks v => by
    simp only [ofN, Rn.size, wt, sizeL_map, List.length_nil, Nat.add_zero]
    congr 2
    apply List.map_congr_left
    intro i _
    rw [size_of (ks i)]
theorem sum_setK (g : Fin 16 → Nat) (x : Fin 16) (m : Nat) : ∀ l : List (Fin 16), l.Nodup → (l.map fun i => (if i = x then m else g i) + 1).sum + (if x ∈ l then g x else 0) = (l.map fun i => g i + 1).sum + (if x ∈ l then m else 0)
  | [], _ => by simp
  | a :: r, h => by
    have hn := List.nodup_cons.1 h
    have ih := sum_setK g x m r hn.2
    simp only [List.map_cons, List.sum_cons, List.mem_cons]
    by_cases ha : a = x
    · subst ha
      rw [if_neg hn.1, if_neg hn.1] at ih
      simp only [true_or, if_true]
      omega
    · have hx : (x = a ∨ x ∈ r) ↔ x ∈ r := ⟨fun h => h.resolve_left fun e => ha e.symm, Or.inr⟩
      simp only [hx, if_neg ha]
      omega
theorem wts_setK (ks : Fin 16 → Nd) (x : Fin 16) (n : Nd) : wts (setK ks x n) + wt (ks x) = wts ks + wt n := by
  have h := sum_setK (fun i => wt (ks i)) x (wt n) (List.finRange 16) (List.nodup_finRange 16)
  rw [if_pos (List.mem_finRange x), if_pos (List.mem_finRange x)] at h
  have e : wts (setK ks x n) = ((List.finRange 16).map fun i => (if i = x then wt n else wt (ks i)) + 1).sum := by
    unfold wts
    refine congrArg List.sum (List.map_congr_left fun i _ => ?_)
    unfold setK
    split <;> rfl
  rw [e]
  exact h
theorem sum_ge (g : Fin 16 → Nat) (hg : ∀ i, 1 ≤ g i) : ∀ l : List (Fin 16), 2 * l.length ≤ (l.map fun i => g i + 1).sum
  | [] => by simp
  | a :: r => by
    have := sum_ge g hg r
    have := hg a
    simp only [List.map_cons, List.sum_cons, List.length_cons]
    omega
theorem wts_ge (ks : Fin 16 → Nd) : 32 ≤ wts ks := by
  have h := sum_ge (fun i => wt (ks i)) (fun i => wt_pos _) (List.finRange 16)
  rw [List.length_finRange] at h
  exact h
theorem wts_at (ks : Fin 16 → Nd) (i : Fin 16) : 31 + wt (ks i) ≤ wts ks := by
  have h := wts_setK ks i .no
  have h2 := wts_ge (setK ks i .no)
  have h3 : wt .no = 1 := rfl
  omega
theorem wts_none : wts none16 = 32 := by rfl
theorem wt_behind : ∀ (p : Pa) (n : Nd), wt (behind p n) ≤ wt n + p.length + 2
  | [], n => by simp only [behind]; omega
  | _ :: _, .no => by simp only [behind]; omega
  | x :: p, .leaf q v => by simp only [behind, wt, List.length_append]; omega
  | x :: p, .road q k => by simp only [behind, wt, List.length_append]; omega
  | x :: p, .fork ks v => by simp only [behind, wt, List.length_cons]; omega
theorem wt_tidy (ks : Fin 16 → Nd) (v : List UInt8) : wt (tidy ks v) ≤ wt (.fork ks v) := by
  rw [wt_fork]
  have h := wts_ge ks
  unfold tidy
  split
  · split
    · simp only [wt]; omega
    · simp only [wt, List.length_nil]; omega
  · rename_i i _
    split
    · have h1 := wt_behind [i] (ks i)
      have h2 := wts_at ks i
      simp only [List.length_cons, List.length_nil] at h1
      omega
    · rw [wt_fork]; omega
  · rw [wt_fork]; omega
theorem wt_part (pre pa : Pa) (a : Nd) (q : Pa) (v : List UInt8) : wt (Tr.part pre pa a q v) ≤ wt a + pre.length + pa.length + q.length + v.length + 50 := by
  unfold Tr.part
  refine Nat.le_trans (wt_behind _ _) ?_
  have hk : wts (kids1 pa a) + (val1 pa a).length ≤ 36 + wt a + pa.length := by
    cases pa with
    | nil =>
      show wts none16 + (Tr.valOf a).length ≤ _
      rw [wts_none]
      have : (Tr.valOf a).length ≤ wt a := by
        cases a <;> simp only [Tr.valOf, wt, List.length_nil] <;> omega
      omega
    | cons x r =>
      show wts (setK none16 x (behind r a)) + ([] : List UInt8).length ≤ _
      have h1 := wts_setK none16 x (behind r a)
      rw [wts_none] at h1
      have h2 := wt_behind r a
      simp only [List.length_cons, List.length_nil]
      omega
  cases q with
  | nil => simp only [wt_fork, List.length_nil]; omega
  | cons y s =>
    have h1 := wts_setK (kids1 pa a) y (.leaf s v)
    have h2 : wt (.leaf s v) = 1 + s.length + v.length := by rw [wt]
    simp only [wt_fork, List.length_cons]
    omega
theorem wt_put : ∀ (n : Nd) (p : Pa) (v : List UInt8), wt (Tr.put n p v) ≤ wt n + p.length + v.length + 50
  | .no, p, v => by
    simp only [Tr.put]
    split <;> simp only [wt] <;> omega
  | .leaf p0 v0, p, v => by
    simp only [Tr.put]
    split
    · split <;> simp only [wt] <;> omega
    · split
      · omega
      · have h := wt_part (p0.take (common p0 p)) (p0.drop (common p0 p)) (.leaf [] v0) (p.drop (common p0 p)) v
        simp only [List.length_take, List.length_drop, wt, List.length_nil] at h ⊢
        omega
  | .road p0 k, p, v => by
    simp only [Tr.put]
    split
    · rename_i r hr
      have h1 := wt_behind p0 (Tr.put k r v)
      have h2 := wt_put k r v
      have h3 := congrArg List.length (rest_some hr)
      simp only [List.length_append] at h3
      simp only [wt]
      omega
    · split
      · omega
      · have h := wt_part (p0.take (common p0 p)) (p0.drop (common p0 p)) k (p.drop (common p0 p)) v
        simp only [List.length_take, List.length_drop, wt] at h ⊢
        omega
  | .fork ks v0, [], v => by
    simp only [Tr.put]
    refine Nat.le_trans (wt_tidy _ _) ?_
    rw [wt_fork, wt_fork]
    omega
  | .fork ks v0, x :: p, v => by
    simp only [Tr.put]
    refine Nat.le_trans (wt_tidy _ _) ?_
    have h1 := wts_setK ks x (Tr.put (ks x) p v)
    have h2 := wt_put (ks x) p v
    rw [wt_fork, wt_fork, List.length_cons]
    omega
theorem sizeL_range (g : Rn → Nat) : ∀ ks : List Rn, ((List.range ks.length).map fun i => g (ks.getD i default)).sum = (ks.map g).sum
  | [] => by simp
  | a :: r => by
    rw [List.length_cons, List.range_succ_eq_map, List.map_cons, List.sum_cons, List.map_map, List.map_cons, List.sum_cons, ← sizeL_range g r]
    rfl
theorem sizeL_sum : ∀ ks : List Rn, Rn.sizeL ks = (ks.map fun k => k.size + 1).sum
  | [] => by simp [Rn.sizeL]
  | a :: r => by simp only [Rn.sizeL, List.map_cons, List.sum_cons, sizeL_sum r]
theorem sum_le2 {α : Type} (f g : α → Nat) : ∀ l : List α, (∀ a ∈ l, f a ≤ g a) → (l.map f).sum ≤ (l.map g).sum
  | [], _ => by simp
  | a :: r, h => by
    have := sum_le2 f g r fun b hb => h b (List.mem_cons_of_mem _ hb)
    have := h a List.mem_cons_self
    simp only [List.map_cons, List.sum_cons]
    omega
theorem fin_range (F : Nat → Nat) : ((List.finRange 16).map fun i => F i.val).sum = ((List.range 16).map F).sum := by rfl
theorem wt_toN : ∀ (n : Nat) (x : Rn) (d : Nat), x.size ≤ n → rt x d = true → wt (toN x) ≤ x.size := by
  intro n
  induction n with
  | zero =>
    intro x d hx
    obtain ⟨k, p, v, ks⟩ := x
    rw [size_eq] at hx
    omega
  | succ n ih =>
    intro x d hx hr
    obtain ⟨k, p, v, ks⟩ := x
    rw [size_eq] at hx ⊢
    rw [rt_eq] at hr
    rw [toN_eq]
    split
    · simp only [wt, pOf_len]; omega
    · split
      · rename_i h1 h2
        rw [if_neg (by omega), if_neg h1, if_pos h2] at hr
        simp only [Bool.and_eq_true, decide_eq_true_eq] at hr
        have hl := hr.1.1.2
        have hs := sizeL_get (ks := ks) (i := 0) (by omega)
        have := ih (ks.getD 0 default) _ (by omega) (rtL_get.1 hr.2 0 (by omega))
        simp only [wt, pOf_len]
        omega
      · split
        · rename_i h1 h2 h3
          rw [if_neg (by omega), if_neg h1, if_neg h2, if_pos h3] at hr
          simp only [Bool.and_eq_true, decide_eq_true_eq] at hr
          have hl := hr.1.1.1.1
          have hs : ((List.finRange 16).map fun i : Fin 16 => wt (toN (ks.getD i.val default)) + 1).sum ≤ Rn.sizeL ks := by
            refine Nat.le_trans (sum_le2 _ (fun i : Fin 16 => (ks.getD i.val default).size + 1) _ fun i _ => ?_) ?_
            · have hi : i.val < ks.length := by omega
              have := sizeL_get hi
              have := ih (ks.getD i.val default) _ (by omega) (rtL_get.1 hr.1.2 i.val hi)
              omega
            · rw [fin_range (fun i => (ks.getD i default).size + 1), ← hl, sizeL_range (fun k => k.size + 1), sizeL_sum]; exact Nat.le_refl _
          simp only [wt]
          omega
        · simp only [wt]; omega
theorem size_put {x : Rn} {d : Nat} (hr : rt x d = true) (p : Pa) (v : List UInt8) : (ofN (Tr.put (toN x) p v)).size ≤ x.size + p.length + v.length + 50 := by
  rw [size_of]
  have h1 := wt_put (toN x) p v
  have h2 := wt_toN _ x d (Nat.le_refl _) hr
  omega
theorem size_put2 (n : Nd) (p : Pa) (v : List UInt8) : (ofN (Tr.put n p v)).size ≤ (ofN n).size + p.length + v.length + 50 := by
  rw [size_of, size_of]
  exact wt_put n p v
theorem size_toN {x : Rn} {d : Nat} (hr : rt x d = true) : (ofN (toN x)).size ≤ x.size := by
  rw [size_of]
  exact wt_toN _ x d (Nat.le_refl _) hr
end Lf
end Go.Proofs.Ytefidcaaiimkeaa

/- Package tree: the laws' walks: TreeRead. -/
namespace Go.Proofs.Ytefidcaaiimkeaa
open Go.RowKit Rg Rp Wm Ar
set_option linter.unusedVariables false
set_option maxRecDepth 100000
namespace Lf
open Tr
theorem neS_t {a b : List UInt8} (h : a ≠ b) : arithS .neq ⟨a.toArray⟩ ⟨b.toArray⟩ = some (.bool true) := by
  simp only [arithS, ByteArray.toList_mk]
  simp [h]
theorem neS_f (a : List UInt8) : arithS .neq ⟨a.toArray⟩ ⟨a.toArray⟩ = some (.bool false) := by
  simp only [arithS, ByteArray.toList_mk]
  simp
theorem no_same : LF Try.prog 12 [rnV Rn.no, rnV Rn.no] (fun _ => .k (.bool true)) none := by
  have h := Te.SameNode_ Rn.no.size Rn.no Rn.no (Nat.le_refl _) (by decide) (by decide)
  rw [show sm Rn.no Rn.no = true by rfl] at h
  exact h
theorem no_lit : rnV Rn.no = .a [.k (.int .i64 0), .s none [], .s none [], .s none []] := by
  rw [show Rn.no = .mk 0 [] [] [] from rfl, rnV, rnC_eq]; rfl
/-- What Put answers. -/
theorem Put_ (x : Rn) (key v : List UInt8) (hx : x.size < 1000000000) :
    (rt x 0 = true ∧ key.length ≤ 32 ∧ v.length ≤ 1024 ∧ LF Try.prog 13 [rnV x, bV key, bV v] (fun _ => .t [rnV (ofN (Tr.put (toN x) (keyP key) v)), erV 0]) none) ∨
    ∃ e : Nat, 1 ≤ e ∧ e ≤ 3 ∧ LF Try.prog 13 [rnV x, bV key, bV v] (fun _ => .t [rnV Rn.no, erV e]) none := by
  cases hr : rt x 0 with
  | false => exact .inr ⟨1, by decide, by decide, Te.Put_no x key v hx hr⟩
  | true =>
    by_cases hk : key.length ≤ 32
    · by_cases hv : v.length ≤ 1024
      · exact .inl ⟨rfl, hk, hv, Te.Put_ok x key v hx hr hk hv⟩
      · exact .inr ⟨2, by decide, by decide, Te.Put_long x key v hx hr hk (by omega)⟩
    · exact .inr ⟨3, by decide, by decide, Te.Put_key x key v hx hr (by omega)⟩
/-- A put tree's node. -/
theorem put_right {x : Rn} {key v : List UInt8} (hr : rt x 0 = true) (hk : key.length ≤ 32) (hv : v.length ≤ 1024) : Right (Tr.put (toN x) (keyP key) v) 0 := right_put _ _ _ 0 (rt_right _ x 0 (Nat.le_refl _) hr) (by rw [Nat.zero_add]; exact keyP_ends hk) hv
theorem put_size {x : Rn} {key v : List UInt8} (hr : rt x 0 = true) (hk : key.length ≤ 32) (hv : v.length ≤ 1024) : (ofN (Tr.put (toN x) (keyP key) v)).size ≤ x.size + 2000 := by
  have h := size_put hr (keyP key) v
  have := keyP_le hk
  omega
namespace Te
set_option maxHeartbeats 4000000 in
theorem TreeRead (x : Rn) (key value other : List UInt8) (hx : x.size + 2 ≤ 1048576) (ho : other.length ≤ 1048576) : LF Try.prog 4 [rnV x, bV key, bV value, bV other] (fun _ => .k (.bool true)) none := by
  have c1 := alive7_
  have hk4 := rnC_len x
  have hrf := tr_refs
  have hcv := tr_cv2
  rcases Put_ x key value (by omega) with ⟨hr, hk, hv, c2⟩ | ⟨e, h1, h2, c2⟩
  · have hy := put_right hr hk hv
    have hys := put_size hr hk hv
    have c4 := Right_ _ (show (ofN (Tr.put (toN x) (keyP key) value)).size < 1000000000 by omega)
    rw [rt_of _ 0 hy] at c4
    have c3 := Get_ok (ofN (Tr.put (toN x) (keyP key) value)) key (by omega) (rt_of _ 0 hy) hk
    rw [toN_of, get_put, if_pos rfl] at c3
    have hn1 := neS_f value
    by_cases hol : other.length ≤ 32
    · by_cases hoe : other = key
      · subst hoe
        have hs := eqS (decide_eq_true (rfl : other = other))
        generalize ofN (Tr.put (toN x) (keyP other) value) = y at *
        have hk5 := rnC_len y
        refine LFx.mk' tt Try.func4 rfl rfl rfl (by kernel_rfl) rfl rfl fun F => ?_
        exact wk trueW trueW trueW
      · have hs := eqS (decide_eq_false hoe)
        have c5 := Get_ok (ofN (Tr.put (toN x) (keyP key) value)) other (by omega) (rt_of _ 0 hy) hol
        rw [toN_of, get_put, if_neg fun e => hoe (keyP_inj e)] at c5
        have c6 := Get_ok x other (by omega) hr hol
        have hs2 := eqS (decide_eq_true (rfl : Tr.get (toN x) (keyP other) = Tr.get (toN x) (keyP other)))
        generalize Tr.get (toN x) (keyP other) = G at *
        generalize ofN (Tr.put (toN x) (keyP key) value) = y at *
        have hk5 := rnC_len y
        refine LFx.mk' tt Try.func4 rfl rfl rfl (by kernel_rfl) rfl rfl fun F => ?_
        exact wk trueW trueW trueW
    · generalize ofN (Tr.put (toN x) (keyP key) value) = y at *
      have hk5 := rnC_len y
      refine LFx.mk' tt Try.func4 rfl rfl rfl (by kernel_rfl) rfl rfl fun F => ?_
      exact wk trueW trueW trueW
  · have c3 := no_same
    rw [no_lit] at c2 c3
    refine LFx.mk' tt Try.func4 rfl rfl rfl (by kernel_rfl) rfl rfl fun F => ?_
    exact wk trueW trueW trueW
end Te
end Lf
end Go.Proofs.Ytefidcaaiimkeaa

/- Package tree: the laws' walks: TreeOrder, TreeGone, TreeOne. -/
namespace Go.Proofs.Ytefidcaaiimkeaa
open Go.RowKit Rg Rp Wm Ar
set_option linter.unusedVariables false
set_option maxRecDepth 100000
namespace Lf
open Tr
theorem Same_t (x y : Rn) (hx : x.size < 999999999) (hy : y.size < 1000000000) (h1 : rt x 0 = true) (h2 : rt y 0 = true) (e : toN x = toN y) : LF Try.prog 12 [rnV x, rnV y] (fun _ => .k (.bool true)) none := by
  have h := Te.SameNode_ x.size x y (Nat.le_refl _) (by omega) hy
  rw [(sm_iff _ x y 0 0 (Nat.le_refl _) h1 h2).2 e] at h
  exact h
theorem Get_ (x : Rn) (key : List UInt8) (hx : x.size < 1000000000) :
    (rt x 0 = true ∧ key.length ≤ 32 ∧ LF Try.prog 14 [rnV x, bV key] (fun _ => .t [bV (Tr.get (toN x) (keyP key)), erV 0]) none) ∨
    ∃ e : Nat, 1 ≤ e ∧ e ≤ 3 ∧ LF Try.prog 14 [rnV x, bV key] (fun _ => .t [bV [], erV e]) none := by
  cases hr : rt x 0 with
  | false => exact .inr ⟨1, by decide, by decide, Te.Get_no x key hx hr⟩
  | true =>
    by_cases hk : key.length ≤ 32
    · exact .inl ⟨rfl, hk, Te.Get_ok x key hx hr hk⟩
    · exact .inr ⟨3, by decide, by decide, Te.Get_key x key hx hr (by omega)⟩
theorem Put_again {x : Rn} {k1 v1 : List UInt8} (k2 v2 : List UInt8) (hx : x.size + 2 ≤ 1048576) (hr : rt x 0 = true) (h1 : k1.length ≤ 32) (hv1 : v1.length ≤ 1024) (h2 : k2.length ≤ 32) (hv2 : v2.length ≤ 1024) :
    LF Try.prog 13 [rnV (ofN (Tr.put (toN x) (keyP k1) v1)), bV k2, bV v2] (fun _ => .t [rnV (ofN (Tr.put (Tr.put (toN x) (keyP k1) v1) (keyP k2) v2)), erV 0]) none := by
  have hs := put_size hr h1 hv1
  have h := Te.Put_ok (ofN (Tr.put (toN x) (keyP k1) v1)) k2 v2 (by omega) (rt_of _ 0 (put_right hr h1 hv1)) h2 hv2
  rw [toN_of] at h
  exact h
/-- The pairs tell the tree. -/
theorem pairs_back {n : Nd} (h : Right n 0) : (pairsOf n).map pkP = pairs n [] := by
  unfold pairsOf
  rw [List.map_map]
  conv => rhs; rw [← List.map_id (pairs n [])]
  apply List.map_congr_left
  intro e he
  obtain ⟨q, w⟩ := e
  obtain ⟨r, e1, e2, e3⟩ := (mem_pairs n [] 0 h q w).1 he
  rw [List.nil_append] at e1
  subst e1
  have := get_ends h q (by rw [e2]; exact e3)
  rw [Nat.zero_add] at this
  show (keyP (keyB q), w) = (q, w)
  rw [keyP_B this.1]
theorem pairs_inj {a b : Nd} (ha : Right a 0) (hb : Right b 0) : pairsOf a = pairsOf b ↔ a = b := by
  constructor
  · intro h
    refine pairs_ext ha hb ?_
    rw [← pairs_back ha, ← pairs_back hb, h]
  · rintro rfl; rfl
theorem pairsOf_len (x : Rn) : (pairsOf (toN x)).length ≤ x.size := by
  unfold pairsOf
  rw [List.length_map]
  exact pairs_size _ x [] (Nat.le_refl _)
namespace Te
set_option maxHeartbeats 4000000 in
theorem TreeGone (x : Rn) (key value : List UInt8) (hx : x.size + 2 ≤ 1048576) : LF Try.prog 6 [rnV x, bV key, bV value] (fun _ => .k (.bool true)) none := by
  have c1 := alive7_
  have hk4 := rnC_len x
  have hrf := tr_refs
  have hcv := tr_cv2
  rcases Put_ x key value (by omega) with ⟨hr, hk, hv, c2⟩ | ⟨e, h1, h2, c2⟩
  · have c3 := Get_ok x key (by omega) hr hk
    have hR := rt_right _ x 0 (Nat.le_refl _) hr
    have hl := get_len hR (keyP key)
    have c4 := Put_again (x := x) (k1 := key) (v1 := value) key (Tr.get (toN x) (keyP key)) hx hr hk hv hk hl
    rw [put_back hR (keyP_ends hk) hv hl] at c4
    have hsz := size_toN hr
    have c5 := Same_t (ofN (toN x)) x (by omega) (by omega) (rt_of _ 0 hR) hr (toN_of _)
    generalize Tr.get (toN x) (keyP key) = G at *
    generalize ofN (Tr.put (toN x) (keyP key) value) = y at *
    generalize ofN (toN x) = z at *
    have hk5 := rnC_len y
    have hk6 := rnC_len z
    refine LFx.mk' tt Try.func6 rfl rfl rfl (by kernel_rfl) rfl rfl fun F => ?_
    exact wk trueW trueW trueW
  · rw [no_lit] at c2
    rcases Get_ x key (by omega) with ⟨_, _, c3⟩ | ⟨e', h3, h4, c3⟩
    · generalize Tr.get (toN x) (keyP key) = G at *
      refine LFx.mk' tt Try.func6 rfl rfl rfl (by kernel_rfl) rfl rfl fun F => ?_
      exact wk trueW trueW trueW
    · refine LFx.mk' tt Try.func6 rfl rfl rfl (by kernel_rfl) rfl rfl fun F => ?_
      exact wk trueW trueW trueW
set_option maxHeartbeats 4000000 in
theorem TreeOrder (x : Rn) (k1 v1 k2 v2 : List UInt8) (hx : x.size + 2 ≤ 1048576) : LF Try.prog 5 [rnV x, bV k1, bV v1, bV k2, bV v2] (fun _ => .k (.bool true)) none := by
  have c1 := alive7_
  have hk4 := rnC_len x
  have hrf := tr_refs
  have hcv := tr_cv2
  rcases Put_ x k1 v1 (by omega) with ⟨hr, h1, hv1, c2⟩ | ⟨e, he1, he2, c2⟩
  · rcases Put_ x k2 v2 (by omega) with ⟨_, h2, hv2, c3⟩ | ⟨e, he1, he2, c3⟩
    · have hR := rt_right _ x 0 (Nat.le_refl _) hr
      have r1 := put_right hr h1 hv1
      have r2 := put_right hr h2 hv2
      have s1 := put_size hr h1 hv1
      have s2 := put_size hr h2 hv2
      have c4 := Put_again (x := x) (k1 := k1) (v1 := v1) k2 v2 hx hr h1 hv1 h2 hv2
      have c5 := Put_again (x := x) (k1 := k2) (v1 := v2) k1 v1 hx hr h2 hv2 h1 hv1
      by_cases hk : k1 = k2
      · subst hk
        rw [put_last hR (keyP_ends h1) hv1 hv2] at c4
        rw [put_last hR (keyP_ends h1) hv2 hv1] at c5
        have c6 := SameNode_ _ (ofN (Tr.put (toN x) (keyP k1) v2)) (ofN (Tr.put (toN x) (keyP k1) v1)) (Nat.le_refl _) (by omega) (by omega)
        have c7 := Same_t (ofN (Tr.put (toN x) (keyP k1) v2)) (ofN (Tr.put (toN x) (keyP k1) v2)) (by omega) (by omega) (rt_of _ 0 r2) (rt_of _ 0 r2) rfl
        have c8 := Same_t (ofN (Tr.put (toN x) (keyP k1) v1)) (ofN (Tr.put (toN x) (keyP k1) v1)) (by omega) (by omega) (rt_of _ 0 r1) (rt_of _ 0 r1) rfl
        have hs := eqS (decide_eq_true (rfl : k1 = k1))
        generalize ofN (Tr.put (toN x) (keyP k1) v1) = A at *
        generalize ofN (Tr.put (toN x) (keyP k1) v2) = B at *
        have hk5 := rnC_len A
        have hk6 := rnC_len B
        cases hsm : sm B A with
        | true =>
          rw [hsm] at c6
          refine LFx.mk' tt Try.func5 rfl rfl rfl (by kernel_rfl) rfl rfl fun F => ?_
          exact wk trueW trueW trueW
        | false =>
          rw [hsm] at c6
          refine LFx.mk' tt Try.func5 rfl rfl rfl (by kernel_rfl) rfl rfl fun F => ?_
          exact wk trueW trueW trueW
      · rw [← put_comm hR (keyP_ends h1) (keyP_ends h2) hv1 hv2 fun e => hk (keyP_inj e)] at c5
        have r3 : Right (Tr.put (Tr.put (toN x) (keyP k1) v1) (keyP k2) v2) 0 := right_put _ _ _ 0 r1 (by rw [Nat.zero_add]; exact keyP_ends h2) hv2
        have s3 := size_put2 (Tr.put (toN x) (keyP k1) v1) (keyP k2) v2
        have := keyP_le h2
        have c6 := Same_t (ofN (Tr.put (Tr.put (toN x) (keyP k1) v1) (keyP k2) v2)) (ofN (Tr.put (Tr.put (toN x) (keyP k1) v1) (keyP k2) v2)) (by omega) (by omega) (rt_of _ 0 r3) (rt_of _ 0 r3) rfl
        generalize ofN (Tr.put (Tr.put (toN x) (keyP k1) v1) (keyP k2) v2) = C at *
        generalize ofN (Tr.put (toN x) (keyP k1) v1) = A at *
        generalize ofN (Tr.put (toN x) (keyP k2) v2) = B at *
        have hk5 := rnC_len A
        have hk6 := rnC_len B
        have hk7 := rnC_len C
        refine LFx.mk' tt Try.func5 rfl rfl rfl (by kernel_rfl) rfl rfl fun F => ?_
        exact wk trueW trueW trueW
    · generalize ofN (Tr.put (toN x) (keyP k1) v1) = A at *
      have hk5 := rnC_len A
      rw [no_lit] at c3
      refine LFx.mk' tt Try.func5 rfl rfl rfl (by kernel_rfl) rfl rfl fun F => ?_
      exact wk trueW trueW trueW
  · rw [no_lit] at c2
    rcases Put_ x k2 v2 (by omega) with ⟨_, h2, hv2, c3⟩ | ⟨e', he3, he4, c3⟩
    · generalize ofN (Tr.put (toN x) (keyP k2) v2) = B at *
      have hk6 := rnC_len B
      refine LFx.mk' tt Try.func5 rfl rfl rfl (by kernel_rfl) rfl rfl fun F => ?_
      exact wk trueW trueW trueW
    · rw [no_lit] at c3
      refine LFx.mk' tt Try.func5 rfl rfl rfl (by kernel_rfl) rfl rfl fun F => ?_
      exact wk trueW trueW trueW
set_option maxHeartbeats 4000000 in
theorem TreeOne (x y : Rn) (hx : x.size + 2 ≤ 1048576) (hy : y.size + 2 ≤ 1048576) : LF Try.prog 3 [rnV x, rnV y] (fun _ => .k (.bool true)) none := by
  have c1 := alive7_
  have hk4 := rnC_len x
  have hk5 := rnC_len y
  have hrf := tr_refs
  have hcv := tr_cv2
  have c2 := Right_ x (by omega)
  have c3 := Right_ y (by omega)
  cases hrx : rt x 0 with
  | false =>
    rw [hrx] at c2
    refine LFx.mk' tt Try.func3 rfl rfl rfl (by kernel_rfl) rfl rfl fun F => ?_
    exact wk trueW trueW trueW
  | true =>
    rw [hrx] at c2
    cases hry : rt y 0 with
    | false =>
      rw [hry] at c3
      refine LFx.mk' tt Try.func3 rfl rfl rfl (by kernel_rfl) rfl rfl fun F => ?_
      exact wk trueW trueW trueW
    | true =>
      rw [hry] at c3
      have hR1 := rt_right _ x 0 (Nat.le_refl _) hrx
      have hR2 := rt_right _ y 0 (Nat.le_refl _) hry
      have l1 := pairsOf_len x
      have l2 := pairsOf_len y
      have c4 := Pairs_ok x (by omega) hrx
      have c5 := Pairs_ok y (by omega) hry
      have c6 := SamePairs_ (pairsOf (toN x)) (pairsOf (toN y)) (by omega) (by omega)
      have c7 := SameNode_ _ x y (Nat.le_refl _) (by omega) (by omega)
      have he : decide (pairsOf (toN x) = pairsOf (toN y)) = sm x y := by
        by_cases h : toN x = toN y
        · rw [(sm_iff _ x y 0 0 (Nat.le_refl _) hrx hry).2 h]
          exact decide_eq_true ((pairs_inj hR1 hR2).2 h)
        · rw [Bool.eq_false_iff.2 fun e => h ((sm_iff _ x y 0 0 (Nat.le_refl _) hrx hry).1 e)]
          exact decide_eq_false fun e => h ((pairs_inj hR1 hR2).1 e)
      rw [he] at c6
      generalize pairsOf (toN x) = L at *
      generalize pairsOf (toN y) = M at *
      clear he
      cases hsm : sm x y with
      | true =>
        rw [hsm] at c6 c7
        refine LFx.mk' tt Try.func3 rfl rfl rfl (by kernel_rfl) rfl rfl fun F => ?_
        exact wk trueW trueW trueW
      | false =>
        rw [hsm] at c6 c7
        refine LFx.mk' tt Try.func3 rfl rfl rfl (by kernel_rfl) rfl rfl fun F => ?_
        exact wk trueW trueW trueW
end Te
end Lf
end Go.Proofs.Ytefidcaaiimkeaa

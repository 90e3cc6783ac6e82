/- A part of the proof: texts joined. -/
import Derived.Test.YtkbimhccaacobaaQ17059249
namespace Go.Proofs.Ytkbimhccaacobaa
open Go.RowKit Rg
namespace Lf
structure Ms {σ : Type} (U : σ → Mem) : Prop where
 keys : ∀ s s', (U s).map (·.1) = (U s').map (·.1)
 nd : ∀ s, ((U s).map (·.1)).Nodup
 big : ∀ s, ((U s).all fun x => Nat.ble 1000 x.1) = true
 refs : ∀ s, refsM (U s) (U s) = true
theorem aget_mem_keys : ∀ {l : Mem} {i : Nat}, (aget l i).isSome = true ↔ i ∈ l.map (·.1)
 | [], i => by simp [aget]
 | (n, v) :: r, i => by
  rw [aget_cons, List.map_cons, List.mem_cons]
  by_cases h : n = i
  ·subst h; simp
  ·rw [if_neg h, aget_mem_keys]
   exact ⟨.inr, fun e => e.resolve_left fun e => h e.symm⟩
section
variable {σ : Type} {U : σ → Mem} (hU : Ms U)
include hU
theorem Ms.some_ {s s' : σ} {i : Nat} (h : (aget (U s) i).isSome = true) : (aget (U s') i).isSome = true := by
 rw [aget_mem_keys] at h ⊢
 rw [hU.keys s' s]; exact h
theorem Ms.none_ {s s' : σ} {i : Nat} (h : aget (U s) i = none) : aget (U s') i = none := by
 cases h' : aget (U s') i with
 | none => rfl
 | some m =>
  have := hU.some_ (s := s') (s' := s) (i := i) (by rw [h']; rfl)
  rw [h] at this; cases this
theorem Ms.small {s : σ} {i : Nat} (h : Nat.blt i 1000 = true) : aget (U s) i = none := by
 cases h' : aget (U s) i with
 | none => rfl
 | some m =>
  have h1 := Nat.le_of_ble_eq_true (List.all_eq_true.1 (hU.big s) _ (aget_mem h'))
  have h2 : i < 1000 := Nat.le_of_ble_eq_true h
  exact absurd h1 (by simp; omega)
theorem Ms.keysOk {s s' : σ} : keysOk (U s) (U s') = true := by
 unfold Lf.keysOk
 rw [List.all_eq_true]
 intro x hx
 exact hU.some_ (s := s) (aget_mem_keys.2 (List.mem_map_of_mem hx))
theorem Ms.only {s s' : σ} (g : Gh) : g.only (U s) = g.only (U s') := by
 unfold Gh.only
 congr 1
 ·funext i
  by_cases h : (aget (U s) i).isSome = true
  ·rw [if_pos h, if_pos (hU.some_ h)]
  ·rw [if_neg h, if_neg fun e => h (hU.some_ e)]
 ·funext i
  by_cases h : (aget (U s) i).isSome = true
  ·rw [if_pos h, if_pos (hU.some_ h)]
  ·rw [if_neg h, if_neg fun e => h (hU.some_ e)]
end
theorem refs_mono {m m' : Mem} (h : ∀ i, (aget m i).isSome = true → (aget m' i).isSome = true) (v : V) : v.refs m = true → v.refs m' = true :=
 V.rec (motive_1 := fun v => v.refs m = true → v.refs m' = true) (motive_2 := fun l => V.refs.go m l = true → V.refs.go m' l = true)
  (fun _ _ => rfl) (fun _ ih => ih) (fun _ ih => ih) (fun o _ _ => match o with
   | none => fun _ => rfl
   | some r => h r) (fun _ => rfl) (fun b _ => h b) (fun b _ _ _ => h b) (fun _ _ _ => rfl)
  (fun _ _ _ h1 h2 hh => by simp only [V.refs, Bool.and_eq_true] at hh ⊢; exact ⟨h1 hh.1, h2 hh.2⟩) (fun _ _ ih => ih) (fun b _ _ _ _ => h b) (fun b _ _ => h b) (fun b => h b) (fun b => h b)
  (fun _ => rfl) (fun _ _ h1 h2 hh => by simp only [V.refs.go, Bool.and_eq_true] at hh ⊢; exact ⟨h1 hh.1, h2 hh.2⟩) v
theorem refs_go_mono {m m' : Mem} (h : ∀ i, (aget m i).isSome = true → (aget m' i).isSome = true) : ∀ {l : List V}, V.refs.go m l = true → V.refs.go m' l = true
 | [], _ => rfl
 | v :: r, hl => by
  simp only [V.refs.go, Bool.and_eq_true] at hl ⊢
  exact ⟨refs_mono h v hl.1, refs_go_mono h hl.2⟩
theorem refsM_mono {m m' : Mem} (h : ∀ i, (aget m i).isSome = true → (aget m' i).isSome = true) : ∀ {l : Mem}, refsM m l = true → refsM m' l = true
 | [], _ => rfl
 | (i, .b cs) :: r, hl => by
  simp only [refsM, Bool.and_eq_true] at hl ⊢
  exact ⟨refs_go_mono h hl.1, refsM_mono h hl.2⟩
 | (i, .r ..) :: r, hl => refsM_mono (l := r) h hl
 | (i, .w ..) :: r, hl => refsM_mono (l := r) h hl
 | (i, .m _) :: r, hl => refsM_mono (l := r) h hl
 | (i, .o _) :: r, hl => refsM_mono (l := r) h hl
 | (i, .x) :: r, hl => refsM_mono (l := r) h hl
theorem some_app_r {A T : Mem} (i : Nat) (h : (aget T i).isSome = true) : (aget (A ++ T) i).isSome = true := by
 rw [aget_append]
 cases aget A i with
 | some _ => rfl
 | none => simpa using h
theorem refsM_app {m : Mem} : ∀ {A B : Mem}, refsM m A = true → refsM m B = true → refsM m (A ++ B) = true
 | [], _, _, hb => hb
 | (i, .b cs) :: r, B, ha, hb => by
  simp only [List.cons_append, refsM, Bool.and_eq_true] at ha ⊢
  exact ⟨ha.1, refsM_app ha.2 hb⟩
 | (i, .r ..) :: r, _, ha, hb => refsM_app (A := r) ha hb
 | (i, .w ..) :: r, _, ha, hb => refsM_app (A := r) ha hb
 | (i, .m _) :: r, _, ha, hb => refsM_app (A := r) ha hb
 | (i, .o _) :: r, _, ha, hb => refsM_app (A := r) ha hb
 | (i, .x) :: r, _, ha, hb => refsM_app (A := r) ha hb
theorem refsM_tail {σ : Type} {U : σ → Mem} (hU : Ms U) (A : Mem) (s : σ) (h : refsM (A ++ U s) A = true) : refsM (A ++ U s) (A ++ U s) = true :=
 refsM_app h (refsM_mono some_app_r (hU.refs s))
theorem SubM.of {m : Mem} : ∀ {m' : Mem}, (∀ i z, aget m' i = some z → aget m i = some z) → (m'.map (·.1)).Nodup → SubM m m'
 | [], _, _ => trivial
 | (i, z) :: r, h, hn => by
  rw [List.map_cons, List.nodup_cons] at hn
  refine ⟨h i z (aget_self ..), SubM.of (fun j y hj => h j y ?_) hn.2⟩
  rw [aget_ne fun e => hn.1 (by rw [e]; exact aget_mem_keys.1 (by rw [hj]; rfl))]
  exact hj
theorem SubM.skip {m T : Mem} {i : Nat} {z : M} (h : SubM m T) (hi : aget T i = none) : SubM ((i, z) :: m) T := by
 induction T with
 | nil => trivial
 | cons y r ih =>
  obtain ⟨j, z⟩ := y
  rw [aget_cons] at hi
  split at hi
  ·cases hi
  ·rename_i e
   exact ⟨by rw [aget_ne (Ne.symm e)]; exact h.1, ih h.2 hi⟩
theorem Ms.sub {σ : Type} {U : σ → Mem} (hU : Ms U) (s : σ) (X : Mem) : SubM (U s ++ X) (U s) :=
 SubM.of (fun i z h => by rw [aget_append, h]; rfl) (hU.nd s)
theorem LI.congr {P : Program} {f : Nat} {args : List V} {mi mi' : Mem} {Y Y' : Gh → World → Prop} {R R' : Out → Mem → Prop} (h : LI P f args mi Y R) (he : ∀ i, aget mi i = aget mi' i) (hY : ∀ g w, Y' g w → Y g w) (hR : ∀ o m, R o m → ∃ m', R' o m' ∧ ∀ i, aget m i = aget m' i) : LI P f args mi' Y' R' := by
 have hl : ∀ g w, lentF g mi w = lentF g mi' w := fun g w => by
  unfold lentF
  congr 1
  funext b o
  refine propext ⟨?_, ?_⟩
  ·rintro ⟨i, m, hi, hp⟩; exact ⟨i, m, by rw [← he]; exact hi, hp⟩
  ·rintro ⟨i, m, hi, hp⟩; exact ⟨i, m, by rw [he]; exact hi, hp⟩
 refine ⟨h.ok, fun g w vals hy hm hlen hr => ?_⟩
 rw [← hl] at hm ⊢
 refine Calls.mono (h.go g w vals (hY g w hy) (hm.congr fun i => (he i).symm) hlen hr) ?_
 rintro e w' ⟨o, mo, g', hRo, h1, h2, h3, h4⟩
 obtain ⟨m', k1, k2⟩ := hR o mo hRo
 exact ⟨o, m', g', k1, h1, h2.congr k2, h3, h4⟩
end Lf
open Go.RowKit Rg Wm Ar
set_option maxRecDepth 100000
namespace Lf
open Tr
abbrev Al := Pa × List UInt8
section
variable {σ : Type}
def runI (go : σ → Al → Bool) (nx : σ → Al → σ) : σ → List Al → σ × Bool
 | s, [] => (s, true)
 | s, x :: l => cond (go s x) (runI go nx (nx s x) l) (nx s x, false)
def okI (ok : σ → Al → Prop) (go : σ → Al → Bool) (nx : σ → Al → σ) : σ → List Al → Prop
 | _, [] => True
 | s, x :: l => ok s x ∧ (go s x = true → okI ok go nx (nx s x) l)
variable {ok : σ → Al → Prop} {go : σ → Al → Bool} {nx : σ → Al → σ}
end
theorem nd_ren (ρ : Nat → Nat) : ∀ n : Nd, (ndV n).ren ρ = ndV n
 | .no => by rw [ndV_no]; rfl
 | .leaf p v => by rw [ndV_leaf]; rfl
 | .road p k => by rw [ndV_road]; simp only [V.ren, V.ren.go, nd_ren ρ k]
 | .fork ks v => by
  rw [ndV_fork, fk_list]
  simp only [V.ren, V.ren.go, nd_ren ρ (ks 0), nd_ren ρ (ks 1), nd_ren ρ (ks 2), nd_ren ρ (ks 3), nd_ren ρ (ks 4), nd_ren ρ (ks 5), nd_ren ρ (ks 6), nd_ren ρ (ks 7), nd_ren ρ (ks 8), nd_ren ρ (ks 9), nd_ren ρ (ks 10), nd_ren ρ (ks 11), nd_ren ρ (ks 12), nd_ren ρ (ks 13), nd_ren ρ (ks 14), nd_ren ρ (ks 15)]
def YsA {σ : Type} (U : σ → Mem) (ok : σ → Al → Prop) (go : σ → Al → Bool) (nx : σ → Al → σ) (y : Nat) (g : Gh) (w : World) : Prop :=
 ∀ s x, ok s x → LY Try.prog (g.only (U s)) w y [bV (pB x.1), bV x.2] (U s) fun q m => q = .ret (.k (.bool (go s x))) ∧ m = U (nx s x)
def bxA (kn kp : Nat) (n : Nd) (p : Pa) : Mem := [(kn, .b [ndV n]), (kp, .b [bV (pB p)])]
def AllC (n : Nd) (p : Pa) : Prop := ∀ (σ : Type) (U : σ → Mem) (ok : σ → Al → Prop) (go : σ → Al → Bool) (nx : σ → Al → σ) (s0 : σ) (y kn kp : Nat), Ms U → (aget (U s0) y).isSome = true → aget (U s0) kn = none → aget (U s0) kp = none → kn ≠ kp → 1000 ≤ kn → 1000 ≤ kp → okI ok go nx s0 (pairs n p) →
 LI Try.prog 98 [.y y, .p kn 0, .p kp 0] (bxA kn kp n p ++ U s0) (YsA U ok go nx y) fun q m => q = .ret (.t []) ∧ m = bxA kn kp n p ++ U (runI go nx s0 (pairs n p)).1
def AllT (n : Nd) (p : Pa) : Prop := ∀ (σ : Type) (U : σ → Mem) (ok : σ → Al → Prop) (go : σ → Al → Bool) (nx : σ → Al → σ) (s0 : σ), Ms U → (aget (U s0) 1999).isSome = true → (∀ i ∈ [1001, 1002, 1003, 1998, 1011, 1012], aget (U s0) i = none) → okI ok go nx s0 (pairs n p) →
 LI Try.prog 98 [.y 1999, .p 1001 0, .p 1002 0] (bxA 1001 1002 n p ++ U s0) (YsA U ok go nx 1999) fun q m => q = .ret (.t []) ∧ m = bxA 1001 1002 n p ++ U (runI go nx s0 (pairs n p)).1
theorem fresh4 (L : List Nat) : ∃ a b c d, 1000 ≤ a ∧ a < b ∧ b < c ∧ c < d ∧ ∀ x ∈ L, x < a := by
 have key : ∀ L : List Nat, ∃ m, ∀ x ∈ L, x < m := by
  intro L
  induction L with
  | nil => exact ⟨0, fun x hx => by cases hx⟩
  | cons a r ih =>
   obtain ⟨m, hm⟩ := ih
   refine ⟨max m (a + 1), fun x hx => ?_⟩
   rcases List.mem_cons.1 hx with rfl | hx
   ·omega
   ·have := hm x hx; omega
 obtain ⟨m, hm⟩ := key L
 exact ⟨m + 1000, m + 1001, m + 1002, m + 1003, by omega, by omega, by omega, by omega, fun x hx => by have := hm x hx; omega⟩
theorem exists_pmf : ∀ (ks is : List Nat), ks.Nodup → is.Nodup → ks.length = is.length → ∃ ρ : Pm, ks.map ρ.f = is ∧ ∀ i, i ∉ ks → i ∉ is → ρ.f i = i
 | [], [], _, _, _ => ⟨⟨id, id, fun _ => rfl, fun _ => rfl⟩, rfl, fun _ _ _ => rfl⟩
 | [], _ :: _, _, _, h => by simp at h
 | _ :: _, [], _, _, h => by simp at h
 | k :: ks, i :: is, hk, hi, h => by
  obtain ⟨ρ, hρ, hfix⟩ := exists_pmf ks is (List.nodup_cons.1 hk).2 (List.nodup_cons.1 hi).2 (by simpa using h)
  refine ⟨(Pm.swap (ρ.f k) i).comp ρ, ?_, fun j hj1 hj2 => ?_⟩
  ·rw [List.map_cons]
   congr 1
   ·simp [Pm.comp, Pm.swap, swapF]
   ·rw [← hρ]
    refine List.map_congr_left fun j hj => ?_
    have h1 : ρ.f j ≠ ρ.f k := fun e => (List.nodup_cons.1 hk).1 (ρ.inj e ▸ hj)
    have h2 : ρ.f j ≠ i := fun e => (List.nodup_cons.1 hi).1 (by rw [← e, ← hρ]; exact List.mem_map_of_mem hj)
    simp [Pm.comp, Pm.swap, swapF, h1, h2]
  ·have e := hfix j (fun h => hj1 (by simp [h])) (fun h => hj2 (by simp [h]))
   have h1 : ρ.f j ≠ ρ.f k := fun e2 => hj1 (by rw [ρ.inj e2]; simp)
   have h2 : ρ.f j ≠ i := fun e2 => hj2 (by rw [← e2, e]; simp)
   show swapF (ρ.f k) i (ρ.f j) = j
   unfold swapF
   rw [if_neg h1, if_neg h2, e]
theorem isSome_ren (ρ : Pm) (m : Mem) (i : Nat) : (aget (Mem.ren ρ.f m) (ρ.f i)).isSome = (aget m i).isSome := by rw [aget_ren]; cases aget m i <;> rfl
theorem refs_ren (ρ : Pm) (m : Mem) (v : V) : (v.ren ρ.f).refs (Mem.ren ρ.f m) = v.refs m :=
 V.rec (motive_1 := fun v => (v.ren ρ.f).refs (Mem.ren ρ.f m) = v.refs m) (motive_2 := fun l => V.refs.go (Mem.ren ρ.f m) (V.ren.go ρ.f l) = V.refs.go m l)
  (fun _ => rfl) (fun _ ih => ih) (fun _ ih => ih) (fun o _ _ => match o with
   | none => rfl
   | some r => isSome_ren ρ m r) rfl (fun b _ => isSome_ren ρ m b) (fun b _ _ _ => isSome_ren ρ m b) (fun _ _ => rfl)
  (fun _ _ _ h1 h2 => by simp only [V.ren, V.refs, h1, h2]) (fun _ _ ih => ih) (fun b _ _ _ _ => isSome_ren ρ m b) (fun b _ _ => isSome_ren ρ m b) (fun b => isSome_ren ρ m b) (fun b => isSome_ren ρ m b)
  rfl (fun _ _ h1 h2 => by simp only [V.ren.go, V.refs.go, h1, h2]) v
theorem refs_go_ren (ρ : Pm) (m : Mem) : ∀ l : List V, V.refs.go (Mem.ren ρ.f m) (l.map (V.ren ρ.f)) = V.refs.go m l
 | [] => rfl
 | v :: r => by rw [List.map_cons, V.refs.go, V.refs.go, refs_ren, refs_go_ren ρ m r]
theorem refsM_ren (ρ : Pm) (m : Mem) : ∀ l : Mem, refsM (Mem.ren ρ.f m) (Mem.ren ρ.f l) = refsM m l
 | [] => rfl
 | (i, .b cs) :: r => by
  show (V.refs.go (Mem.ren ρ.f m) (cs.map (V.ren ρ.f)) && refsM (Mem.ren ρ.f m) (Mem.ren ρ.f r)) = _
  rw [refs_go_ren, refsM_ren ρ m r]; rfl
 | (i, .r ..) :: r => refsM_ren ρ m r
 | (i, .w ..) :: r => refsM_ren ρ m r
 | (i, .m _) :: r => refsM_ren ρ m r
 | (i, .o _) :: r => refsM_ren ρ m r
 | (i, .x) :: r => refsM_ren ρ m r
theorem only_pull (ρ : Pm) (g : Gh) (T : Mem) : (g.only T).pull ρ.f = (g.pull ρ.f).only (Mem.ren ρ.inv.f T) := by
 have e : ∀ i, (aget (Mem.ren ρ.inv.f T) i).isSome = (aget T (ρ.f i)).isSome := fun i => by
  have := isSome_ren ρ.inv T (ρ.f i)
  rw [show ρ.inv.f (ρ.f i) = i from ρ.gf i] at this
  exact this
 unfold Gh.only Gh.pull
 simp only [e]
theorem ren_keys (ρ : Nat → Nat) (m : Mem) : (Mem.ren ρ m).map (·.1) = (m.map (·.1)).map ρ := by
 unfold Mem.ren
 rw [List.map_map, List.map_map]
 rfl
theorem Ms.ren {σ : Type} {U : σ → Mem} (hU : Ms U) (ρ : Pm) (hb : ∀ i, 1000 ≤ i → 1000 ≤ ρ.f i) : Ms fun s => Mem.ren ρ.f (U s) := by
 refine ⟨fun s s' => by rw [ren_keys, ren_keys, hU.keys s s'], fun s => ?_, fun s => ?_, fun s => by rw [refsM_ren]; exact hU.refs s⟩
 ·rw [ren_keys]
  exact List.Pairwise.map _ (fun a b h e => h (ρ.inj e)) (hU.nd s)
 ·rw [List.all_eq_true]
  intro x hx
  obtain ⟨y, hy, rfl⟩ := List.mem_map.1 hx
  have := Nat.le_of_ble_eq_true (List.all_eq_true.1 (hU.big s) y hy)
  exact Nat.ble_eq_true_of_le (hb _ this)
theorem AllT.gen {n : Nd} {p : Pa} (h : AllT n p) : AllC n p := by
 intro σ U ok go nx s0 y kn kp hU hy hn hp hne h1 h2 hok
 obtain ⟨a, b, c, d, q1, q2, q3, q4, q5⟩ := fresh4 ([y, kn, kp] ++ (U s0).map (·.1))
 have qy := q5 y (by simp)
 have qn := q5 kn (by simp)
 have qp := q5 kp (by simp)
 have qU : ∀ j, a ≤ j → aget (U s0) j = none := fun j hj => by
  cases hg : aget (U s0) j with
  | none => rfl
  | some m =>
   have := q5 j (List.mem_append_right _ (aget_mem_keys.1 (by rw [hg]; rfl)))
   omega
 have hyn : y ≠ kn := fun e => by rw [e, hn] at hy; cases hy
 have hyp : y ≠ kp := fun e => by rw [e, hp] at hy; cases hy
 have hy1 : 1000 ≤ y := by
  rcases Nat.lt_or_ge y 1000 with h | h
  ·have := hU.small (s := s0) (i := y) (Nat.ble_eq_true_of_le h)
   rw [this] at hy; cases hy
  ·exact h
 obtain ⟨ρ, hρ, hfix⟩ := exists_pmf [1999, 1001, 1002, 1003, 1998, 1011, 1012] [y, kn, kp, a, b, c, d] (by decide) (by simp; omega) rfl
 simp only [List.map_cons, List.map_nil, List.cons.injEq, and_true] at hρ
 obtain ⟨r1, r2, r3, r4, r5, r6, r7⟩ := hρ
 have hbig : ∀ i, 1000 ≤ i → 1000 ≤ ρ.inv.f i := fun i hi => by
  rcases Nat.lt_or_ge (ρ.inv.f i) 1000 with hlt | hge
  ·exfalso
   have e : ρ.f (ρ.inv.f i) = ρ.inv.f i := hfix _ (by simp; omega) (by simp; omega)
   have e2 : ρ.f (ρ.inv.f i) = i := ρ.fg i
   omega
  ·exact hge
 have inv : ∀ {i j}, ρ.f i = j → ρ.inv.f j = i := fun {i j} e => by rw [← e]; exact ρ.gf i
 have hav : ∀ i, aget (U s0) (ρ.f i) = none → aget (Mem.ren ρ.inv.f (U s0)) i = none := fun i hi => by
  have := aget_ren ρ.inv (U s0) (ρ.f i)
  rw [show ρ.inv.f (ρ.f i) = i from ρ.gf i, hi] at this
  exact this
 have h3 := h σ (fun s => Mem.ren ρ.inv.f (U s)) ok go nx s0 (hU.ren ρ.inv hbig) (by
  have := isSome_ren ρ.inv (U s0) y
  rw [inv r1] at this
  show (aget (Mem.ren ρ.inv.f (U s0)) 1999).isSome = true
  rw [this]; exact hy) (by
  intro i hi
  refine hav i ?_
  simp only [List.mem_cons, List.not_mem_nil, or_false] at hi
  rcases hi with rfl | rfl | rfl | rfl | rfl | rfl
  ·rw [r2]; exact hn
  ·rw [r3]; exact hp
  ·rw [r4]; exact qU _ (by omega)
  ·rw [r5]; exact qU _ (by omega)
  ·rw [r6]; exact qU _ (by omega)
  ·rw [r7]; exact qU _ (by omega)) hok
 have e1 : ∀ s, Mem.ren ρ.f (bxA 1001 1002 n p ++ Mem.ren ρ.inv.f (U s)) = bxA kn kp n p ++ U s := fun s => by
  have e0 : Mem.ren ρ.f (Mem.ren ρ.inv.f (U s)) = U s := memren_inv ρ.inv (U s)
  have : Mem.ren ρ.f (bxA 1001 1002 n p ++ Mem.ren ρ.inv.f (U s)) = Mem.ren ρ.f (bxA 1001 1002 n p) ++ Mem.ren ρ.f (Mem.ren ρ.inv.f (U s)) := List.map_append
  rw [this, e0]
  simp only [bxA, Mem.ren, List.map_cons, List.map_nil, M.ren, nd_ren, r2, r3]
  rfl
 have h4 := h3.ren ρ
 have e2 : [V.y 1999, V.p 1001 0, V.p 1002 0].map (V.ren ρ.f) = [.y y, .p kn 0, .p kp 0] := by
  simp only [List.map_cons, List.map_nil, V.ren, r1, r2, r3]
 rw [e1 s0, e2] at h4
 refine h4.congr (fun _ => rfl) (fun g w hY s x hx => ?_) fun o m hm => ?_
 ·have h5 := (hY s x hx).ren ρ.inv
  have e3 : (g.only (U s)).pull ρ.inv.g = (g.pull ρ.f).only (Mem.ren ρ.inv.f (U s)) := only_pull ρ g (U s)
  rw [e3, inv r1] at h5
  refine h5.mono ?_
  rintro o m ⟨o', m', ⟨rfl, rfl⟩, rfl, rfl⟩
  exact ⟨rfl, rfl⟩
 ·obtain ⟨o', m', ⟨rfl, rfl⟩, rfl, rfl⟩ := hm
  exact ⟨_, ⟨rfl, rfl⟩, fun i => by rw [e1]⟩
end Lf
open Go.RowKit Rg Wm Ar
set_option linter.unusedVariables false
set_option maxRecDepth 100000
namespace Lf
open Tr
inductive Tail (T : Mem) : Mem → Prop
 | nil : Tail T T
 | cons {i : Nat} {z : M} {m : Mem} (hi : aget T i = none) (h : Tail T m) : Tail T ((i, z) :: m)
theorem Tail.app {T m : Mem} (h : Tail T m) : ∃ A, m = A ++ T ∧ ∀ x ∈ A, aget T x.1 = none := by
 induction h with
 | nil => exact ⟨[], rfl, fun x hx => by cases hx⟩
 | @cons i z m hi _ ih =>
  obtain ⟨A, rfl, hA⟩ := ih
  refine ⟨(i, z) :: A, rfl, fun y hy => ?_⟩
  rcases List.mem_cons.1 hy with rfl | hy
  ·exact hi
  ·exact hA y hy
section
variable {σ : Type} {U : σ → Mem} (hU : Ms U)
include hU
end
theorem Tail.sub {σ : Type} {U : σ → Mem} (hU : Ms U) {s : σ} {mem : Mem} (h : Tail (U s) mem) : SubM mem (U s) := by
 induction h with
 | nil => have := hU.sub s []; rwa [List.append_nil] at this
 | cons hi _ ih => exact SubM.skip ih hi
namespace Te
end Te
end Lf
end Go.Proofs.Ytkbimhccaacobaa

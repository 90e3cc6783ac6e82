/- The lifted walk's loops; what names no memory, in lists that are not told one by one. -/
import Derived.Test.YtgeccggkdgpkiaaLq
namespace Go.Proofs.Ytgeccggkdgpkiaa
open Go.RowKit Rg
namespace Lf
/-- At a round's end: the head's state, of a lower measure. -/
structure LNext {α : Type} (I : α → Env) (J : α → Mem) (ok : α → Prop) (μ : α → Nat) (x : α) (env : Env) (mem : Mem) : Prop where
  ex : ∃ y, ok y ∧ μ y < μ x ∧ Sub env mem (I y) (J y)
theorem LNext.go {α : Type} {I : α → Env} {J : α → Mem} {ok : α → Prop} {μ : α → Nat} {x : α} {env : Env} {mem : Mem} {y : α} (he : SubE env (I y)) (hm : SubM mem (J y)) (hk : (mem.all fun x => Nat.blt x.1 1000 || (aget (J y) x.1).isSome) = true)
    (hrE : refsE (J y) (I y) = true) (hrM : refsM (J y) (J y) = true) (hok : ok y) (hlt : μ y < μ x) : LNext I J ok μ x env mem := ⟨y, hok, hlt, he, hm, by rw [hk, hrE, hrM]; rfl⟩
/-- The same, by a number and what came of it so far. -/
structure LNext2 {β : Type} (I : Nat → β → Env) (J : Nat → β → Mem) (ok : Nat → β → Prop) (μ : Nat → Nat) (i : Nat) (env : Env) (mem : Mem) : Prop where
  ex : ∃ y z, ok y z ∧ μ y < μ i ∧ Sub env mem (I y z) (J y z)
theorem LNext2.go {β : Type} {I : Nat → β → Env} {J : Nat → β → Mem} {ok : Nat → β → Prop} {μ : Nat → Nat} {i : Nat} {env : Env} {mem : Mem} {y : Nat} {z : β} (he : SubE env (I y z)) (hm : SubM mem (J y z)) (hk : (mem.all fun x => Nat.blt x.1 1000 || (aget (J y z) x.1).isSome) = true)
    (hrE : refsE (J y z) (I y z) = true) (hrM : refsM (J y z) (J y z) = true) (hok : ok y z) (hlt : μ y < μ i) : LNext2 I J ok μ i env mem := ⟨y, z, hok, hlt, he, hm, by rw [hk, hrE, hrM]; rfl⟩
/-- Put away. -/
structure Away (C : Prop) : Prop where
  out : C
theorem ble_map1 {α : Type} {l : List α} {f : α → V} {k : Nat} (h : k < l.length) : Nat.ble (k + 1) (l.map f).length = true := Nat.ble_eq_true_of_le (by rw [List.length_map]; exact h)
section
variable {P : Program} {F : Fr0} {N : Nat} {Q : LQ} {env : Env} {mem : Mem}
theorem LC.loopN {α : Type} {c : Code} (I : α → Env) (J : α → Mem) (ok : α → Prop) (μ : α → Nat) (x0 : α) (h0 : ok x0) (he : SubE env (I x0)) (hm : SubM mem (J x0)) (hk : (mem.all fun x => Nat.blt x.1 1000 || (aget (J x0) x.1).isSome) = true)
    (hrE : refsE (J x0) (I x0) = true) (hrM : refsM (J x0) (J x0) = true)
    (round : ∀ x, ok x → LC P F N c (LThen (LNext I J ok μ x) Q) (I x) (J x)) : LC P F N (.loop c) Q env mem :=
  LC.loop I J ok μ x0 h0 ⟨he, hm, by rw [hk, hrE, hrM]; rfl⟩ fun x hx => (round x hx).mono fun e env' mem' h => by
    cases e with
    | normal => exact h.ex
    | _ => exact h
theorem LC.loop2 {β : Type} {c : Code} (I : Nat → β → Env) (J : Nat → β → Mem) (ok : Nat → β → Prop) (μ : Nat → Nat) (i0 : Nat) (b0 : β) (h0 : ok i0 b0) (he : SubE env (I i0 b0)) (hm : SubM mem (J i0 b0)) (hk : (mem.all fun x => Nat.blt x.1 1000 || (aget (J i0 b0) x.1).isSome) = true)
    (hrE : refsE (J i0 b0) (I i0 b0) = true) (hrM : refsM (J i0 b0) (J i0 b0) = true)
    (round : ∀ i b, ok i b → LC P F N c (LThen (LNext2 I J ok μ i) Q) (I i b) (J i b)) : LC P F N (.loop c) Q env mem :=
  LC.loop (fun x : Nat × β => I x.1 x.2) (fun x => J x.1 x.2) (fun x => ok x.1 x.2) (fun x => μ x.1) (i0, b0) h0 ⟨he, hm, by rw [hk, hrE, hrM]; rfl⟩ fun x hx => (round x.1 x.2 hx).mono fun e env' mem' h => by
    cases e with
    | normal => obtain ⟨y, z, h1, h2, h3⟩ := h.ex; exact ⟨(y, z), h1, h2, h3⟩
    | _ => exact h
/-- Only some slots are looked at from here on. -/
theorem LC.less {c : Code} (env' : Env) (mem' : Mem) (he : SubE env env') (hm : SubM mem mem') (hk : (mem.all fun x => Nat.blt x.1 1000 || (aget mem' x.1).isSome) = true) (hrE : refsE mem' env' = true) (hrM : refsM mem' mem' = true) (h : LC P F N c Q env' mem') : LC P F N c Q env mem :=
  LC.weak ⟨he, hm, by rw [hk, hrE, hrM]; rfl⟩ h
end
theorem res1_cell {tab : Tab} {env : Env} {mem : Mem} {t T i off : Nat} {ti : TI} {cs : List V} {v : V} (h1 : aget env t = some (.p i off)) (h2 : aget tab T = some ti) (h3 : aget mem i = some (.b cs)) (h4 : ti.part cs off = some v) : res1 tab env mem (.cell t T) = some v := by
  simp [res1, h1, h2, h3, h4]
theorem resV_1 {tab : Tab} {env : Env} {mem : Mem} {r : ResultVar} {v : V} (h : res1 tab env mem r = some v) : resV tab env mem [r] = some v := h
theorem resV_2 {tab : Tab} {env : Env} {mem : Mem} {r s : ResultVar} {v u : V} (h : res1 tab env mem r = some v) (k : res1 tab env mem s = some u) : resV tab env mem [r, s] = some (.t [v, u]) := by simp [resV, resL, h, k]
theorem resV_3 {tab : Tab} {env : Env} {mem : Mem} {r s t : ResultVar} {v u z : V} (h : res1 tab env mem r = some v) (k : res1 tab env mem s = some u) (l : res1 tab env mem t = some z) : resV tab env mem [r, s, t] = some (.t [v, u, z]) := by simp [resV, resL, h, k, l]
theorem refs_mapq (mem : Mem) (l : List UInt64) : V.refs.go mem (l.map qK) = true := refs_of_all fun u hu => by obtain ⟨_, _, rfl⟩ := List.mem_map.1 hu; rfl
theorem refs_mapu (mem : Mem) (l : List Nat) : V.refs.go mem (l.map uK) = true := refs_of_all fun u hu => by obtain ⟨_, _, rfl⟩ := List.mem_map.1 hu; rfl
theorem refs_mapb (mem : Mem) (l : List UInt8) : V.refs.go mem (l.map bK) = true := refs_of_all fun u hu => by obtain ⟨_, _, rfl⟩ := List.mem_map.1 hu; rfl
theorem refs_append (mem : Mem) (a b : List V) : V.refs.go mem (a ++ b) = (V.refs.go mem a && V.refs.go mem b) := by
  induction a with
  | nil => rfl
  | cons v r ih => simp only [List.cons_append, V.refs.go, ih, Bool.and_assoc]
theorem pure_mapq (l : List UInt64) : V.pure.go (l.map qK) = true := pure_of_all fun u hu => by obtain ⟨_, _, rfl⟩ := List.mem_map.1 hu; rfl
theorem pure_mapu (l : List Nat) : V.pure.go (l.map uK) = true := pure_of_all fun u hu => by obtain ⟨_, _, rfl⟩ := List.mem_map.1 hu; rfl
theorem pure_mapb (l : List UInt8) : V.pure.go (l.map bK) = true := pure_of_all fun u hu => by obtain ⟨_, _, rfl⟩ := List.mem_map.1 hu; rfl
end Lf
end Go.Proofs.Ytgeccggkdgpkiaa

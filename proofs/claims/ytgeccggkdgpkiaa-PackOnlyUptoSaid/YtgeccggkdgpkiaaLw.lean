/- From plain contracts to lifted ones, and from a law's lifted contract to its claim. -/
import Derived.Test.YtgeccggkdgpkiaaLop5
namespace Go.Proofs.Ytgeccggkdgpkiaa
open Go.RowKit Rg
namespace Lf
/-- v reads as x and as nothing else. -/
def Exact (v : V) (x : Value) : Prop := (∀ w g, Rep w g v x) ∧ ∀ w g y, Rep w g v y → y = x
theorem exact_k (x : Value) : Exact (.k x) x := ⟨fun _ _ => .k x, fun _ _ _ h => rep_k h⟩
theorem exact_pair {a b : V} {x y : Value} (ha : Exact a x) (hb : Exact b y) : Exact (.t [a, b]) (.tuple #[x, y]) := by
  refine ⟨fun w g => .t rfl (fun j u z hj hz => ?_), fun w g z h => ?_⟩
  · match j with
    | 0 => simp at hj hz; subst hj; subst hz; exact ha.1 w g
    | 1 => simp at hj hz; subst hj; subst hz; exact hb.1 w g
    | j + 2 => simp at hj
  · cases h with
    | @t _ _ vs hl hc =>
      have hs : vs.size = 2 := by simpa using hl.symm
      congr 1
      apply Array.ext
      · simpa using hs
      · intro i h1 h2
        have hv : vs[i]? = some vs[i] := Array.getElem?_eq_getElem h1
        match i with
        | 0 => exact ha.2 w g _ (hc 0 _ _ rfl hv)
        | 1 => exact hb.2 w g _ (hc 1 _ _ rfl hv)
        | i + 2 => omega
theorem args_exact {args : List V} {xs : List Value} (h : args.length = xs.length) (he : ∀ (j : Nat) u x, args[j]? = some u → xs[j]? = some x → Exact u x) {w : World} {g : Gh} {vals : Array Value} (hl : args.length = vals.size) (hr : ∀ (j : Nat) u x, args[j]? = some u → vals[j]? = some x → Rep w g u x) : vals = xs.toArray := by
  apply Array.ext
  · simp; omega
  · intro i h1 h2
    have hv : vals[i]? = some vals[i] := Array.getElem?_eq_getElem h1
    have ha : args[i]? = some args[i] := List.getElem?_eq_getElem (by omega)
    have hx : xs[i]? = some xs[i] := List.getElem?_eq_getElem (by simpa using h2)
    have := (he i _ _ ha hx).2 w g _ (hr i _ _ ha hv)
    rw [this]; rfl
/-- From a contract on plain values. -/
theorem LF.of_calls {P : Program} {f : Nat} {args : List V} {xs : List Value} {out : V} {y : Value} (hok : callOk P f = true) (h : args.length = xs.length) (he : ∀ (j : Nat) u x, args[j]? = some u → xs[j]? = some x → Exact u x) (ho : Exact out y)
    (hc : ∀ w, Calls P f xs.toArray w fun e w' => e = .returned y ∧ Ext w w') : LF P f args (fun _ => out) none := by
  refine ⟨hok, fun g w vals hm hl hr => ?_⟩
  rw [args_exact h he hl hr]
  refine (hc w).mono fun e w' ⟨he, hx⟩ => ⟨.ret out, [], g, ⟨rfl, rfl⟩, ?_⟩
  obtain ⟨k1, k2, k3⟩ := hm.ext (g' := g) ⟨rfl, rfl, rfl, Nat.le_refl _, fun _ _ _ => rfl, fun _ _ _ _ => ⟨rfl, rfl⟩, fun _ _ _ _ h => h, fun _ _ _ h => h, fun _ _ _ _ => rfl⟩ hx (fun _ _ _ => Iff.rfl) rfl rfl (fun b o hb => hm.fut b o (Nat.le_trans hx.size hb))
  exact ⟨k1, k2, k3, y, he, ho.1 _ _⟩
theorem ex1 {a : V} {x : Value} (ha : Exact a x) : ∀ (j : Nat) u y, [a][j]? = some u → [x][j]? = some y → Exact u y := fun j u y hj hy => by
  match j with
  | 0 => simp at hj hy; subst hj; subst hy; exact ha
  | j + 1 => simp at hj
theorem ex2 {a b : V} {x y : Value} (ha : Exact a x) (hb : Exact b y) : ∀ (j : Nat) u z, [a, b][j]? = some u → [x, y][j]? = some z → Exact u z := fun j u z hj hz => by
  match j with
  | 0 => simp at hj hz; subst hj; subst hz; exact ha
  | 1 => simp at hj hz; subst hj; subst hz; exact hb
  | j + 2 => simp at hj
theorem ex3 {a b c : V} {x y z : Value} (ha : Exact a x) (hb : Exact b y) (hc : Exact c z) : ∀ (j : Nat) u t, [a, b, c][j]? = some u → [x, y, z][j]? = some t → Exact u t := fun j u t hj hz => by
  match j with
  | 0 => simp at hj hz; subst hj; subst hz; exact ha
  | 1 => simp at hj hz; subst hj; subst hz; exact hb
  | 2 => simp at hj hz; subst hj; subst hz; exact hc
  | j + 3 => simp at hj
/-- From a law's lifted contract to its walk. -/
def allS : Gh := ⟨fun _ _ => True, fun _ => none, fun _ => none⟩
theorem LF.truth {P : Program} {f : Nat} {args : List V} (h : LF P f args (fun _ => .k (.bool true)) none) (W : World) (vals : Array Value) (hl : args.length = vals.size) (hr : ∀ (j : Nat) u x, args[j]? = some u → vals[j]? = some x → Rep W allS u x) :
    Calls P f vals W fun e W' => e = .returned (.bool true) ∧ Ext W W' := by
  refine (h.go allS W vals ⟨fun _ _ h => (by cases h), fun _ _ _ _ h => (by cases h), fun _ _ _ _ _ _ _ h => (by cases h), fun _ _ => rfl, fun _ _ => rfl, fun _ _ _ => trivial, ⟨fun _ _ h => h, fun _ a l c h => ⟨a, l, c, h, Nat.le_refl _, fun _ => ⟨rfl, rfl⟩⟩⟩⟩ hl hr).mono ?_
  rintro e w' ⟨o, mo, g', ⟨rfl, rfl⟩, _, _, hk, x, rfl, hrep⟩
  rw [rep_k hrep]
  exact ⟨rfl, hk.os, hk.tape, hk.output, hk.size, fun b hb => hk.blk b hb fun o ⟨i, m, h, _⟩ => by cases h⟩
/-- Arguments and what they read. -/
def RepAll (W : World) (g : Gh) : List V → List Value → Prop
  | [], [] => True
  | u :: us, x :: xs => Rep W g u x ∧ RepAll W g us xs
  | _, _ => False
theorem RepAll.spec {W : World} {g : Gh} : ∀ {us : List V} {xs : List Value}, RepAll W g us xs → us.length = xs.length ∧ ∀ (j : Nat) u x, us[j]? = some u → xs[j]? = some x → Rep W g u x
  | [], [], _ => ⟨rfl, fun j u x h => by simp at h⟩
  | u :: us, x :: xs, h => by
    obtain ⟨h1, h2⟩ := RepAll.spec h.2
    refine ⟨by simp [h1], fun j a b ha hb => ?_⟩
    cases j with
    | zero => simp at ha hb; subst ha; subst hb; exact h.1
    | succ j => simp at ha hb; exact h2 j a b ha hb
  | [], _ :: _, h => h.elim
  | _ :: _, [], h => h.elim
theorem LF.holds {P : Program} {f : Nat} {args : List V} (h : LF P f args (fun _ => .k (.bool true)) none) (W : World) (xs : List Value) (hr : RepAll W allS args xs) : Calls P f xs.toArray W fun e W' => e = .returned (.bool true) ∧ Ext W W' :=
  LF.truth h W xs.toArray (by simpa using hr.spec.1) fun j u x hu hx => hr.spec.2 j u x hu (by simpa using hx)
end Lf
end Go.Proofs.Ytgeccggkdgpkiaa

/- A part of the proof: texts joined. -/
namespace Go.Proofs.YtffaobngpbaklaaGreatDoor
namespace Lf
namespace FrP
inductive Act (σ : Type) where
 | stop (out : List UInt8)
 | rev (out : List UInt8)
 | fail (e : Nat)
 | pay (n : Nat) (k : Act σ)
 | next (s : σ)
structure Res where
 err : Nat
 gas : Nat
 out : List UInt8
inductive Go (σ : Type) where
 | done (r : Res)
 | next (s : σ) (gas : Nat)
section
variable {σ : Type} (eG eR : Nat)
def exec : Act σ → Nat → Go σ
 | .stop o, g => .done ⟨0, g, o⟩
 | .rev o, g => .done ⟨eR, g, o⟩
 | .fail e, _ => .done ⟨e, 0, []⟩
 | .pay n k, g => if g < n then .done ⟨eG, 0, []⟩ else exec k (g - n)
 | .next s, g => .next s g
inductive Runs (step : σ → Nat → Act σ) : σ → Nat → Res → Prop
 | done {s g r} : exec eG eR (step s g) g = .done r → Runs step s g r
 | next {s g s' g' r} : exec eG eR (step s g) g = .next s' g' → Runs step s' g' r → Runs step s g r
variable {eG eR}
theorem exec_next {a : Act σ} : ∀ {g : Nat} {s : σ} {g' : Nat}, exec eG eR a g = .next s g' → g' ≤ g := by
 induction a with
 | pay n k ih =>
  intro g s g' h
  rw [exec] at h
  split at h
  ·cases h
  ·have := ih h; omega
 | next s => intro g s' g' h; cases h; exact Nat.le_refl _
 | _ => intro g s g' h; cases h
theorem exec_done {a : Act σ} (hG : eG ≠ 0) (hGR : eG ≠ eR) : ∀ {g : Nat} {r : Res}, exec eG eR a g = .done r → r.gas ≤ g ∧ (r.err ≠ 0 → r.err ≠ eR → r.gas = 0 ∧ r.out = []) := by
 induction a with
 | pay n k ih =>
  intro g r h
  rw [exec] at h
  split at h
  ·cases h; exact ⟨Nat.zero_le _, fun _ _ => ⟨rfl, rfl⟩⟩
  ·obtain ⟨h1, h2⟩ := ih h; exact ⟨by omega, h2⟩
 | next s => intro g r h; cases h
 | stop o => intro g r h; cases h; exact ⟨Nat.le_refl _, fun h => absurd rfl h⟩
 | rev o => intro g r h; cases h; exact ⟨Nat.le_refl _, fun _ h => absurd rfl h⟩
 | fail e => intro g r h; cases h; exact ⟨Nat.zero_le _, fun _ _ => ⟨rfl, rfl⟩⟩
theorem gas_law {step : σ → Nat → Act σ} (hG : eG ≠ 0) (hGR : eG ≠ eR) {s : σ} {g : Nat} {r : Res} (h : Runs eG eR step s g r) : r.gas ≤ g ∧ (r.err ≠ 0 → r.err ≠ eR → r.gas = 0 ∧ r.out = []) := by
 induction h with
 | done h => exact exec_done hG hGR h
 | next h _ ih => have := exec_next h; exact ⟨by omega, ih.2⟩
theorem total {step : σ → Nat → Act σ} (hd : ∀ s g s' g', exec eG eR (step s g) g = .next s' g' → g' < g) : ∀ (n : Nat) (s : σ) (g : Nat), g ≤ n → ∃ r, Runs eG eR step s g r := by
 intro n
 induction n with
 | zero =>
  intro s g h
  cases he : exec eG eR (step s g) g with
  | done r => exact ⟨r, .done he⟩
  | next s' g' => have := hd _ _ _ _ he; omega
 | succ n ih =>
  intro s g h
  cases he : exec eG eR (step s g) g with
  | done r => exact ⟨r, .done he⟩
  | next s' g' =>
   have := hd _ _ _ _ he
   obtain ⟨r, hr⟩ := ih s' g' (by omega)
   exact ⟨r, .next he hr⟩
def more (eR m : Nat) (r : Res) : Res := ⟨r.err, if r.err = 0 ∨ r.err = eR then r.gas + m else r.gas, r.out⟩
end
end FrP
end Lf
end Go.Proofs.YtffaobngpbaklaaGreatDoor

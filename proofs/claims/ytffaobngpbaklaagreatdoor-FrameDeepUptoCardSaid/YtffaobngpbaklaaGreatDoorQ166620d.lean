/- A part of the proof: texts joined. -/
set_option linter.unusedVariables false
set_option linter.unusedSimpArgs false
namespace Go.Proofs.YtffaobngpbaklaaGreatDoor
set_option linter.unusedVariables false
namespace Lf
namespace FrP
inductive Act (σ : Type) where
 | stop (out : List UInt8)
 | rev (out : List UInt8)
 | fail (e : Nat)
 | pay (n : Nat) (k : Act σ)
 | next (s : σ)
structure Res where
 err : Nat
 gas : Nat
 out : List UInt8
inductive Go (σ : Type) where
 | done (r : Res)
 | next (s : σ) (gas : Nat)
section
variable {σ : Type} (eG eR : Nat)
def exec : Act σ → Nat → Go σ
 | .stop o, g => .done ⟨0, g, o⟩
 | .rev o, g => .done ⟨eR, g, o⟩
 | .fail e, _ => .done ⟨e, 0, []⟩
 | .pay n k, g => if g < n then .done ⟨eG, 0, []⟩ else exec k (g - n)
 | .next s, g => .next s g
def Fine : Act σ → Prop
 | .fail e => e ≠ 0 ∧ e ≠ eR
 | .pay _ k => Fine k
 | _ => True
inductive Runs (step : σ → Nat → Act σ) : σ → Nat → Res → Prop
 | done {s g r} : exec eG eR (step s g) g = .done r → Runs step s g r
 | next {s g s' g' r} : exec eG eR (step s g) g = .next s' g' → Runs step s' g' r → Runs step s g r
variable {eG eR}
theorem exec_next {a : Act σ} : ∀ {g : Nat} {s : σ} {g' : Nat}, exec eG eR a g = .next s g' → g' ≤ g := by
 induction a with
 | pay n k ih =>
  intro g s g' h
  rw [exec] at h
  split at h
  ·cases h
  ·have := ih h; omega
 | next s => intro g s' g' h; cases h; exact Nat.le_refl _
 | _ => intro g s g' h; cases h
theorem exec_done {a : Act σ} (hG : eG ≠ 0) (hGR : eG ≠ eR) : ∀ {g : Nat} {r : Res}, exec eG eR a g = .done r → r.gas ≤ g ∧ (r.err ≠ 0 → r.err ≠ eR → r.gas = 0 ∧ r.out = []) := by
 induction a with
 | pay n k ih =>
  intro g r h
  rw [exec] at h
  split at h
  ·cases h; exact ⟨Nat.zero_le _, fun _ _ => ⟨rfl, rfl⟩⟩
  ·obtain ⟨h1, h2⟩ := ih h; exact ⟨by omega, h2⟩
 | next s => intro g r h; cases h
 | stop o => intro g r h; cases h; exact ⟨Nat.le_refl _, fun h => absurd rfl h⟩
 | rev o => intro g r h; cases h; exact ⟨Nat.le_refl _, fun _ h => absurd rfl h⟩
 | fail e => intro g r h; cases h; exact ⟨Nat.zero_le _, fun _ _ => ⟨rfl, rfl⟩⟩
theorem gas_law {step : σ → Nat → Act σ} (hG : eG ≠ 0) (hGR : eG ≠ eR) {s : σ} {g : Nat} {r : Res} (h : Runs eG eR step s g r) : r.gas ≤ g ∧ (r.err ≠ 0 → r.err ≠ eR → r.gas = 0 ∧ r.out = []) := by
 induction h with
 | done h => exact exec_done hG hGR h
 | next h _ ih => have := exec_next h; exact ⟨by omega, ih.2⟩
theorem total {step : σ → Nat → Act σ} (hd : ∀ s g s' g', exec eG eR (step s g) g = .next s' g' → g' < g) : ∀ (n : Nat) (s : σ) (g : Nat), g ≤ n → ∃ r, Runs eG eR step s g r := by
 intro n
 induction n with
 | zero =>
  intro s g h
  cases he : exec eG eR (step s g) g with
  | done r => exact ⟨r, .done he⟩
  | next s' g' => have := hd _ _ _ _ he; omega
 | succ n ih =>
  intro s g h
  cases he : exec eG eR (step s g) g with
  | done r => exact ⟨r, .done he⟩
  | next s' g' =>
   have := hd _ _ _ _ he
   obtain ⟨r, hr⟩ := ih s' g' (by omega)
   exact ⟨r, .next he hr⟩
def more (eR m : Nat) (r : Res) : Res := ⟨r.err, if r.err = 0 ∨ r.err = eR then r.gas + m else r.gas, r.out⟩
theorem exec_less {a : Act σ} (hf : Fine eR a) : ∀ {g l : Nat}, (∀ s' g', exec eG eR a g = .next s' g' → (l < g - g' → exec eG eR a l = .done ⟨eG, 0, []⟩) ∧ (g - g' ≤ l → exec eG eR a l = .next s' (l - (g - g')))) ∧ ∀ r, exec eG eR a g = .done r → r.err = 0 ∨ r.err = eR → (eG ≠ 0 ∧ eG ≠ eR) → l < g - r.gas → exec eG eR a l = .done ⟨eG, 0, []⟩ := by
 induction a with
 | pay n k ih =>
  intro g l
  obtain ⟨h1, h2⟩ := ih hf (g := g - n) (l := l - n)
  by_cases hn : g < n
  ·constructor
   ·intro s' g' h
    rw [exec, if_pos hn] at h
    cases h
   ·intro r h hr hG _
    rw [exec, if_pos hn] at h
    cases h
    exact absurd hr (not_or.2 hG)
  ·constructor
   ·intro s' g' h
    rw [exec, if_neg hn] at h
    have hle := exec_next h
    obtain ⟨q1, q2⟩ := h1 _ _ h
    rw [exec]
    by_cases hl : l < n
    ·rw [if_pos hl]
     exact ⟨fun _ => rfl, fun _ => by omega⟩
    ·rw [if_neg hl]
     exact ⟨fun _ => q1 (by omega), fun _ => by rw [q2 (by omega)]; congr 1; omega⟩
   ·intro r h hr hG hlt
    rw [exec, if_neg hn] at h
    rw [exec]
    by_cases hl : l < n
    ·rw [if_pos hl]
    ·rw [if_neg hl]
     exact h2 r h hr hG (by omega)
 | next s => intro g l; exact ⟨fun _ _ h => (by cases h; exact ⟨fun h => by omega, fun _ => by rw [exec]; congr 1; omega⟩), fun _ h => (by cases h)⟩
 | stop o => intro g l; exact ⟨fun _ _ h => (by cases h), fun _ h _ _ hl => (by cases h; simp only at hl; omega)⟩
 | rev o => intro g l; exact ⟨fun _ _ h => (by cases h), fun _ h _ _ hl => (by cases h; simp only at hl; omega)⟩
 | fail e => intro g l; exact ⟨fun _ _ h => (by cases h), fun _ h hr _ _ => (by cases h; exact absurd hr (not_or.2 hf))⟩
theorem less_law {step : σ → Nat → Act σ} (hs : ∀ s g g', step s g = step s g') (hf : ∀ s g, Fine eR (step s g)) (hG : eG ≠ 0 ∧ eG ≠ eR) {s : σ} {g : Nat} {r : Res} (h : Runs eG eR step s g r) : ∀ {l : Nat}, (r.err = 0 ∨ r.err = eR) → l < g - r.gas → Runs eG eR step s l ⟨eG, 0, []⟩ := by
 induction h with
 | @done s g r h =>
  intro l hr hl
  refine .done ?_
  rw [hs s l g]
  exact (exec_less (hf s g)).2 r h hr hG hl
 | @next s g s' g' r h h' ih =>
  intro l hr hl
  obtain ⟨h1, h2⟩ := (exec_less (hf s g) (l := l)).1 _ _ h
  by_cases hq : l < g - g'
  ·refine .done ?_
   rw [hs s l g]
   exact h1 hq
  ·refine .next (s' := s') (g' := l - (g - g')) ?_ (ih hr ?_)
   ·rw [hs s l g]
    exact h2 (by omega)
   ·have := exec_next h
    have := (gas_law hG.1 hG.2 h').1
    omega
end
end FrP
end Lf
end Go.Proofs.YtffaobngpbaklaaGreatDoor

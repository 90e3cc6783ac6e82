/- A part of the proof: texts joined. -/
import Derived.Test.YtkbimhccaacobaaQ2200df8c
namespace Go.Proofs.Ytkbimhccaacobaa
open Go.RowKit Rg Wm Ar
set_option linter.unusedVariables false
set_option maxRecDepth 100000
namespace Lf
open Tr Ro Pk
theorem cds_len : ∀ (n : Nd) (d : Nat), Right n d → ∀ c ∈ cdB n, c.length ≤ 200000 := by
  intro n
  induction n with
  | no => intro d h c hc; have : c = hcB .no := by simpa [cdB, cds] using hc
          rw [this]; exact Rw.hcB_len h
  | leaf p v => intro d h c hc; have : c = hcB (.leaf p v) := by simpa [cdB, cds] using hc
                rw [this]; exact Rw.hcB_len h
  | road p k ih =>
    intro d h c hc
    unfold cdB at hc
    rw [cds_road] at hc
    rcases List.mem_cons.1 hc with e | e
    · rw [e]; exact Rw.hcB_len h
    · exact ih _ h.2.2 c e
  | fork ks v ih =>
    intro d h c hc
    unfold cdB at hc
    rw [cds_fork] at hc
    rcases List.mem_cons.1 hc with e | e
    · rw [e]; exact Rw.hcB_len h
    · obtain ⟨i, _, e⟩ := List.mem_flatMap.1 e
      unfold kcds at e
      split at e
      · cases e
      · exact ih i _ (h.2.2.1 i) c e
theorem cdB_size {x : Rn} (hr : rt x 0 = true) : (cdB (toN x)).length ≤ x.size := by
 by_cases h : x.kind = 0
 ·rw [toN_zero h]
  have : 1 ≤ x.size := by obtain ⟨k, p, v, ks⟩ := x; rw [size_eq]; omega
  exact this
 ·exact cds_size _ x 0 (Nat.le_refl _) hr fun e => absurd e h
namespace Rw
end Rw
end Lf
end Go.Proofs.Ytkbimhccaacobaa

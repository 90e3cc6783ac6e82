/- A part of the proof: texts joined. -/
import Derived.Test.YtkbimhccaacobaaQ246ea063
namespace Go.Proofs.Ytkbimhccaacobaa
open Go.RowKit Rg Wm Ar
set_option linter.unusedVariables false
set_option maxRecDepth 100000
namespace Lf
open Tr Ro Pk
theorem cds_len : ∀ (n : Nd) (d : Nat), Right n d → ∀ c ∈ cdB n, c.length ≤ 200000 := by
  intro n
  induction n with
  | no => intro d h c hc; have : c = hcB .no := by simpa [cdB, cds] using hc
          rw [this]; exact Rw.hcB_len h
  | leaf p v => intro d h c hc; have : c = hcB (.leaf p v) := by simpa [cdB, cds] using hc
                rw [this]; exact Rw.hcB_len h
  | road p k ih =>
    intro d h c hc
    unfold cdB at hc
    rw [cds_road] at hc
    rcases List.mem_cons.1 hc with e | e
    · rw [e]; exact Rw.hcB_len h
    · exact ih _ h.2.2 c e
  | fork ks v ih =>
    intro d h c hc
    unfold cdB at hc
    rw [cds_fork] at hc
    rcases List.mem_cons.1 hc with e | e
    · rw [e]; exact Rw.hcB_len h
    · obtain ⟨i, _, e⟩ := List.mem_flatMap.1 e
      unfold kcds at e
      split at e
      · cases e
      · exact ih i _ (h.2.2.1 i) c e
theorem cdB_size {x : Rn} (hr : rt x 0 = true) : (cdB (toN x)).length ≤ x.size := by
  by_cases h : x.kind = 0
  · rw [toN_zero h]
    have : 1 ≤ x.size := by obtain ⟨k, p, v, ks⟩ := x; rw [size_eq]; omega
    exact this
  · exact cds_size _ x 0 (Nat.le_refl _) hr fun e => absurd e h
namespace Rw
theorem Concat2 (a b : List (List UInt8)) (ha : a.length < 500000000) (hb : b.length < 500000000) (k : Nat) : LM Try.prog 26 [.s none [txV a, txV b]] [] fun o m => o = .ret (.s (some k) ((a ++ b).map bV)) ∧ m = [(k, .r 22 1 (a ++ b).length)] := by
  have e : [a, b].flatten = a ++ b := by simp
  have := Sl6.ConcatBB [a, b] (by show 2 < 1073741824; decide) (by rw [e, List.length_append]; omega) k
  rw [e] at this
  exact this
theorem Clash_t {ts : List (List UInt8)} (hn : ts.length < 1073741824) (ht : ∀ t ∈ ts, t.length < 1073741824) : ∃ b, LF Try.prog 24 [txV ts] (fun _ => .k (.bool b)) none ∧ (b = true ↔ Clashes ts) := by
  obtain ⟨h1, h2⟩ := Sr.Clash_ ts hn ht
  by_cases hc : Clashes ts
  · exact ⟨true, h1 hc, ⟨fun _ => hc, fun _ => rfl⟩⟩
  · exact ⟨false, h2 hc, ⟨fun h => (by cases h), fun h => absurd h hc⟩⟩
end Rw
end Lf
end Go.Proofs.Ytkbimhccaacobaa

/- An array of integers among the arguments; a word. -/
import Derived.Test.YtpecjhjpdaifoaaWMath
namespace Go.Proofs.Ytpecjhjpdaifoaa
open Go.ChangeShapes Go.WideShapes Go.ChangeAt Go.RowKit Rp Ar Wm
namespace Ow
section
variable {P : Program}
theorem open_ints_arr {t e n base : Nat} {k : IntKind} {W : World} {v : Value} (ht : P.underlying t = some (.array n e)) (hc : P.cellsOf t = n) {ts : List Nat} (hts : P.cellTypes P.depth t = some ts) (hall : ∀ u ∈ ts, P.underlying u = some (.int k))
    (hok : Value.okWide P W .any base t v) : ∃ f : Nat → Int, v = .agg (arr n fun i => .int k (f i)) ∧ ∀ i, i < n → k.has (f i) := by
  simp only [Value.okWide, ht] at hok
  obtain ⟨cs, rfl, hs, ts', h1, _, h3⟩ := hok
  rw [hts] at h1
  obtain rfl := Option.some.inj h1
  rw [hc] at hs
  have hcell : ∀ i, i < n → ∃ z, cs[i]? = some (.int k z) ∧ k.has z := fun i hi => by
    have hv : cs[i]? = some cs[i] := Array.getElem?_eq_getElem (by omega)
    obtain ⟨u, hu, hk⟩ := h3 i _ hv
    have hk2 := hall u (List.mem_of_getElem? hu)
    simp only [Cell.okWide, hk2] at hk
    generalize cs[i] = c at *
    cases c <;> simp_all [Cell.ok]
  refine ⟨fun i => match cs[i]? with | some (.int _ z) => z | _ => 0, ?_, fun i hi => ?_⟩
  · congr 1
    apply Array.ext
    · rw [hs, arr_size]
    · intro i h1 h2
      obtain ⟨z, hz, _⟩ := hcell i (by omega)
      have hg := arr_get n (fun i => Value.int k (match cs[i]? with | some (.int _ z) => z | _ => 0)) i (by omega)
      have e1 := Array.getElem?_eq_getElem h1
      have e2 := Array.getElem?_eq_getElem h2
      rw [e1] at hz
      rw [e2, e1] at hg
      rw [Option.some.inj hg, Option.some.inj hz]
  · obtain ⟨z, hz, hh⟩ := hcell i hi
    simp only [hz]
    exact hh
theorem open_word {t e base : Nat} {W : World} {v : Value} (ht : P.underlying t = some (.array 4 e)) (hc : P.cellsOf t = 4) {ts : List Nat} (hts : P.cellTypes P.depth t = some ts) (hall : ∀ u ∈ ts, P.underlying u = some (.int .u64))
    (hok : Value.okWide P W .any base t v) : ∃ x, v = .agg (wordA x) ∧ x < M256 := by
  obtain ⟨f, rfl, hf⟩ := open_ints_arr ht hc hts hall hok
  have hf' : ∀ i, i < 4 → 0 ≤ f i ∧ f i < 18446744073709551616 := fun i hi => by
    have := hf i hi
    have e1 : IntKind.u64.min = 0 := rfl
    have e2 : IntKind.u64.max = 18446744073709551615 := rfl
    unfold IntKind.has at this
    omega
  have hlt : ∀ k, k < 4 → (f k).toNat < m64 := fun k hk => by have := hf' k hk; unfold m64; omega
  refine ⟨val (fun i => (f i).toNat) 4, ?_, val_lt hlt⟩
  unfold wordA
  congr 1
  refine arr_ext fun i hi => ?_
  rw [limb_val hlt hi, u64V]
  congr 1
  have := hf' i hi
  omega
end
theorem open_w {base : Nat} {W : World} {v : Value} (hok : Value.okWide Try.prog W .any base 24 v) : ∃ x, v = .agg (wordA x) ∧ x < M256 :=
  open_word (e := 22) (ts := [22, 22, 22, 22]) (by kernel_rfl) (by kernel_rfl) (by kernel_rfl) (fun u hu => by
    simp only [List.mem_cons, List.not_mem_nil, or_false, or_self] at hu
    subst hu
    kernel_rfl) hok
end Ow
end Go.Proofs.Ytpecjhjpdaifoaa

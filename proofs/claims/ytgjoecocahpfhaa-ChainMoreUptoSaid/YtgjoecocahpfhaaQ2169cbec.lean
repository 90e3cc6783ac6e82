/- A part of the proof: texts joined. -/
import Derived.Test.YtgjoecocahpfhaaQ20ac6907
namespace Go.Proofs.Ytgjoecocahpfhaa
open Go.RowKit Rg
set_option linter.unusedVariables false
set_option maxRecDepth 100000
namespace Lf
open Pk
namespace Cm
open Sq
set_option maxHeartbeats 8000000 in
theorem ChainMore (first : Hdr) (headers : List Hdr) (more : Hdr) (h : ∀ x ∈ first :: headers, x.ok) (km : more.ok) (hl : headers.length < 4000000) : LF Try.prog 3 [hdV first, hdsV headers, hdV more] (fun _ => .k (.bool true)) none := by
  have hrf := hdrC_refs
  have hcv := hdr_cv
  have hbr := hdV_bare
  have c1 := alive21_
  have hh : ∀ x ∈ headers, x.ok := fun x hx => h x (List.mem_cons_of_mem _ hx)
  have h' : ∀ x ∈ first :: (headers ++ [more]), x.ok := fun x hx => by
    rcases List.mem_cons.1 hx with rfl | hx
    · exact h _ List.mem_cons_self
    · rcases List.mem_append.1 hx with hx | hx
      · exact hh x hx
      · obtain rfl := List.mem_singleton.1 hx; exact km
  obtain ⟨l, hlo, hlk, c2⟩ := Line_ first headers h (by omega)
  obtain ⟨l', hlo', hlk', c3⟩ := Line_ first (headers ++ [more]) h' (by rw [List.length_append, List.length_singleton]; omega)
  obtain ⟨M, b, hM, hb, hp⟩ := hlo.ex
  obtain ⟨M', b', hM', hb', hp'⟩ := hlo'.ex
  have hll : l.length < 6000000 := by
    have := pth_len hM hp
    rw [List.length_cons] at this
    omega
  have hll' : l'.length < 6000000 := by
    have := pth_len hM' hp'
    rw [List.length_cons, List.length_append, List.length_singleton] at this
    omega
  have hle : l.length ≤ l'.length := Ch.more_len hM hM' hb hb' hp hp' rfl fun i h1 h2 => by
    rw [List.length_cons] at h2
    refine ⟨i, h1, by rw [List.length_cons, List.length_append]; omega, ?_⟩
    match i, h1, h2 with
    | i + 1, _, h2 =>
      show (headers ++ [more]).getD i default = headers.getD i default
      rw [List.getD_eq_getElem?_getD, List.getElem?_append_left (by omega), ← List.getD_eq_getElem?_getD]
  have hsame := fun hx => Ch.more_same (all := first :: headers) (x := more) (fun a b => Cp.less_asym) hM hM' hx hb hb' hp hp'
  have c4 := fun k => CloneK headers hh (by omega) k
  have c5 := SameH_ l l' hlk hlk' (by omega) (by omega)
  have k0 := h first List.mem_cons_self
  have hx0 := hdrC_len k0
  have hxm := hdrC_len km
  have hml : (l.map hdV).length = l.length := List.length_map _
  have hml' : (l'.map hdV).length = l'.length := List.length_map _
  have hmh : (headers.map hdV).length = headers.length := List.length_map _
  have hzs := hds_sz hh
  clear hM hb hp hlo hM' hb' hp' hlo'
  refine LFx.mk' tt Try.func3 rfl rfl rfl (by kernel_rfl) rfl rfl fun F => ?_
  refine wk ?_ trueW trueW
  refine LC.loopN (fun i => [(5, .p 5 0), (7, hdsV l), (8, hdsV l'), (31, .s (some 29) ((first :: headers).map hdV)), (32, .k (.int .i64 ((((first :: headers).map hdV).length : Nat) : Int))), (33, .k (.int .i64 ((i : Nat) : Int)))]) (fun i => [(5, .b (hdrC more)), (29, .r 28 204 ((first :: headers).map hdV).length)]) (fun i => i ≤ (first :: headers).length ∧ ∀ j, j < i → ¬ Ch.Fol (sgH fS) ((first :: headers).getD j default) more) (((first :: headers).length - ·)) (0) ⟨Nat.zero_le _, fun j hj => absurd hj (Nat.not_lt_zero _)⟩ ⟨rfl, rfl, rfl, rfl, rfl, rfl, trivial⟩ ⟨rfl, rfl, trivial⟩ rfl rfW rfW ?_
  intro i ⟨hi, hS⟩
  clear c1 c2 c3 c4
  have hal : ((first :: headers).map hdV).length = (first :: headers).length := List.length_map _
  rcases Nat.lt_or_ge i (first :: headers).length with h2 | h2
  · clear hsame c5
    have hb1 : i < 5000000 := by
      rw [List.length_cons] at h2
      omega
    have k1 := getD_ok h h2
    have y1 := hdrC_len k1
    have c1 := follows_ ((first :: headers).getD i default) more k1 km
    by_cases f : Ch.Fol (sgH fS) ((first :: headers).getD i default) more
    · rw [decide_eq_true f] at c1
      clear hS f
      generalize first :: headers = all at *
      exact wk trueW trueW trueW
    · rw [decide_eq_false f] at c1
      have hmu : (first :: headers).length - (i + 1) < (first :: headers).length - i := by omega
      have hok : i + 1 ≤ (first :: headers).length ∧ ∀ j, j < i + 1 → ¬ Ch.Fol (sgH fS) ((first :: headers).getD j default) more := ⟨h2, fun j hj => by
        by_cases e : j = i
        · subst e; exact f
        · exact hS j (by omega)⟩
      clear hS f
      exact wk trueW trueW trueW
  · have e := hsame fun j hj => hS j (by omega)
    rw [decide_eq_true e] at c5
    clear hS hsame e
    generalize first :: headers = all at *
    exact wk trueW trueW trueW
end Cm
end Lf
end Go.Proofs.Ytgjoecocahpfhaa

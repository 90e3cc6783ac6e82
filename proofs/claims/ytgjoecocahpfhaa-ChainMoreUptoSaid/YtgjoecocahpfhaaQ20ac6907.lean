/- A part of the proof: texts joined. -/
import Derived.Test.YtgjoecocahpfhaaQ193e6185
namespace Go.Proofs.Ytgjoecocahpfhaa
open Go.RowKit Rg
set_option linter.unusedVariables false
set_option maxRecDepth 100000
namespace Lf
open Pk
namespace Cm
open Sq
theorem leS {a b : List UInt8} (h : ¬ lt8 b a) : arithS .leq ⟨a.toArray⟩ ⟨b.toArray⟩ = some (.bool true) := by
  rcases less_tot h with h | h
  · have h : Op.bytesLess a b = true := h
    simp only [arithS, ByteArray.toList_mk, h, Bool.true_or]
  · subst h
    simp only [arithS, ByteArray.toList_mk]
    first | rfl | simp
structure Frz2 (id i j : Nat) : Prop where
  ne : i ≠ j
theorem LC.frzAt {P : Program} {F : Fr0} {N : Nat} {Q : LQ} {env env' : Env} {mem : Mem} {id i j : Nat} {ops : Array Oper} {d : Bool} {cs cs' ds ds' : List V} (hf : Frz2 id i j) (hi : (aget mem i, aget mem j) = (some (.b cs), some (.b ds))) (hb : (V.bare.go cs, V.bare.go ds) = (some cs', some ds')) (he : frzE j ds' (frzE i cs' env) = env') (h : LC P F N (.region id ops d) Q env' ((j, .x) :: (i, .x) :: mem)) : LC P F N (.region id ops d) Q env mem := by
  subst he
  obtain ⟨h1, h2⟩ := Prod.mk.inj hi
  obtain ⟨h3, h4⟩ := Prod.mk.inj hb
  refine Lf.LC.freeze i h1 h3 (Lf.LC.freeze j ?_ h4 h)
  rw [aget_cons, if_neg hf.ne]
  exact h2
theorem bare_b : ∀ l : List UInt8, V.bare.go (l.map bK) = some (l.map bK)
  | [] => rfl
  | x :: r => by rw [List.map_cons, V.bare.go, bare_b r]; rfl
set_option maxHeartbeats 8000000 in
theorem ChainLongest (first : Hdr) (headers way : List Hdr) (h : ∀ x ∈ first :: headers, x.ok) (hw : ∀ x ∈ way, x.ok) (hl : headers.length < 5000000) (hlw : way.length < 5000000) : LF Try.prog 6 [hdV first, hdsV headers, hdsV way] (fun _ => .k (.bool true)) none := by
  have hrf := hdrC_refs
  have hcv := hdr_cv
  have hbr := hdV_bare
  have c1 := alive21_
  obtain ⟨l, hlo, hlk, c2⟩ := Line_ first headers h hl
  obtain ⟨M, b, hM, hb, hp⟩ := hlo.ex
  have hll : l.length < 6000000 := by
    have := pth_len hM hp
    rw [List.length_cons] at this
    omega
  have s1 := List.length_pos_iff.2 hp.ne
  have hlong := fun h1 => Ch.longest hM hb hp (way := first :: way) rfl h1 (by simp)
  have k0 := h first List.mem_cons_self
  have hx0 := hdrC_len k0
  have hml : (l.map hdV).length = l.length := List.length_map _
  have hmw : (way.map hdV).length = way.length := List.length_map _
  have hW : ∀ j, j ≤ way.length → ((first :: way).getD j default).ok := fun j hj => getD_ok (all := first :: way) (fun x hx => by
    rcases List.mem_cons.1 hx with rfl | hx
    · exact k0
    · exact hw x hx) (by rw [List.length_cons]; omega)
  clear hM hb hp hlo
  refine LFx.mk' tt Try.func6 rfl rfl rfl (by kernel_rfl) rfl rfl fun F => ?_
  refine wk ?_ trueW trueW
  refine LC.loopN (fun k => [(1, hdsV headers), (2, hdsV way), (3, .p 3 0), (7, .p 7 0), (16, hdsV way), (17, .k (.int .i64 ((way.length : Nat) : Int))), (18, .k (.int .i64 ((k : Nat) : Int)))]) (fun k => [(3, .b (hdrC first)), (7, .b (hdrC ((first :: way).getD k default)))]) (fun k => k ≤ way.length ∧ ∀ j, 1 ≤ j → j ≤ k → Ch.Fol (sgH fS) ((first :: way).getD (j - 1) default) ((first :: way).getD j default) ∧ (first :: way).getD j default ∈ headers) ((way.length - ·)) (0) ⟨Nat.zero_le _, fun j h1 h2 => by omega⟩ ⟨rfl, rfl, rfl, rfl, rfl, rfl, rfl, trivial⟩ ⟨rfl, rfl, trivial⟩ rfl rfW rfW ?_
  intro k ⟨hk, hS⟩
  rcases Nat.lt_or_ge k way.length with h2 | h2
  · clear hlong c1 c2
    have hsuc : (first :: way).getD (k + 1) default = way.getD k default := rfl
    have k1 := hW k hk
    have k2 := hW (k + 1) h2
    rw [hsuc] at k2
    have y1 := hdrC_len k1
    have y2 := hdrC_len k2
    have c1 := follows_ ((first :: way).getD k default) (way.getD k default) k1 k2
    by_cases f : Ch.Fol (sgH fS) ((first :: way).getD k default) (way.getD k default)
    · rw [decide_eq_true f] at c1
      by_cases m : way.getD k default ∈ headers
      · have c2 := Contains_ headers (way.getD k default) (fun y hy => h y (List.mem_cons_of_mem _ hy)) k2 (by omega) m
        have hok : k + 1 ≤ way.length ∧ ∀ j, 1 ≤ j → j ≤ k + 1 → Ch.Fol (sgH fS) ((first :: way).getD (j - 1) default) ((first :: way).getD j default) ∧ (first :: way).getD j default ∈ headers := ⟨h2, fun j j1 j2 => by
          by_cases e : j = k + 1
          · subst e; exact ⟨f, m⟩
          · exact hS j j1 (by omega)⟩
        clear hS f m
        exact wk trueW trueW trueW
      · have c2 := Contains_no headers (way.getD k default) (fun y hy => h y (List.mem_cons_of_mem _ hy)) k2 (by omega) m
        clear hS f m
        exact wk trueW trueW trueW
    · rw [decide_eq_false f] at c1
      clear hS f
      exact wk trueW trueW trueW
  · obtain rfl : k = way.length := by omega
    clear c1
    have k1 := hW _ hk
    have y1 := hdrC_len k1
    have hres := hlong fun j h1 h2 => by
      rw [List.length_cons] at h2
      obtain ⟨f1, f2⟩ := hS j h1 (by omega)
      refine ⟨f1, ?_⟩
      obtain ⟨i, hi, e⟩ := List.getElem_of_mem f2
      refine ⟨i + 1, by omega, by rw [List.length_cons]; omega, ?_⟩
      show headers.getD i default = _
      rw [List.getD_eq_getElem?_getD, List.getElem?_eq_getElem hi]
      exact e
    clear hlong hS
    simp only [List.length_cons, Nat.add_sub_cancel] at hres
    rcases hres with hres | ⟨hres, hle⟩
    · exact wk trueW trueW trueW
    · have k2 := getD_ok hlk (show l.length - 1 < l.length by omega)
      have y2 := hdrC_len k2
      have c3 := Sr.HSumB _ k1
      have c4 := Sr.HSumB _ k2
      have hleq := leS (a := fS (l.getD (l.length - 1) default)) (b := fS ((first :: way).getD way.length default)) (by
        rcases hle with hle | hle
        · exact Cp.less_asym hle
        · have e : fS (l.getD (l.length - 1) default) = fS ((first :: way).getD way.length default) := hle
          rw [e]
          exact fun q => Cp.less_asym q q)
      have z1 := fS_len (l.getD (l.length - 1) default)
      have z2 := fS_len ((first :: way).getD way.length default)
      have hq1 : CutQ ((fS (l.getD (l.length - 1) default)).map bK) 32 (fS (l.getD (l.length - 1) default)) := cut_ha (l.getD (l.length - 1) default)
      have hq2 : CutQ ((fS ((first :: way).getD way.length default)).map bK) 32 (fS ((first :: way).getD way.length default)) := cut_ha ((first :: way).getD way.length default)
      have hfb : Frz2 15 11 12 := ⟨by decide⟩
      have hbb : (V.bare.go ((fS (l.getD (l.length - 1) default)).map bK), V.bare.go ((fS ((first :: way).getD way.length default)).map bK)) = (some ((fS (l.getD (l.length - 1) default)).map bK), some ((fS ((first :: way).getD way.length default)).map bK)) := by rw [bare_b, bare_b]
      unfold fS at *
      clear hle
      exact wk trueW trueW trueW
end Cm
end Lf
end Go.Proofs.Ytgjoecocahpfhaa

/- A part of the proof: texts joined. -/
import Derived.Test.YtgjoecocahpfhaaQ18709c1c
namespace Go.Proofs.Ytgjoecocahpfhaa
open Go.RowKit Rg
set_option linter.unusedVariables false
set_option maxRecDepth 100000
namespace Lf
open Pk
namespace Cm
open Sq
theorem alive_line {A B C D : Hdr} (nA : A.number = 3) (nB : B.number = 4) (pB : B.parent = fS A) (nC : C.number = 5) (pC : C.parent = fS B) (nD : D.number = 9) {l : List Hdr} (h : LineOf fS [A, C, D, B] l) : l = [A, B, C] := by
  obtain ⟨M, b, hM, hb, hl⟩ := h.ex
  have f1 : Ch.Fol (sgH fS) A B := ⟨by show B.number ≠ 0; omega, by show B.number - 1 = A.number; omega, pB⟩
  have f2 : Ch.Fol (sgH fS) B C := ⟨by show C.number ≠ 0; omega, by show C.number - 1 = B.number; omega, pC⟩
  have m3 := hM.all 3 0 (by decide) (show 3 < 4 by decide) hM.zero f1
  have m1 := hM.all 1 3 (by decide) (show 1 < 4 by decide) m3 f2
  have hnum : ∀ i p, i ≠ 0 → M i = some p → p < 4 ∧ nums [A, C, D, B] i = nums [A, C, D, B] p + 1 := fun i p h0 hp => by
    obtain ⟨h1, h2, _⟩ := hM.beh i p h0 hp
    exact ⟨hM.lt p h1, h2.num⟩
  have v0 : nums [A, C, D, B] 0 = 3 := nA
  have v1 : nums [A, C, D, B] 1 = 5 := nC
  have v2 : nums [A, C, D, B] 2 = 9 := nD
  have v3 : nums [A, C, D, B] 3 = 4 := nB
  have c4 : ∀ p, p < 4 → p = 0 ∨ p = 1 ∨ p = 2 ∨ p = 3 := fun p h => by omega
  have m2 : M 2 = none := by
    cases hp : M 2 with
    | none => rfl
    | some p =>
      obtain ⟨h1, h2⟩ := hnum 2 p (by decide) hp
      rcases c4 p h1 with rfl | rfl | rfl | rfl <;> omega
  have hb1 : b = 1 := by
    have hbl : b < 4 := hM.lt b hb.is
    have ht := hb.top 1 m1
    have ht : nums [A, C, D, B] 1 < nums [A, C, D, B] b ∨ (nums [A, C, D, B] 1 = nums [A, C, D, B] b ∧ _) := ht
    have hbi := hb.is
    rcases c4 b hbl with rfl | rfl | rfl | rfl
    · rcases ht with ht | ⟨ht, _⟩ <;> omega
    · rfl
    · rw [m2] at hbi; cases hbi
    · rcases ht with ht | ⟨ht, _⟩ <;> omega
  subst hb1
  have w1 : M 1 = some 3 := by
    obtain ⟨p, hp⟩ := Ch.isSome_ex m1
    obtain ⟨h1, h2⟩ := hnum 1 p (by decide) hp
    rcases c4 p h1 with rfl | rfl | rfl | rfl
    · omega
    · omega
    · omega
    · exact hp
  have w3 : M 3 = some 0 := by
    obtain ⟨p, hp⟩ := Ch.isSome_ex m3
    obtain ⟨h1, h2⟩ := hnum 3 p (by decide) hp
    rcases c4 p h1 with rfl | rfl | rfl | rfl
    · exact hp
    · omega
    · omega
    · omega
  exact Ch.Pth.uniq hl (.s (by decide) w1 (.s (by decide) w3 .z))
def hdP (n : Nat) (p : List UInt8) : Hdr := ⟨p, n, 0, List.replicate 8 0, 0, 0, List.replicate 32 0, List.replicate 32 0, List.replicate 32 0, List.replicate 32 0, List.replicate 32 0⟩
theorem hdP_ok {n : Nat} {x : List UInt8} (hn : n < 18446744073709551616) (hx : x.length = 32) : (hdP n x).ok := ⟨hx, hn, (by decide : 0 < 18446744073709551616), rfl, (by decide : 0 < 18446744073709551616), (by decide : 0 < 18446744073709551616), rfl, rfl, rfl, rfl, rfl⟩
def zerosH' : List Z := List.replicate 32 (.int .u8) ++ (Z.int .u64 :: Z.int .u64 :: (List.replicate 8 (.int .u8) ++ (Z.int .u64 :: Z.int .u64 :: List.replicate 160 (.int .u8))))
abbrev hdrPl' : List (Nat × Nat) := [(0, 32), (32, 1), (33, 1), (34, 8), (42, 1), (43, 1), (44, 32), (76, 32), (108, 32), (140, 32), (172, 32)]
theorem hdr_c1 (n : Nat) : ∃ cs, vfill (fun i => hdrPl'[i]?) (zerosH'.map Z.v) [(1, uK n)] = some cs ∧ V.cv.go (fun _ => false) true cs = hdrC (hdP n (List.replicate 32 0)) := by
  refine ⟨_, rfl, ?_⟩
  rw [hdrC_eq]
  rfl
theorem cv_app2 (keep : Nat → Bool) (nn : Bool) : ∀ (l : List UInt8) (r : List V), V.cv.go keep nn (l.map bK ++ r) = l.map bK ++ V.cv.go keep nn r
  | [], r => rfl
  | x :: l, r => by rw [List.map_cons, List.cons_append, V.cv.go, cv_app2 keep nn l r]; rfl
theorem hdr_c2 (n : Nat) {x : List UInt8} (hx : x.length = 32) : ∃ cs, vfill (fun i => hdrPl'[i]?) (zerosH'.map Z.v) [(1, uK n), (0, .a (x.map bK))] = some cs ∧ V.cv.go (fun _ => false) true cs = hdrC (hdP n x) := by
  have hl : (x.map bK).length = 32 := by rw [List.length_map, hx]
  obtain ⟨c1, h1, h2⟩ := hdr_c1 n
  have e : vfill (fun i => hdrPl'[i]?) (zerosH'.map Z.v) [(1, uK n), (0, .a (x.map bK))] = vfill (fun i => hdrPl'[i]?) ([] ++ ((List.replicate 32 (bK 0)) ++ (uK n :: (zerosH'.map Z.v).drop 33))) [(0, .a (x.map bK))] := rfl
  refine ⟨_, by rw [e, vfill_step (v := .a (x.map bK)) (off := 0) (size := 32) rfl rfl hl rfl (by simp)]; rfl, ?_⟩
  show V.cv.go _ _ ([] ++ x.map bK ++ (uK n :: (zerosH'.map Z.v).drop 33)) = _
  rw [List.nil_append, cv_app2, hdrC_eq]
  rfl
theorem hdr_cv (keep : Nat → Bool) (nn : Bool) (h : Hdr) : V.cv.go keep nn (hdrC h) = hdrC h := by
  have hu : ∀ (n : Nat) {r : List V}, V.cv.go keep nn r = r → V.cv.go keep nn (uK n :: r) = uK n :: r := fun n r hr => by
    rw [V.cv.go, hr]; rfl
  have hb : ∀ (l : List UInt8) {r : List V}, V.cv.go keep nn r = r → V.cv.go keep nn (l.map bK ++ r) = l.map bK ++ r := fun l r hr => by
    rw [cv_app2, hr]
  have hn : ∀ l : List UInt8, V.cv.go keep nn (l.map bK) = l.map bK := fun l => by
    have := cv_app2 keep nn l []
    simpa [V.cv.go] using this
  rw [hdrC_eq]
  exact hb _ (hu _ (hu _ (hb _ (hu _ (hu _ (hb _ (hb _ (hb _ (hb _ (hn _))))))))))
set_option maxHeartbeats 8000000 in
theorem alive21_ : LF Try.prog 12 [] (fun _ => .k (.bool true)) none := by
  have hrf := hdrC_refs
  have hbr := hdV_bare
  have hcv := hdr_cv
  obtain ⟨cA, a1, a2⟩ := hdr_c1 3
  obtain ⟨cD, d1, d2⟩ := hdr_c1 9
  have kA := hdP_ok (n := 3) (x := List.replicate 32 0) (by decide) rfl
  have kD := hdP_ok (n := 9) (x := List.replicate 32 0) (by decide) rfl
  have nA : (hdP 3 (List.replicate 32 0)).number = 3 := rfl
  have nD : (hdP 9 (List.replicate 32 0)).number = 9 := rfl
  generalize hdP 3 (List.replicate 32 0) = A at *
  generalize hdP 9 (List.replicate 32 0) = D at *
  have sA := fS_len A
  obtain ⟨cB, b1, b2⟩ := hdr_c2 4 sA
  have kB := hdP_ok (n := 4) (by decide) sA
  have nB : (hdP 4 (fS A)).number = 4 := rfl
  have pB : (hdP 4 (fS A)).parent = fS A := rfl
  generalize hdP 4 (fS A) = B at *
  have sB := fS_len B
  obtain ⟨cC, e1, e2⟩ := hdr_c2 5 sB
  have kC := hdP_ok (n := 5) (by decide) sB
  have nC : (hdP 5 (fS B)).number = 5 := rfl
  have pC : (hdP 5 (fS B)).parent = fS B := rfl
  generalize hdP 5 (fS B) = C at *
  have hAB : ¬ A = B := fun e => by rw [e] at nA; omega
  have hall : ∀ x ∈ [A, C, D, B], x.ok := fun x hx => by
    simp only [List.mem_cons, List.not_mem_nil, or_false] at hx
    rcases hx with rfl | rfl | rfl | rfl <;> assumption
  have hall3 : ∀ x ∈ [A, B, C], x.ok := fun x hx => by
    simp only [List.mem_cons, List.not_mem_nil, or_false] at hx
    rcases hx with rfl | rfl | rfl <;> assumption
  obtain ⟨l, hl, hlo, c3⟩ := Line_ A [C, D, B] hall (by show 3 < _; decide)
  obtain rfl := alive_line nA nB pB nC pC nD hl
  have c1 := Sr.HSumB A kA
  have c2 := Sr.HSumB B kB
  have hs1 : Ch.sh [A, B, C] [A] = 1 := by simp [Ch.sh]
  have hs2 : Ch.sh [A, B, C] [A, B] = 2 := by simp [Ch.sh]
  have c4 := Turn_ [A, B, C] [A] hall3 (fun x hx => by obtain rfl := List.mem_singleton.1 hx; exact kA) (by show 3 < _; decide) (by show 1 < _; decide)
  have c5 := Shared_ [A, B, C] [A, B] hall3 (fun x hx => by
    simp only [List.mem_cons, List.not_mem_nil, or_false] at hx
    rcases hx with rfl | rfl <;> assumption) (by show 3 < _; decide) (by show 2 < _; decide)
  rw [hs1] at c4
  rw [hs2] at c5
  have x1 := hdrC_len kA
  have x2 := hdrC_len kB
  have x3 := hdrC_len kC
  have x4 := hdrC_len kD
  have hk := hdr_kinds' kC
  have hnn : ¬ ¬ hdrC C = hdrC C := fun f => f rfl
  have hd1 : (List.drop 1 [A, B, C]).reverse = [C, B] := rfl
  have hd2 : List.drop 1 [A] = [] := rfl
  rw [hd1, hd2] at c4
  simp only [hdsV, List.map_cons, List.map_nil] at c3 c4 c5
  unfold fS at *
  clear hd1 hd2 hl hlo nA nB pB nC pC nD kA kB kC kD hall hall3 hs1 hs2
  refine LFx.mk' tt Try.func12 rfl rfl rfl (by kernel_rfl) rfl rfl fun F => ?_
  exact wk trueW trueW trueW
end Cm
end Lf
open Go.RowKit Rg
set_option linter.unusedVariables false
set_option maxRecDepth 100000
namespace Lf
open Pk
namespace Cm
open Sq
instance (a b : Hdr) : Decidable (Ch.Fol (sgH fS) a b) := inferInstanceAs (Decidable (b.number ≠ 0 ∧ b.number - 1 = a.number ∧ b.parent = fS a))
end Cm
end Lf
namespace Lf
namespace Cm
end Cm
end Lf
open Go.RowKit Rg
set_option maxRecDepth 100000
namespace Lf
theorem BufAt.take {g : Gh} {w : World} {a : Option Nat} {E sz c : Nat} {es : List V} (h : BufAt g w a E sz es c) {m : Nat} (hm : m ≤ es.length) : BufAt g w a E sz (es.take m) c := by
  obtain ⟨p, hc, ⟨xs, ho, hr⟩, hf⟩ := h
  have hl : (es.take m).length = m := by rw [List.length_take]; omega
  have hms : m * sz ≤ es.length * sz := Nat.mul_le_mul_right _ hm
  refine ⟨p, fun e he => hc e (List.mem_of_mem_take he), ⟨xs.take (m * sz), ⟨?_, ?_⟩, fun j u x hj hx => ?_⟩, hf⟩
  · rw [List.length_take, ho.1, hl]; omega
  · rw [hl]
    rcases ho.2 with ⟨e, hn⟩ | ⟨g0, cap, cur, fz, e, k1, k2, k3, k4, k5, k6, k7⟩
    · left
      have h0 : m = 0 := by omega
      subst h0
      rw [hn] at e
      exact ⟨e, rfl⟩
    · right
      injection e with e1 e2 e3
      refine ⟨g0, cap, cur, fz, by rw [e1, e3], k1, k2, by omega, k4, k5, ?_, k7⟩
      rw [← k6, List.take_take, Nat.min_eq_left hms]
  · refine hr j u x ?_ ?_
    · have e : es.flatMap V.cells = (es.take m).flatMap V.cells ++ (es.drop m).flatMap V.cells := by rw [← List.flatMap_append, List.take_append_drop]
      rw [e, List.getElem?_append_left (List.getElem?_eq_some_iff.1 hj).1]
      exact hj
    · rw [List.getElem?_take] at hx
      split at hx
      · exact hx
      · cases hx
section
variable {P : Program} {F : Fr0} {N : Nat} {Q : LQ} {env : Env} {mem : Mem}
theorem RelM.shrink {g : Gh} {w : World} {r E sz gen m : Nat} {es : List V} (h : RelM F g mem w) (hr : aget mem r = some (.w E sz gen es)) (hm : m ≤ es.length) : RelM F g ((r, .w E sz gen (es.take m)) :: mem) w := by
  have old : ∀ {i : Nat} {z : M}, aget ((r, M.w E sz gen (es.take m)) :: mem) i = some z → ∃ z', aget mem i = some z' ∧ ∀ b o, fp g i z b o → fp g i z' b o := fun {i z} hi => by
    rw [aget_cons] at hi
    split at hi
    · rename_i e; subst e; cases hi
      exact ⟨_, hr, fun b o hf => hf⟩
    · exact ⟨_, hi, fun _ _ hf => hf⟩
  have non : ∀ i, aget ((r, M.w E sz gen (es.take m)) :: mem) i = none → aget mem i = none := fun i hi => by
    rw [aget_cons] at hi
    split at hi
    · cases hi
    · exact hi
  refine ⟨fun i z hi => ?_, fun i z b o hi hf => ?_, fun i j z z' b o hij hi hj hf hf' => ?_, fun i hi => h.nbx i (non i hi), fun i hi => h.nrw i (non i hi), h.fut, h.loc⟩
  · rw [aget_cons] at hi
    split at hi
    · rename_i e; subst e; cases hi
      have hko := h.ob _ _ hr
      cases hko with
      | @w _ _ _ c _ a hg hB => exact .w hg (hB.take hm)
    · exact h.ob i z hi
  · obtain ⟨y, h1, h2⟩ := old hi
    exact h.wr i y b o h1 (h2 b o hf)
  · obtain ⟨y, h1, h2⟩ := old hi
    obtain ⟨y', h1', h2'⟩ := old hj
    exact h.dj i j y y' b o hij h1 h1' (h2 b o hf) (h2' b o hf')
theorem LC.shrink {c : Code} {es es' : List V} {gen E sz : Nat} (r m : Nat) (hr : aget mem r = some (.w E sz gen es)) (hm : m ≤ es.length) (he : es.take m = es') (h : LC P F N c Q env ((r, .w E sz gen es') :: mem)) : LC P F N c Q env mem := ⟨fun F0 hx g a w hrel => by
  subst he
  exact h.go F0 hx g a w ⟨hrel.env, hrel.mem.shrink hr hm, hrel.kept, hrel.defers, hrel.size, hrel.big⟩⟩
end
end Lf
end Go.Proofs.Ytgjoecocahpfhaa

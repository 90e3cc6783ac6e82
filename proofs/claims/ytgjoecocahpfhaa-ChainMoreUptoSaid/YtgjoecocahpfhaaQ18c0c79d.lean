/- A part of the proof: texts joined. -/
import Derived.Test.YtgjoecocahpfhaaQ179a7c6f
namespace Go.Proofs.Ytgjoecocahpfhaa
open Go.RowKit Rg
set_option linter.unusedVariables false
set_option maxRecDepth 100000
namespace Lf
open Pk
namespace Cm
open Sq
theorem alive_line {A B C D : Hdr} (nA : A.number = 3) (nB : B.number = 4) (pB : B.parent = fS A) (nC : C.number = 5) (pC : C.parent = fS B) (nD : D.number = 9) {l : List Hdr} (h : LineOf fS [A, C, D, B] l) : l = [A, B, C] := by
  obtain ⟨M, b, hM, hb, hl⟩ := h.ex
  have f1 : Ch.Fol (sgH fS) A B := ⟨by show B.number ≠ 0; omega, by show B.number - 1 = A.number; omega, pB⟩
  have f2 : Ch.Fol (sgH fS) B C := ⟨by show C.number ≠ 0; omega, by show C.number - 1 = B.number; omega, pC⟩
  have m3 := hM.all 3 0 (by decide) (show 3 < 4 by decide) hM.zero f1
  have m1 := hM.all 1 3 (by decide) (show 1 < 4 by decide) m3 f2
  have hnum : ∀ i p, i ≠ 0 → M i = some p → p < 4 ∧ nums [A, C, D, B] i = nums [A, C, D, B] p + 1 := fun i p h0 hp => by
    obtain ⟨h1, h2, _⟩ := hM.beh i p h0 hp
    exact ⟨hM.lt p h1, h2.num⟩
  have v0 : nums [A, C, D, B] 0 = 3 := nA
  have v1 : nums [A, C, D, B] 1 = 5 := nC
  have v2 : nums [A, C, D, B] 2 = 9 := nD
  have v3 : nums [A, C, D, B] 3 = 4 := nB
  have c4 : ∀ p, p < 4 → p = 0 ∨ p = 1 ∨ p = 2 ∨ p = 3 := fun p h => by omega
  have m2 : M 2 = none := by
    cases hp : M 2 with
    | none => rfl
    | some p =>
      obtain ⟨h1, h2⟩ := hnum 2 p (by decide) hp
      rcases c4 p h1 with rfl | rfl | rfl | rfl <;> omega
  have hb1 : b = 1 := by
    have hbl : b < 4 := hM.lt b hb.is
    have ht := hb.top 1 m1
    have ht : nums [A, C, D, B] 1 < nums [A, C, D, B] b ∨ (nums [A, C, D, B] 1 = nums [A, C, D, B] b ∧ _) := ht
    have hbi := hb.is
    rcases c4 b hbl with rfl | rfl | rfl | rfl
    · rcases ht with ht | ⟨ht, _⟩ <;> omega
    · rfl
    · rw [m2] at hbi; cases hbi
    · rcases ht with ht | ⟨ht, _⟩ <;> omega
  subst hb1
  have w1 : M 1 = some 3 := by
    obtain ⟨p, hp⟩ := Ch.isSome_ex m1
    obtain ⟨h1, h2⟩ := hnum 1 p (by decide) hp
    rcases c4 p h1 with rfl | rfl | rfl | rfl
    · omega
    · omega
    · omega
    · exact hp
  have w3 : M 3 = some 0 := by
    obtain ⟨p, hp⟩ := Ch.isSome_ex m3
    obtain ⟨h1, h2⟩ := hnum 3 p (by decide) hp
    rcases c4 p h1 with rfl | rfl | rfl | rfl
    · exact hp
    · omega
    · omega
    · omega
  exact Ch.Pth.uniq hl (.s (by decide) w1 (.s (by decide) w3 .z))
def hdP (n : Nat) (p : List UInt8) : Hdr := ⟨p, n, 0, List.replicate 8 0, 0, 0, List.replicate 32 0, List.replicate 32 0, List.replicate 32 0, List.replicate 32 0, List.replicate 32 0⟩
theorem hdP_ok {n : Nat} {x : List UInt8} (hn : n < 18446744073709551616) (hx : x.length = 32) : (hdP n x).ok := ⟨hx, hn, (by decide : 0 < 18446744073709551616), rfl, (by decide : 0 < 18446744073709551616), (by decide : 0 < 18446744073709551616), rfl, rfl, rfl, rfl, rfl⟩
def zerosH' : List Z := List.replicate 32 (.int .u8) ++ (Z.int .u64 :: Z.int .u64 :: (List.replicate 8 (.int .u8) ++ (Z.int .u64 :: Z.int .u64 :: List.replicate 160 (.int .u8))))
abbrev hdrPl' : List (Nat × Nat) := [(0, 32), (32, 1), (33, 1), (34, 8), (42, 1), (43, 1), (44, 32), (76, 32), (108, 32), (140, 32), (172, 32)]
theorem hdr_c1 (n : Nat) : ∃ cs, vfill (fun i => hdrPl'[i]?) (zerosH'.map Z.v) [(1, uK n)] = some cs ∧ V.cv.go (fun _ => false) true cs = hdrC (hdP n (List.replicate 32 0)) := by
  refine ⟨_, rfl, ?_⟩
  rw [hdrC_eq]
  rfl
theorem cv_app2 (keep : Nat → Bool) (nn : Bool) : ∀ (l : List UInt8) (r : List V), V.cv.go keep nn (l.map bK ++ r) = l.map bK ++ V.cv.go keep nn r
  | [], r => rfl
  | x :: l, r => by rw [List.map_cons, List.cons_append, V.cv.go, cv_app2 keep nn l r]; rfl
theorem hdr_c2 (n : Nat) {x : List UInt8} (hx : x.length = 32) : ∃ cs, vfill (fun i => hdrPl'[i]?) (zerosH'.map Z.v) [(1, uK n), (0, .a (x.map bK))] = some cs ∧ V.cv.go (fun _ => false) true cs = hdrC (hdP n x) := by
  have hl : (x.map bK).length = 32 := by rw [List.length_map, hx]
  obtain ⟨c1, h1, h2⟩ := hdr_c1 n
  have e : vfill (fun i => hdrPl'[i]?) (zerosH'.map Z.v) [(1, uK n), (0, .a (x.map bK))] = vfill (fun i => hdrPl'[i]?) ([] ++ ((List.replicate 32 (bK 0)) ++ (uK n :: (zerosH'.map Z.v).drop 33))) [(0, .a (x.map bK))] := rfl
  refine ⟨_, by rw [e, vfill_step (v := .a (x.map bK)) (off := 0) (size := 32) rfl rfl hl rfl (by simp)]; rfl, ?_⟩
  show V.cv.go _ _ ([] ++ x.map bK ++ (uK n :: (zerosH'.map Z.v).drop 33)) = _
  rw [List.nil_append, cv_app2, hdrC_eq]
  rfl
theorem hdr_cv (keep : Nat → Bool) (nn : Bool) (h : Hdr) : V.cv.go keep nn (hdrC h) = hdrC h := by
  have hu : ∀ (n : Nat) {r : List V}, V.cv.go keep nn r = r → V.cv.go keep nn (uK n :: r) = uK n :: r := fun n r hr => by
    rw [V.cv.go, hr]; rfl
  have hb : ∀ (l : List UInt8) {r : List V}, V.cv.go keep nn r = r → V.cv.go keep nn (l.map bK ++ r) = l.map bK ++ r := fun l r hr => by
    rw [cv_app2, hr]
  have hn : ∀ l : List UInt8, V.cv.go keep nn (l.map bK) = l.map bK := fun l => by
    have := cv_app2 keep nn l []
    simpa [V.cv.go] using this
  rw [hdrC_eq]
  exact hb _ (hu _ (hu _ (hb _ (hu _ (hu _ (hb _ (hb _ (hb _ (hb _ (hn _))))))))))
set_option maxHeartbeats 8000000 in
theorem alive21_ : LF Try.prog 12 [] (fun _ => .k (.bool true)) none := by
  have hrf := hdrC_refs
  have hbr := hdV_bare
  have hcv := hdr_cv
  obtain ⟨cA, a1, a2⟩ := hdr_c1 3
  obtain ⟨cD, d1, d2⟩ := hdr_c1 9
  have kA := hdP_ok (n := 3) (x := List.replicate 32 0) (by decide) rfl
  have kD := hdP_ok (n := 9) (x := List.replicate 32 0) (by decide) rfl
  have nA : (hdP 3 (List.replicate 32 0)).number = 3 := rfl
  have nD : (hdP 9 (List.replicate 32 0)).number = 9 := rfl
  generalize hdP 3 (List.replicate 32 0) = A at *
  generalize hdP 9 (List.replicate 32 0) = D at *
  have sA := fS_len A
  obtain ⟨cB, b1, b2⟩ := hdr_c2 4 sA
  have kB := hdP_ok (n := 4) (by decide) sA
  have nB : (hdP 4 (fS A)).number = 4 := rfl
  have pB : (hdP 4 (fS A)).parent = fS A := rfl
  generalize hdP 4 (fS A) = B at *
  have sB := fS_len B
  obtain ⟨cC, e1, e2⟩ := hdr_c2 5 sB
  have kC := hdP_ok (n := 5) (by decide) sB
  have nC : (hdP 5 (fS B)).number = 5 := rfl
  have pC : (hdP 5 (fS B)).parent = fS B := rfl
  generalize hdP 5 (fS B) = C at *
  have hAB : ¬ A = B := fun e => by rw [e] at nA; omega
  have hall : ∀ x ∈ [A, C, D, B], x.ok := fun x hx => by
    simp only [List.mem_cons, List.not_mem_nil, or_false] at hx
    rcases hx with rfl | rfl | rfl | rfl <;> assumption
  have hall3 : ∀ x ∈ [A, B, C], x.ok := fun x hx => by
    simp only [List.mem_cons, List.not_mem_nil, or_false] at hx
    rcases hx with rfl | rfl | rfl <;> assumption
  obtain ⟨l, hl, hlo, c3⟩ := Line_ A [C, D, B] hall (by show 3 < _; decide)
  obtain rfl := alive_line nA nB pB nC pC nD hl
  have c1 := Sr.HSumB A kA
  have c2 := Sr.HSumB B kB
  have hs1 : Ch.sh [A, B, C] [A] = 1 := by simp [Ch.sh]
  have hs2 : Ch.sh [A, B, C] [A, B] = 2 := by simp [Ch.sh]
  have c4 := Turn_ [A, B, C] [A] hall3 (fun x hx => by obtain rfl := List.mem_singleton.1 hx; exact kA) (by show 3 < _; decide) (by show 1 < _; decide)
  have c5 := Shared_ [A, B, C] [A, B] hall3 (fun x hx => by
    simp only [List.mem_cons, List.not_mem_nil, or_false] at hx
    rcases hx with rfl | rfl <;> assumption) (by show 3 < _; decide) (by show 2 < _; decide)
  rw [hs1] at c4
  rw [hs2] at c5
  have x1 := hdrC_len kA
  have x2 := hdrC_len kB
  have x3 := hdrC_len kC
  have x4 := hdrC_len kD
  have hk := hdr_kinds' kC
  have hnn : ¬ ¬ hdrC C = hdrC C := fun f => f rfl
  have hd1 : (List.drop 1 [A, B, C]).reverse = [C, B] := rfl
  have hd2 : List.drop 1 [A] = [] := rfl
  rw [hd1, hd2] at c4
  simp only [hdsV, List.map_cons, List.map_nil] at c3 c4 c5
  unfold fS at *
  clear hd1 hd2 hl hlo nA nB pB nC pC nD kA kB kC kD hall hall3 hs1 hs2
  refine LFx.mk' tt Try.func12 rfl rfl rfl (by kernel_rfl) rfl rfl fun F => ?_
  exact wk trueW trueW trueW
end Cm
end Lf
open Go.RowKit Rg
set_option linter.unusedVariables false
set_option maxRecDepth 100000
namespace Lf
open Pk
namespace Cm
open Sq
instance (a b : Hdr) : Decidable (Ch.Fol (sgH fS) a b) := inferInstanceAs (Decidable (b.number ≠ 0 ∧ b.number - 1 = a.number ∧ b.parent = fS a))
theorem fol_iff {a b : Hdr} : Ch.Fol (sgH fS) a b ↔ b.number ≠ 0 ∧ b.number - 1 = a.number ∧ b.parent = fS a := Iff.rfl
set_option maxHeartbeats 4000000 in
theorem follows_ (a b : Hdr) (ka : a.ok) (kb : b.ok) : LF Try.prog 15 [hdV a, hdV b] (fun _ => .k (.bool (decide (Ch.Fol (sgH fS) a b)))) none := by
  have hrf := hdrC_refs
  have hx1 := hdrC_len ka
  have hx2 := hdrC_len kb
  have c1 := Sr.HSumB a ka
  have ld1 : ∀ {ti : TI}, ti.d.agg = false → ti.part (hdrC a) 32 = some (uK a.number) := fun hd => part_num hd (hd32 ka 0)
  have ld2 : ∀ {ti : TI}, ti.d.agg = false → ti.part (hdrC b) 32 = some (uK b.number) := fun hd => part_num hd (hd32 kb 0)
  have ld3 : ∀ {ti : TI}, ti.d.agg = true → ti.size = 32 → ti.part (hdrC b) 0 = some (.a (b.parent.map bK)) := fun hd hz => part_hash kb hd hz
  have hn1 := kb.number
  have hp := kb.parent
  have hs := fS_len a
  by_cases h1 : b.number = 0
  · have hd : decide (Ch.Fol (sgH fS) a b) = false := decide_eq_false fun h => (fol_iff.1 h).1 h1
    rw [hd]
    clear hd
    unfold fS at *
    refine LFx.mk' tt Try.func15 rfl rfl rfl (by kernel_rfl) rfl rfl fun F => ?_
    exact wk trueW trueW trueW
  · have hn2 : 1 ≤ b.number := by omega
    by_cases h2 : b.number - 1 = a.number
    · by_cases h3 : b.parent = fS a
      · have hd : decide (Ch.Fol (sgH fS) a b) = true := decide_eq_true (fol_iff.2 ⟨h1, h2, h3⟩)
        rw [hd]
        clear hd
        have hnn : ¬ ¬ b.parent = fS a := fun f => f h3
        unfold fS at *
        refine LFx.mk' tt Try.func15 rfl rfl rfl (by kernel_rfl) rfl rfl fun F => ?_
        exact wk trueW trueW trueW
      · have hd : decide (Ch.Fol (sgH fS) a b) = false := decide_eq_false fun h => h3 (fol_iff.1 h).2.2
        rw [hd]
        clear hd
        unfold fS at *
        refine LFx.mk' tt Try.func15 rfl rfl rfl (by kernel_rfl) rfl rfl fun F => ?_
        exact wk trueW trueW trueW
    · have hd : decide (Ch.Fol (sgH fS) a b) = false := decide_eq_false fun h => h2 (fol_iff.1 h).2.1
      rw [hd]
      clear hd
      unfold fS at *
      refine LFx.mk' tt Try.func15 rfl rfl rfl (by kernel_rfl) rfl rfl fun F => ?_
      exact wk trueW trueW trueW
set_option maxHeartbeats 4000000 in
theorem Contains_ (l : List Hdr) (x : Hdr) (h : ∀ y ∈ l, y.ok) (kx : x.ok) (hl : l.length < 10000000) (hm : x ∈ l) : LF Try.prog 18 [hdsV l, hdV x] (fun _ => .k (.bool true)) none := by
  have hrf := hdrC_refs
  have hx1 := hdrC_len kx
  obtain ⟨n, h1, h2, h3⟩ : ∃ n, n < l.length ∧ l.getD n default = x ∧ ∀ j, j < n → l.getD j default ≠ x := by
    have hlt : l.findIdx (fun y => decide (y = x)) < l.length := List.findIdx_lt_length_of_exists ⟨x, hm, by simp⟩
    refine ⟨_, hlt, ?_, fun j hj => ?_⟩
    · rw [List.getD_eq_getElem?_getD, List.getElem?_eq_getElem hlt]
      exact of_decide_eq_true (List.findIdx_getElem (w := hlt) (p := fun y => decide (y = x)))
    · have hj2 : j < l.length := by omega
      have := List.not_of_lt_findIdx hj
      rw [List.getD_eq_getElem?_getD, List.getElem?_eq_getElem hj2]
      exact fun e => by
        have e : l[j] = x := e
        simp [e] at this
  have cI : LF Try.prog 35 [hdsV l, hdV x] (fun _ => .k (.int .i64 ((n : Nat) : Int))) none := by
    have hk := hdr_kinds' kx
    refine LFx.mk' tt Try.func35 rfl rfl rfl (by kernel_rfl) rfl rfl fun F => ?_
    refine wk ?_ trueW trueW
    refine LC.loopN (fun i => [(0, hdsV l), (3, .p 3 0), (7, .k (.int .i64 ((l.length : Nat) : Int))), (8, .k (.int .i64 ((i : Nat) : Int)))]) (fun i => [(3, .b (hdrC x))]) (fun i => i ≤ n) ((l.length - ·)) (0) (Nat.zero_le _) ⟨rfl, rfl, rfl, rfl, trivial⟩ ⟨rfl, trivial⟩ rfl rfW rfW ?_
    intro i hi
    have k1 := getD_ok h (show i < l.length by omega)
    have hk2 := hdr_kinds' k1
    have hx2 := hdrC_len k1
    rcases Nat.lt_or_ge i n with hlt | hge
    · have hne : ¬ hdrC x = hdrC (l.getD i default) := fun e => h3 i hlt (hdrC_inj kx k1 e).symm
      have hok : i + 1 ≤ n := hlt
      clear h3
      exact wk trueW trueW trueW
    · obtain rfl : i = n := by omega
      have he : hdrC x = hdrC (l.getD i default) := by rw [h2]
      have hnn : ¬ ¬ hdrC x = hdrC (l.getD i default) := fun f => f he
      clear h3
      exact wk trueW trueW trueW
  have c1 := cI
  clear cI h3
  refine LFx.mk' tt Try.func18 rfl rfl rfl (by kernel_rfl) rfl rfl fun F => ?_
  exact wk trueW trueW trueW
set_option maxHeartbeats 4000000 in
theorem Contains_no (l : List Hdr) (x : Hdr) (h : ∀ y ∈ l, y.ok) (kx : x.ok) (hl : l.length < 10000000) (hm : x ∉ l) : LF Try.prog 18 [hdsV l, hdV x] (fun _ => .k (.bool false)) none := by
  have hrf := hdrC_refs
  have hx1 := hdrC_len kx
  have cI : LF Try.prog 35 [hdsV l, hdV x] (fun _ => .k (.int .i64 (-1))) none := by
    have hk := hdr_kinds' kx
    have hml : (l.map hdV).length = l.length := List.length_map _
    refine LFx.mk' tt Try.func35 rfl rfl rfl (by kernel_rfl) rfl rfl fun F => ?_
    refine wk ?_ trueW trueW
    refine LC.loopN (fun i => [(0, hdsV l), (3, .p 3 0), (7, .k (.int .i64 ((l.length : Nat) : Int))), (8, .k (.int .i64 ((i : Nat) : Int)))]) (fun i => [(3, .b (hdrC x))]) (fun i => i ≤ l.length) ((l.length - ·)) (0) (Nat.zero_le _) ⟨rfl, rfl, rfl, rfl, trivial⟩ ⟨rfl, trivial⟩ rfl rfW rfW ?_
    intro i hi
    rcases Nat.lt_or_ge i l.length with hlt | hge
    · have k1 := getD_ok h hlt
      have hk2 := hdr_kinds' k1
      have hx2 := hdrC_len k1
      have hne : ¬ hdrC x = hdrC (l.getD i default) := fun e => hm (by rw [hdrC_inj kx k1 e]; exact mem_at hlt)
      have hok : i + 1 ≤ l.length := hlt
      clear hm
      exact wk trueW trueW trueW
    · clear hm
      exact wk trueW trueW trueW
  have c1 := cI
  clear cI
  refine LFx.mk' tt Try.func18 rfl rfl rfl (by kernel_rfl) rfl rfl fun F => ?_
  exact wk trueW trueW trueW
end Cm
end Lf
end Go.Proofs.Ytgjoecocahpfhaa

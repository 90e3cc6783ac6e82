/- SeatsMore: the law's function answers true at every input of bulk at most 1048576, and touches no old memory; from its walk to the given statement. Conditions: the statement's own bound, nothing else. -/
import Derived.Test.YtgioofknlbdfjaaDoorCards
import Derived.Test.YtgioofknlbdfjaaDoorTie
import Derived.WalkKit
import Derived.ProofKit
import Derived.OpenShut
import Derived.Deep.DeepHandedRow
import Derived.Lib.LaidTab
import Derived.Test.YtgioofknlbdfjaaDoorQ4d2db92
/- Seats: counting bits, the lowest bit, low, Quorum. -/
namespace Go.Proofs.YtgioofknlbdfjaaDoor
open Go.RowKit Rg
set_option maxRecDepth 100000
namespace Lf
namespace St
theorem and_lit {a m : Nat} (ha : a < 18446744073709551616) (hm : m < 18446744073709551616) {z : Int} (hz : z = ((m : Nat) : Int)) : IntKind.u64.wrap (((BitVec.ofInt IntKind.u64.bits ((a : Nat) : Int) &&& BitVec.ofInt IntKind.u64.bits z).toNat : Nat) : Int) = ((a &&& m : Nat) : Int) := by
  rw [hz]; exact and_u64 ha hm
theorem OnesCount64 (x : Nat) (hx : x < 18446744073709551616) : LF Tryd.prog 21 [uK x] (fun _ => .k (.int .i64 ((ones x : Nat) : Int))) none := by
  have h0 : x / 2 ^ 1 < 18446744073709551616 := Nat.lt_of_le_of_lt (Nat.div_le_self _ _) hx
  have a1 := Nat.and_le_right (n := x / 2 ^ 1) (m := 6148914691236517205)
  have a2 := Nat.and_le_right (n := x) (m := 6148914691236517205)
  have b1 := ones1_le x
  have e1 : ones1 x = (x / 2 ^ 1 &&& 6148914691236517205) + (x &&& 6148914691236517205) := rfl
  generalize hy1 : ones1 x = y1 at *
  have h1 : y1 / 2 ^ 2 < 18446744073709551616 := Nat.lt_of_le_of_lt (Nat.div_le_self _ _) (by omega)
  have a3 := Nat.and_le_right (n := y1 / 2 ^ 2) (m := 3689348814741910323)
  have a4 := Nat.and_le_right (n := y1) (m := 3689348814741910323)
  have b2 := ones2_le y1
  have e2 : ones2 y1 = (y1 / 2 ^ 2 &&& 3689348814741910323) + (y1 &&& 3689348814741910323) := rfl
  generalize hy2 : ones2 y1 = y2 at *
  have h2 : y2 / 2 ^ 4 + y2 < 18446744073709551616 := by simp only [Nat.reducePow]; omega
  have b3 := ones3_le y2
  have e3 : ones3 y2 = (y2 / 2 ^ 4 + y2) &&& 1085102592571150095 := rfl
  generalize hy3 : ones3 y2 = y3 at *
  have h3 : y3 + y3 / 2 ^ 8 < 1152921504606846976 := by simp only [Nat.reducePow]; omega
  have e4 : ones4 y3 = y3 + y3 / 2 ^ 8 := rfl
  generalize hy4 : ones4 y3 = y4 at *
  have h4 : y4 + y4 / 2 ^ 16 < 2305843009213693952 := by simp only [Nat.reducePow]; omega
  have e5 : ones5 y4 = y4 + y4 / 2 ^ 16 := rfl
  generalize hy5 : ones5 y4 = y5 at *
  have h5 : y5 + y5 / 2 ^ 32 < 4611686018427387904 := by simp only [Nat.reducePow]; omega
  have e6 : ones6 y5 = y5 + y5 / 2 ^ 32 := rfl
  generalize hy6 : ones6 y5 = y6 at *
  have e7 : ones x = y6 &&& 127 := by unfold ones; rw [hy1, hy2, hy3, hy4, hy5, hy6]
  rw [e7]
  have w1 : IntKind.u64.wrap (((BitVec.ofInt IntKind.u64.bits ((x / 2 ^ 1 : Nat) : Int) &&& BitVec.ofInt IntKind.u64.bits 6148914691236517205).toNat : Nat) : Int) = ((x / 2 ^ 1 &&& 6148914691236517205 : Nat) : Int) := and_lit h0 (by decide) (by decide)
  have w2 : IntKind.u64.wrap (((BitVec.ofInt IntKind.u64.bits ((x : Nat) : Int) &&& BitVec.ofInt IntKind.u64.bits 6148914691236517205).toNat : Nat) : Int) = ((x &&& 6148914691236517205 : Nat) : Int) := and_lit hx (by decide) (by decide)
  have w3 : IntKind.u64.wrap (((BitVec.ofInt IntKind.u64.bits ((y1 / 2 ^ 2 : Nat) : Int) &&& BitVec.ofInt IntKind.u64.bits 3689348814741910323).toNat : Nat) : Int) = ((y1 / 2 ^ 2 &&& 3689348814741910323 : Nat) : Int) := and_lit h1 (by decide) (by decide)
  have w4 : IntKind.u64.wrap (((BitVec.ofInt IntKind.u64.bits ((y1 : Nat) : Int) &&& BitVec.ofInt IntKind.u64.bits 3689348814741910323).toNat : Nat) : Int) = ((y1 &&& 3689348814741910323 : Nat) : Int) := and_lit (by omega) (by decide) (by decide)
  have w5 : IntKind.u64.wrap (((BitVec.ofInt IntKind.u64.bits ((y2 / 2 ^ 4 + y2 : Nat) : Int) &&& BitVec.ofInt IntKind.u64.bits 1085102592571150095).toNat : Nat) : Int) = ((y2 / 2 ^ 4 + y2 &&& 1085102592571150095 : Nat) : Int) := and_lit h2 (by decide) (by decide)
  subst e1; subst e2; subst e3; subst e4; subst e5; subst e6
  clear hy1 hy2 hy3 hy4 hy5 hy6 e7
  refine LFx.mk' tt Tryd.func21 rfl rfl rfl (by kernel_rfl) rfl rfl fun F => ?_
  exact wk trueW trueW trueW
/-- The n lowest bits. -/
def lowN (n : Nat) : Nat := if 64 ≤ n then 18446744073709551615 else 2 ^ n - 1
theorem low (n : Nat) (hn : n < 9223372036854775808) : LF Tryd.prog 20 [.k (.int .i64 ((n : Nat) : Int))] (fun _ => uK (lowN n)) none := by
  unfold lowN
  by_cases h : 64 ≤ n
  · rw [if_pos h]
    refine LFx.mk' tt Tryd.func20 rfl rfl rfl (by kernel_rfl) rfl rfl fun F => ?_
    exact wk trueW trueW trueW
  · rw [if_neg h]
    have h1 : 2 ^ n < 18446744073709551616 := Nat.lt_of_lt_of_le (Nat.pow_lt_pow_right (by omega) (show n < 64 by omega)) (by decide)
    have h2 : 0 < 2 ^ n := Nat.pow_pos (by omega)
    have hw : IntKind.u64.wrap (1 * 2 ^ (min ((n : Nat) : Int).toNat IntKind.u64.bits)) = ((2 ^ n : Nat) : Int) := by
      have := shl_u64 (a := 1) (s := n) (by omega)
      rw [Nat.one_mul, Nat.mod_eq_of_lt h1] at this
      exact this
    generalize 2 ^ n = z at *
    refine LFx.mk' tt Tryd.func20 rfl rfl rfl (by kernel_rfl) rfl rfl fun F => ?_
    exact wk trueW trueW trueW
theorem TrailingZeros64 (x : Nat) (hx : x < 18446744073709551616) (h0 : 0 < x) : LF Tryd.prog 22 [uK x] (fun _ => .k (.int .i64 ((tz 64 x : Nat) : Int))) none := by
  obtain ⟨q1, q2⟩ := low_neg 64 x h0 (by simpa using hx)
  obtain ⟨q3, hu⟩ := de_get q2
  have hG := deV_mem
  have hz : ¬ x = 0 := by omega
  have w1 : IntKind.u64.wrap (0 - (x : Int)) = ((18446744073709551616 - x : Nat) : Int) := by
    rw [neg_u64 hx]; congr 1; omega
  have w2 : IntKind.u64.wrap (((BitVec.ofInt IntKind.u64.bits ((x : Nat) : Int) &&& BitVec.ofInt IntKind.u64.bits ((18446744073709551616 - x : Nat) : Int)).toNat : Nat) : Int) = ((2 ^ tz 64 x : Nat) : Int) := by
    rw [and_u64 hx (by omega)]; exact congrArg _ q1
  generalize 2 ^ tz 64 x = z at *
  have w3 : IntKind.u64.wrap (((z : Nat) : Int) * 285870213051353865) = ((z * 285870213051353865 % 2 ^ 64 : Nat) : Int) := mul_u64m
  have w4 : ((z * 285870213051353865 % 2 ^ 64 : Nat) : Int).fdiv (2 ^ (min (58 : Int).toNat IntKind.u64.bits)) = ((deI z : Nat) : Int) := shr_u64r (s := 58) (by decide)
  generalize tz 64 x = t at *
  generalize deI z = k at *
  generalize z * 285870213051353865 % 2 ^ 64 = y at *
  clear q1
  generalize deV = dv at *
  refine LFx.mk' tt Tryd.func22 rfl rfl rfl (by kernel_rfl) rfl rfl fun F => ?_
  exact wk trueW trueW trueW
/-- Is the mask a quorum of n seats? -/
def quo (x n : Nat) : Bool := decide (0 < n ∧ n ≤ 16 ∧ andn x (lowN n) = 0 ∧ 2 * n ≤ 3 * ones x)
theorem lowN_lt (n : Nat) : lowN n < 18446744073709551616 := by
  unfold lowN
  split
  · decide
  · have h1 : 2 ^ n < 18446744073709551616 := Nat.lt_of_lt_of_le (Nat.pow_lt_pow_right (by omega) (show n < 64 by omega)) (by decide)
    omega
theorem ones_lt (x : Nat) : ones x ≤ 127 := Nat.and_le_right
theorem Quorum (x n : Nat) (hx : x < 18446744073709551616) (hn : n < 4611686018427387904) : LF Tryd.prog 10 [uK x, .k (.int .i64 ((n : Nat) : Int))] (fun _ => .k (.bool (quo x n))) none := by
  have c1 := low n (by omega)
  have c2 := OnesCount64 x hx
  have h1 := lowN_lt n
  have h2 := ones_lt x
  have h3 := andn_le x (lowN n)
  unfold quo
  generalize lowN n = lo at *
  generalize ones x = k at *
  by_cases a : 0 < n
  · by_cases b : n ≤ 16
    · by_cases c : andn x lo = 0
      · by_cases d : 2 * n ≤ 3 * k
        · rw [decide_eq_true ⟨a, b, c, d⟩]
          refine LFx.mk' tt Tryd.func10 rfl rfl rfl (by kernel_rfl) rfl rfl fun F => ?_
          exact wk trueW trueW trueW
        · rw [decide_eq_false (fun h => d h.2.2.2)]
          refine LFx.mk' tt Tryd.func10 rfl rfl rfl (by kernel_rfl) rfl rfl fun F => ?_
          exact wk trueW trueW trueW
      · rw [decide_eq_false (fun h => c h.2.2.1)]
        refine LFx.mk' tt Tryd.func10 rfl rfl rfl (by kernel_rfl) rfl rfl fun F => ?_
        exact wk trueW trueW trueW
    · rw [decide_eq_false (fun h => b h.2.1)]
      refine LFx.mk' tt Tryd.func10 rfl rfl rfl (by kernel_rfl) rfl rfl fun F => ?_
      exact wk trueW trueW trueW
  · rw [decide_eq_false (fun h => a h.1)]
    refine LFx.mk' tt Tryd.func10 rfl rfl rfl (by kernel_rfl) rfl rfl fun F => ?_
    exact wk trueW trueW trueW
end St
end Lf
end Go.Proofs.YtgioofknlbdfjaaDoor

/- Seats: Right, Named. -/
namespace Go.Proofs.YtgioofknlbdfjaaDoor
open Go.RowKit Rg
set_option maxRecDepth 100000
namespace Lf
namespace St
/-- The seats rise. -/
def asc (l : List Nat) : Prop := ∀ j, 0 < j → j < l.length → l.getD (j - 1) default < l.getD j default
theorem getD_lt64 {l : List Nat} (hl : ∀ x ∈ l, x < 18446744073709551616) (i : Nat) : l.getD i default < 18446744073709551616 := by
  by_cases h : i < l.length
  · rw [List.getD_eq_getElem?_getD, List.getElem?_eq_getElem h]; exact hl _ (List.getElem_mem h)
  · rw [List.getD_eq_getElem?_getD, List.getElem?_eq_none (by omega)]; decide
theorem Right (l : List Nat) (hl : ∀ x ∈ l, x < 18446744073709551616) (hn : l.length < 4611686018427387904) :
    (asc l ∧ 0 < l.length ∧ l.length ≤ 16 → LF Tryd.prog 9 [.s none (l.map uK)] (fun _ => .k (.bool true)) none) ∧
    (¬ (asc l ∧ 0 < l.length ∧ l.length ≤ 16) → LF Tryd.prog 9 [.s none (l.map uK)] (fun _ => .k (.bool false)) none) := by
  constructor
  · rintro ⟨ha, h1, h2⟩
    refine LFx.mk' tt Tryd.func9 rfl rfl rfl (by kernel_rfl) rfl rfl fun F => ?_
    refine wk ?_ trueW trueW
    refine LC.loopN (fun i => [(0, .s none (l.map uK)), (3, .k (.int .i64 ((i : Nat) : Int)))]) (fun i => []) (fun i => 1 ≤ i ∧ i ≤ l.length) ((l.length - ·)) (1) ⟨by omega, by omega⟩ ⟨rfl, rfl, trivial⟩ trivial rfl (by first | exact rfl | (simp only [V.cells, refsE, refsM, V.refs, V.refs.go, V.pure, V.pure.go, pure_mapq, pure_mapb, pure_mapu, refs_mapq, refs_mapb, refs_mapu, refs_append, Bool.and_true, Bool.true_and, Bool.and_self] <;> exact rfl) | (simp only [V.cells, refsE, refsM, V.refs, V.refs.go, V.pure, V.pure.go, pure_mapq, pure_mapb, pure_mapu, refs_mapq, refs_mapb, refs_mapu, refs_append, Bool.and_true, Bool.true_and, Bool.and_self, hrf] <;> exact rfl) | (simp only [V.cells, refsE, refsM, V.refs, V.refs.go, V.pure, V.pure.go, pure_mapq, pure_mapb, pure_mapu, refs_mapq, refs_mapb, refs_mapu, refs_append, Bool.and_true, Bool.true_and, Bool.and_self, hrf, hrg] <;> exact rfl) | exact lz) (by first | exact rfl | (simp only [V.cells, refsE, refsM, V.refs, V.refs.go, V.pure, V.pure.go, pure_mapq, pure_mapb, pure_mapu, refs_mapq, refs_mapb, refs_mapu, refs_append, Bool.and_true, Bool.true_and, Bool.and_self] <;> exact rfl) | (simp only [V.cells, refsE, refsM, V.refs, V.refs.go, V.pure, V.pure.go, pure_mapq, pure_mapb, pure_mapu, refs_mapq, refs_mapb, refs_mapu, refs_append, Bool.and_true, Bool.true_and, Bool.and_self, hrf] <;> exact rfl) | (simp only [V.cells, refsE, refsM, V.refs, V.refs.go, V.pure, V.pure.go, pure_mapq, pure_mapb, pure_mapu, refs_mapq, refs_mapb, refs_mapu, refs_append, Bool.and_true, Bool.true_and, Bool.and_self, hrf, hrg] <;> exact rfl) | exact lz) ?_
    rintro i ⟨p1, p2⟩
    by_cases hi : i < l.length
    · have hlt := ha i (by omega) hi
      have g1 := getD_lt64 hl i
      have hok : 1 ≤ i + 1 ∧ i + 1 ≤ l.length := ⟨by omega, by omega⟩
      exact wk trueW trueW trueW
    · exact wk trueW trueW trueW
  · intro hno
    refine LFx.mk' tt Tryd.func9 rfl rfl rfl (by kernel_rfl) rfl rfl fun F => ?_
    refine wk ?_ trueW trueW
    refine LC.loopN (fun i => [(0, .s none (l.map uK)), (3, .k (.int .i64 ((i : Nat) : Int)))]) (fun i => []) (fun i => 1 ≤ i ∧ (∀ j, 0 < j → j < i → j < l.length → l.getD (j - 1) default < l.getD j default)) ((l.length - ·)) (1) ⟨by omega, fun j h1 h2 => by omega⟩ ⟨rfl, rfl, trivial⟩ trivial rfl (by first | exact rfl | (simp only [V.cells, refsE, refsM, V.refs, V.refs.go, V.pure, V.pure.go, pure_mapq, pure_mapb, pure_mapu, refs_mapq, refs_mapb, refs_mapu, refs_append, Bool.and_true, Bool.true_and, Bool.and_self] <;> exact rfl) | (simp only [V.cells, refsE, refsM, V.refs, V.refs.go, V.pure, V.pure.go, pure_mapq, pure_mapb, pure_mapu, refs_mapq, refs_mapb, refs_mapu, refs_append, Bool.and_true, Bool.true_and, Bool.and_self, hrf] <;> exact rfl) | (simp only [V.cells, refsE, refsM, V.refs, V.refs.go, V.pure, V.pure.go, pure_mapq, pure_mapb, pure_mapu, refs_mapq, refs_mapb, refs_mapu, refs_append, Bool.and_true, Bool.true_and, Bool.and_self, hrf, hrg] <;> exact rfl) | exact lz) (by first | exact rfl | (simp only [V.cells, refsE, refsM, V.refs, V.refs.go, V.pure, V.pure.go, pure_mapq, pure_mapb, pure_mapu, refs_mapq, refs_mapb, refs_mapu, refs_append, Bool.and_true, Bool.true_and, Bool.and_self] <;> exact rfl) | (simp only [V.cells, refsE, refsM, V.refs, V.refs.go, V.pure, V.pure.go, pure_mapq, pure_mapb, pure_mapu, refs_mapq, refs_mapb, refs_mapu, refs_append, Bool.and_true, Bool.true_and, Bool.and_self, hrf] <;> exact rfl) | (simp only [V.cells, refsE, refsM, V.refs, V.refs.go, V.pure, V.pure.go, pure_mapq, pure_mapb, pure_mapu, refs_mapq, refs_mapb, refs_mapu, refs_append, Bool.and_true, Bool.true_and, Bool.and_self, hrf, hrg] <;> exact rfl) | exact lz) ?_
    rintro i ⟨p1, p2⟩
    by_cases hi : i < l.length
    · by_cases hlt : l.getD (i - 1) default < l.getD i default
      · have hok : 1 ≤ i + 1 ∧ (∀ j, 0 < j → j < i + 1 → j < l.length → l.getD (j - 1) default < l.getD j default) := ⟨by omega, fun j h1 h2 h3 => by
          by_cases e : j = i
          · rw [e]; exact hlt
          · exact p2 j h1 (by omega) h3⟩
        have g1 := getD_lt64 hl i
        exact wk trueW trueW trueW
      · exact wk trueW trueW trueW
    · have ha : asc l := fun j h1 h2 => p2 j h1 (by omega) h2
      by_cases h0 : 0 < l.length
      · have h16 : ¬ l.length ≤ 16 := fun h => hno ⟨ha, h0, h⟩
        clear p2 ha hno
        exact wk trueW trueW trueW
      · clear p2 ha hno
        exact wk trueW trueW trueW
/-- The seats at the mask's bits. -/
def named (l : List Nat) (m : Nat) : List Nat :=
  if h : m = 0 then [] else (if tz 64 m < l.length then [l.getD (tz 64 m) default] else []) ++ named l (m &&& (m - 1))
termination_by m
decreasing_by
  have := Nat.and_le_right (n := m) (m := m - 1)
  omega
theorem named_0 (l : List Nat) : named l 0 = [] := by rw [named]; simp
theorem named_s (l : List Nat) {m : Nat} (h : m ≠ 0) : named l m = (if tz 64 m < l.length then [l.getD (tz 64 m) default] else []) ++ named l (m &&& (m - 1)) := by
  rw [named]; simp [h]
theorem pc_clear {x y t : Nat} (hy : ∀ i, y.testBit i = (x.testBit i && !decide (i = t))) (ht : x.testBit t = true) : ∀ k, pc y k + (if t < k then 1 else 0) = pc x k
  | 0 => by simp [pc]
  | k + 1 => by
    have := pc_clear hy ht k
    simp only [pc, hy k]
    by_cases e : k = t
    · subst e
      simp [ht] at this ⊢
      omega
    · simp only [e, decide_false, Bool.not_false, Bool.and_true]
      by_cases h1 : t < k
      · simp only [h1, if_true, show t < k + 1 by omega] at this ⊢; omega
      · simp only [h1, if_false, show ¬ t < k + 1 by omega] at this ⊢; omega
theorem named_le (l : List Nat) : ∀ m, m < 18446744073709551616 → (named l m).length ≤ pc m 64 := by
  intro m
  induction m using Nat.strongRecOn with
  | ind m ih =>
    intro hm
    by_cases h : m = 0
    · subst h; rw [named_0]; simp
    · rw [named_s l h]
      have h1 := Nat.and_le_right (n := m) (m := m - 1)
      have h2 := ih (m &&& (m - 1)) (by omega) (by omega)
      obtain ⟨b1, b2⟩ := tz_bits 64 m (by omega) (by simpa using hm)
      have h3 := pc_clear b2 b1 64
      rw [if_pos (low_neg 64 m (by omega) (by simpa using hm)).2] at h3
      rw [List.length_append]
      split <;> simp <;> omega
theorem named_len (l : List Nat) (hl : l.length ≤ 64) : ∀ m, m < 2 ^ l.length → (named l m).length = pc m 64 := by
  intro m
  induction m using Nat.strongRecOn with
  | ind m ih =>
    intro hm
    have hm64 : m < 2 ^ 64 := Nat.lt_of_lt_of_le hm (Nat.pow_le_pow_right (by omega) hl)
    by_cases h : m = 0
    · subst h; rw [named_0]
      have : ∀ k, pc 0 k = 0 := fun k => by induction k with
        | zero => rfl
        | succ k ih => simp [pc, ih]
      rw [this]; rfl
    · rw [named_s l h]
      have h1 := Nat.and_le_right (n := m) (m := m - 1)
      have h2 := ih (m &&& (m - 1)) (by omega) (by omega)
      obtain ⟨b1, b2⟩ := tz_bits 64 m (by omega) hm64
      have h3 := pc_clear b2 b1 64
      rw [if_pos (low_neg 64 m (by omega) hm64).2] at h3
      have h4 : tz 64 m < l.length := Classical.byContradiction fun hn => by
        rw [Nat.testBit_lt_two_pow (Nat.lt_of_lt_of_le hm (Nat.pow_le_pow_right (by omega) (by omega)))] at b1
        cases b1
      rw [List.length_append, if_pos h4, List.length_singleton]
      omega
theorem pc_stable {m k : Nat} (h : m < 2 ^ k) : ∀ j, pc m (k + j) = pc m k
  | 0 => rfl
  | j + 1 => by
    have := pc_stable h j
    rw [← Nat.add_assoc]
    simp only [pc]
    rw [this, Nat.testBit_lt_two_pow (Nat.lt_of_lt_of_le h (Nat.pow_le_pow_right (by omega) (by omega)))]
    simp
theorem Named (l : List Nat) (M : Nat) (hl : ∀ x ∈ l, x < 18446744073709551616) (hn : l.length < 4611686018427387904) (hM : M < 18446744073709551616) :
    LF Tryd.prog 11 [.s none (l.map uK), uK M] (fun _ => .s none ((named l M).map uK)) none := by
  have hlen := named_le l M hM
  have hpc := pc_le M 64
  refine LFx.mk' tt Tryd.func11 rfl rfl rfl (by kernel_rfl) rfl rfl fun F => ?_
  refine wk ?_ trueW trueW
  refine LC.nilrow 5 60 23 1 rfl rfl rfl ?_
  refine LC.loop2 (fun m S => [(0, .s none (l.map uK)), (1, uK m), (5, .s (some 60) (S.map uK))]) (fun m S => [(60, .r 23 1 S.length)]) (fun m S => m ≤ M ∧ named l M = S ++ named l m) ((· + 0)) (M) ([]) ⟨by omega, rfl⟩ ⟨rfl, rfl, rfl, trivial⟩ ⟨rfl, trivial⟩ rfl (by first | exact rfl | (simp only [V.cells, refsE, refsM, V.refs, V.refs.go, V.pure, V.pure.go, pure_mapq, pure_mapb, pure_mapu, refs_mapq, refs_mapb, refs_mapu, refs_append, Bool.and_true, Bool.true_and, Bool.and_self] <;> exact rfl) | (simp only [V.cells, refsE, refsM, V.refs, V.refs.go, V.pure, V.pure.go, pure_mapq, pure_mapb, pure_mapu, refs_mapq, refs_mapb, refs_mapu, refs_append, Bool.and_true, Bool.true_and, Bool.and_self, hrf] <;> exact rfl) | (simp only [V.cells, refsE, refsM, V.refs, V.refs.go, V.pure, V.pure.go, pure_mapq, pure_mapb, pure_mapu, refs_mapq, refs_mapb, refs_mapu, refs_append, Bool.and_true, Bool.true_and, Bool.and_self, hrf, hrg] <;> exact rfl) | exact lz) (by first | exact rfl | (simp only [V.cells, refsE, refsM, V.refs, V.refs.go, V.pure, V.pure.go, pure_mapq, pure_mapb, pure_mapu, refs_mapq, refs_mapb, refs_mapu, refs_append, Bool.and_true, Bool.true_and, Bool.and_self] <;> exact rfl) | (simp only [V.cells, refsE, refsM, V.refs, V.refs.go, V.pure, V.pure.go, pure_mapq, pure_mapb, pure_mapu, refs_mapq, refs_mapb, refs_mapu, refs_append, Bool.and_true, Bool.true_and, Bool.and_self, hrf] <;> exact rfl) | (simp only [V.cells, refsE, refsM, V.refs, V.refs.go, V.pure, V.pure.go, pure_mapq, pure_mapb, pure_mapu, refs_mapq, refs_mapb, refs_mapu, refs_append, Bool.and_true, Bool.true_and, Bool.and_self, hrf, hrg] <;> exact rfl) | exact lz) ?_
  rintro m S ⟨hm, hS⟩
  have hSl : S.length ≤ 64 := by
    have := congrArg List.length hS
    rw [List.length_append] at this
    omega
  by_cases h : m = 0
  · subst h
    rw [named_0, List.append_nil] at hS
    rw [hS]
    exact wk trueW trueW trueW
  · have c1 := TrailingZeros64 m (by omega) (by omega)
    have h1 := Nat.and_le_right (n := m) (m := m - 1)
    have h2 := (low_neg 64 m (by omega) (by simp only [Nat.reducePow]; omega)).2
    rw [named_s l h] at hS
    have w1 : IntKind.u64.wrap (((BitVec.ofInt IntKind.u64.bits ((m : Nat) : Int) &&& BitVec.ofInt IntKind.u64.bits ((m - 1 : Nat) : Int)).toNat : Nat) : Int) = ((m &&& (m - 1) : Nat) : Int) := and_u64 (by omega) (by omega)
    by_cases hi : tz 64 m < l.length
    · rw [if_pos hi] at hS
      have hok : (m &&& (m - 1)) ≤ M ∧ named l M = (S ++ [l.getD (tz 64 m) default]) ++ named l (m &&& (m - 1)) := ⟨by omega, by rw [hS, List.append_assoc]⟩
      generalize tz 64 m = t at *
      clear hS
      exact wk trueW trueW trueW
    · rw [if_neg hi, List.nil_append] at hS
      have hok : (m &&& (m - 1)) ≤ M ∧ named l M = S ++ named l (m &&& (m - 1)) := ⟨by omega, hS⟩
      generalize tz 64 m = t at *
      clear hS
      exact wk trueW trueW trueW
end St
end Lf
end Go.Proofs.YtgioofknlbdfjaaDoor

/- Seats: slices.Equal of numbers. -/
namespace Go.Proofs.YtgioofknlbdfjaaDoor
open Go.RowKit Rg
set_option maxRecDepth 100000
namespace Lf
namespace St
theorem list_ext {a b : List Nat} (hl : a.length = b.length) (h : ∀ j, j < a.length → a.getD j default = b.getD j default) : a = b := by
  apply List.ext_getElem hl
  intro i h1 h2
  have := h i h1
  rw [List.getD_eq_getElem?_getD, List.getD_eq_getElem?_getD, List.getElem?_eq_getElem h1, List.getElem?_eq_getElem h2] at this
  exact this
theorem EqualU (a b : List Nat) (hn : a.length < 4611686018427387904) (hb : b.length < 4611686018427387904) :
    (a = b → LF Tryd.prog 17 [.s none (a.map uK), .s none (b.map uK)] (fun _ => .k (.bool true)) none) ∧
    (a ≠ b → LF Tryd.prog 17 [.s none (a.map uK), .s none (b.map uK)] (fun _ => .k (.bool false)) none) := by
  constructor
  · rintro rfl
    refine LFx.mk' tt Tryd.func17 rfl rfl rfl (by kernel_rfl) rfl rfl fun F => ?_
    refine wk ?_ trueW trueW
    refine LC.loopN (fun i => [(0, .s none (a.map uK)), (1, .s none (a.map uK)), (12, .k (.int .i64 ((a.length : Nat) : Int))), (13, .k (.int .i64 ((i : Nat) : Int)))]) (fun i => []) (fun i => i ≤ a.length) ((a.length - ·)) (0) (by omega) ⟨rfl, rfl, rfl, rfl, trivial⟩ trivial rfl (by first | exact rfl | (simp only [V.cells, refsE, refsM, V.refs, V.refs.go, V.pure, V.pure.go, pure_mapq, pure_mapb, pure_mapu, refs_mapq, refs_mapb, refs_mapu, refs_append, Bool.and_true, Bool.true_and, Bool.and_self] <;> exact rfl) | (simp only [V.cells, refsE, refsM, V.refs, V.refs.go, V.pure, V.pure.go, pure_mapq, pure_mapb, pure_mapu, refs_mapq, refs_mapb, refs_mapu, refs_append, Bool.and_true, Bool.true_and, Bool.and_self, hrf] <;> exact rfl) | (simp only [V.cells, refsE, refsM, V.refs, V.refs.go, V.pure, V.pure.go, pure_mapq, pure_mapb, pure_mapu, refs_mapq, refs_mapb, refs_mapu, refs_append, Bool.and_true, Bool.true_and, Bool.and_self, hrf, hrg] <;> exact rfl) | exact lz) (by first | exact rfl | (simp only [V.cells, refsE, refsM, V.refs, V.refs.go, V.pure, V.pure.go, pure_mapq, pure_mapb, pure_mapu, refs_mapq, refs_mapb, refs_mapu, refs_append, Bool.and_true, Bool.true_and, Bool.and_self] <;> exact rfl) | (simp only [V.cells, refsE, refsM, V.refs, V.refs.go, V.pure, V.pure.go, pure_mapq, pure_mapb, pure_mapu, refs_mapq, refs_mapb, refs_mapu, refs_append, Bool.and_true, Bool.true_and, Bool.and_self, hrf] <;> exact rfl) | (simp only [V.cells, refsE, refsM, V.refs, V.refs.go, V.pure, V.pure.go, pure_mapq, pure_mapb, pure_mapu, refs_mapq, refs_mapb, refs_mapu, refs_append, Bool.and_true, Bool.true_and, Bool.and_self, hrf, hrg] <;> exact rfl) | exact lz) ?_
    intro i hi
    by_cases h : i < a.length
    · have hok : i + 1 ≤ a.length := h
      exact wk trueW trueW trueW
    · exact wk trueW trueW trueW
  · intro hne
    by_cases hl : a.length = b.length
    · refine LFx.mk' tt Tryd.func17 rfl rfl rfl (by kernel_rfl) rfl rfl fun F => ?_
      refine wk ?_ trueW trueW
      refine LC.loopN (fun i => [(0, .s none (a.map uK)), (1, .s none (b.map uK)), (12, .k (.int .i64 ((a.length : Nat) : Int))), (13, .k (.int .i64 ((i : Nat) : Int)))]) (fun i => []) (fun i => i ≤ a.length ∧ (∀ j, j < i → a.getD j default = b.getD j default)) ((a.length - ·)) (0) ⟨by omega, fun j h => by omega⟩ ⟨rfl, rfl, rfl, rfl, trivial⟩ trivial rfl (by first | exact rfl | (simp only [V.cells, refsE, refsM, V.refs, V.refs.go, V.pure, V.pure.go, pure_mapq, pure_mapb, pure_mapu, refs_mapq, refs_mapb, refs_mapu, refs_append, Bool.and_true, Bool.true_and, Bool.and_self] <;> exact rfl) | (simp only [V.cells, refsE, refsM, V.refs, V.refs.go, V.pure, V.pure.go, pure_mapq, pure_mapb, pure_mapu, refs_mapq, refs_mapb, refs_mapu, refs_append, Bool.and_true, Bool.true_and, Bool.and_self, hrf] <;> exact rfl) | (simp only [V.cells, refsE, refsM, V.refs, V.refs.go, V.pure, V.pure.go, pure_mapq, pure_mapb, pure_mapu, refs_mapq, refs_mapb, refs_mapu, refs_append, Bool.and_true, Bool.true_and, Bool.and_self, hrf, hrg] <;> exact rfl) | exact lz) (by first | exact rfl | (simp only [V.cells, refsE, refsM, V.refs, V.refs.go, V.pure, V.pure.go, pure_mapq, pure_mapb, pure_mapu, refs_mapq, refs_mapb, refs_mapu, refs_append, Bool.and_true, Bool.true_and, Bool.and_self] <;> exact rfl) | (simp only [V.cells, refsE, refsM, V.refs, V.refs.go, V.pure, V.pure.go, pure_mapq, pure_mapb, pure_mapu, refs_mapq, refs_mapb, refs_mapu, refs_append, Bool.and_true, Bool.true_and, Bool.and_self, hrf] <;> exact rfl) | (simp only [V.cells, refsE, refsM, V.refs, V.refs.go, V.pure, V.pure.go, pure_mapq, pure_mapb, pure_mapu, refs_mapq, refs_mapb, refs_mapu, refs_append, Bool.and_true, Bool.true_and, Bool.and_self, hrf, hrg] <;> exact rfl) | exact lz) ?_
      rintro i ⟨hi, hj⟩
      by_cases h : i < a.length
      · by_cases he : a.getD i default = b.getD i default
        · have hok : i + 1 ≤ a.length ∧ (∀ j, j < i + 1 → a.getD j default = b.getD j default) := ⟨h, fun j q => by
            by_cases e : j = i
            · rw [e]; exact he
            · exact hj j (by omega)⟩
          exact wk trueW trueW trueW
        · exact wk trueW trueW trueW
      · exact absurd (list_ext hl fun j q => hj j (by omega)) hne
    · refine LFx.mk' tt Tryd.func17 rfl rfl rfl (by kernel_rfl) rfl rfl fun F => ?_
      exact wk trueW trueW trueW
end St
end Lf
end Go.Proofs.YtgioofknlbdfjaaDoor

/- Seats: votes as keys of a map. -/
namespace Go.Proofs.YtgioofknlbdfjaaDoor
open Go.RowKit Rg
set_option maxRecDepth 100000
namespace Lf
namespace St
abbrev VoteT := Nat × List UInt8
/-- A vote's cells, and its value. -/
def voteC (p : VoteT) : List V := uK p.1 :: p.2.map bK
def voteV (p : VoteT) : V := .a (voteC p)
def voteL (p : VoteT) : List Value := Value.int .u64 (p.1 : Int) :: p.2.map fun b => Value.int .u8 (b.toNat : Int)
def voteK (p : VoteT) : Value := .agg (voteL p).toArray
structure VoteOk (p : VoteT) : Prop where
  s : p.1 < 18446744073709551616
  h : p.2.length = 32
theorem voteC_k (p : VoteT) : voteC p = (voteL p).map .k := by
  unfold voteC voteL
  rw [List.map_cons, List.map_map]
  rfl
theorem vote_rep {w : World} {g : Gh} {p : VoteT} {v : Value} (h : Rep w g (voteV p) v) : v = voteK p := by
  unfold voteV at h
  rw [voteC_k] at h
  exact rep_plain h
theorem voteK_inj {p q : VoteT} (h : voteK p = voteK q) : p = q := by
  unfold voteK voteL at h
  have h1 := congrArg Array.toList (Value.agg.inj h)
  simp only [List.toList_toArray, List.cons.injEq, Value.int.injEq, true_and] at h1
  obtain ⟨h2, h3⟩ := h1
  refine Prod.ext (Int.ofNat.inj h2) ?_
  have hinj : ∀ (a b : List UInt8), a.map (fun b : UInt8 => Value.int .u8 (b.toNat : Int)) = b.map (fun b : UInt8 => Value.int .u8 (b.toNat : Int)) → a = b := by
    intro a
    induction a with
    | nil => intro b h; cases b with
      | nil => rfl
      | cons => simp at h
    | cons x r ih => intro b h; cases b with
      | nil => simp at h
      | cons y s =>
        simp only [List.map_cons, List.cons.injEq, Value.int.injEq, true_and] at h
        have e1 : x = y := UInt8.toNat_inj.1 (Int.ofNat.inj h.1)
        rw [e1, ih s h.2]
  exact hinj _ _ h3
theorem laidV : laidOutB Tryd.prog = true := by kernel_rfl
theorem wideV : (match Tryd.prog.underlying 37 with | some (.array _ _) | some (.struct _) => true | _ => false) = true := by kernel_rfl
theorem lawV : Maps.Keyed Tryd.prog 37 := Maps.Keyed.of_law (deep_law_laid laidV (m := 3) (by omega) (of_decide_eq_true (by kernel_rfl)) (by kernel_rfl) wideV)
theorem mapTyV : MapTy Tryd.prog 48 37 (.int .i64 0) := ⟨⟨3, by kernel_rfl, fun w => by kernel_rfl⟩, lawV⟩
theorem mapM_some {α β : Type} {f : α → Option β} : ∀ {l : List α}, (∀ x ∈ l, ∃ y, f x = some y) → ∃ r, l.mapM f = some r
  | [], _ => ⟨[], rfl⟩
  | x :: r, h => by
    obtain ⟨y, hy⟩ := h x (by simp)
    obtain ⟨s, hs⟩ := mapM_some (l := r) fun z hz => h z (by simp [hz])
    exact ⟨y :: s, by simp [List.mapM_cons, hy, hs]⟩
theorem fsV_ex : ∃ fs : Array Field, Tryd.prog.underlying 37 = some (.struct fs) ∧ fs.toList.map (fun f => (f.type, f.offset)) = [(23, 0), (30, 1)] ∧ fs.all (·.name != "_") = true :=
  ⟨(match Tryd.prog.underlying 37 with | some (.struct fs) => fs | _ => #[]), by kernel_rfl, by kernel_rfl, by kernel_rfl⟩
theorem u_u64 : Tryd.prog.underlying 23 = some (.int .u64) := by kernel_rfl
theorem u_u8 : Tryd.prog.underlying 5 = some (.int .u8) := by kernel_rfl
theorem u_hash : Tryd.prog.underlying 30 = some (.array 32 5) := by kernel_rfl
theorem c_u64 : Tryd.prog.cellsOf 23 = 1 := by kernel_rfl
theorem c_u8 : Tryd.prog.cellsOf 5 = 1 := by kernel_rfl
theorem c_hash : Tryd.prog.cellsOf 30 = 32 := by kernel_rfl
theorem c_vote : Tryd.prog.cellsOf 37 = 33 := by kernel_rfl
theorem key_vote : Tryd.prog.keyType 37 = true := by kernel_rfl
theorem size_ge : ∃ n, Tryd.prog.types.size + 1 = n + 1 + 1 + 1 := by
  have h : Nat.ble 3 Tryd.prog.types.size = true := by kernel_rfl
  have := Nat.le_of_ble_eq_true h
  exact ⟨Tryd.prog.types.size - 2, by omega⟩
theorem kl_struct {P : Program} {d t : Nat} {fs : Array Field} {cs : List Value} (h : P.underlying t = some (.struct fs)) : P.keyLits (d + 1) t cs = if cs.length = P.cellsOf t ∧ fs.all (·.name != "_") = true then (fs.toList.mapM fun f => P.keyLits d f.type ((cs.drop f.offset).take (P.cellsOf f.type))).map List.flatten else none := by
  simp only [Program.keyLits, h]
theorem kl_array {P : Program} {d t n e : Nat} {cs : List Value} (h : P.underlying t = some (.array n e)) : P.keyLits (d + 1) t cs = if cs.length = P.cellsOf t then ((List.range n).mapM fun i => P.keyLits d e ((cs.drop (i * P.cellsOf e)).take (P.cellsOf e))).map List.flatten else none := by
  simp only [Program.keyLits, h]
theorem lits_u8 (d : Nat) (b : UInt8) : Tryd.prog.keyLits (d + 1) 5 [.int .u8 (b.toNat : Int)] = some [.int .u8 (b.toNat : Int)] := by
  have := b.toNat_lt
  simp only [Program.keyLits, u_u8]
  rw [if_pos]
  simp [Lit.wf, IntKind.min, IntKind.max, IntKind.bits, IntKind.signed]
  omega
theorem lits_u64 (d s : Nat) (h : s < 18446744073709551616) : Tryd.prog.keyLits (d + 1) 23 [.int .u64 (s : Int)] = some [.int .u64 (s : Int)] := by
  simp only [Program.keyLits, u_u64]
  rw [if_pos]
  simp [Lit.wf, IntKind.min, IntKind.max, IntKind.bits, IntKind.signed]
  omega
theorem lits_hash (d : Nat) (l : List UInt8) (h : l.length = 32) : ∃ r, Tryd.prog.keyLits (d + 1 + 1) 30 (l.map fun b => Value.int .u8 (b.toNat : Int)) = some r := by
  rw [kl_array u_hash, if_pos (by rw [c_hash, List.length_map, h])]
  obtain ⟨r, hr⟩ := mapM_some (l := List.range 32) (f := fun i => Tryd.prog.keyLits (d + 1) 5 (((l.map fun b => Value.int .u8 (b.toNat : Int)).drop (i * Tryd.prog.cellsOf 5)).take (Tryd.prog.cellsOf 5))) fun i hi => by
    have hi' : i < l.length := by rw [h]; exact List.mem_range.1 hi
    refine ⟨[.int .u8 ((l[i]).toNat : Int)], ?_⟩
    have e : ((l.map fun b => Value.int .u8 (b.toNat : Int)).drop i).take 1 = [Value.int .u8 ((l[i]).toNat : Int)] := by
      rw [← List.map_drop, ← List.map_take, List.drop_eq_getElem_cons hi']
      rfl
    rw [c_u8, Nat.mul_one, e]
    exact lits_u8 d _
  exact ⟨_, by rw [hr]; rfl⟩
theorem lits_vote (d : Nat) (p : VoteT) (h : VoteOk p) : ∃ r, Tryd.prog.keyLits (d + 1 + 1 + 1) 37 (voteL p) = some r := by
  obtain ⟨fsV, fsV_at, fsV_map, fsV_all⟩ := fsV_ex
  rw [kl_struct fsV_at, if_pos ⟨by rw [c_vote]; simp [voteL, h.h], by exact fsV_all⟩]
  obtain ⟨r, hr⟩ := mapM_some (l := fsV.toList) (f := fun f => Tryd.prog.keyLits (d + 1 + 1) f.type (((voteL p).drop f.offset).take (Tryd.prog.cellsOf f.type))) fun f hf => by
    have h1 : (f.type, f.offset) ∈ [(23, 0), (30, 1)] := by rw [← fsV_map]; exact List.mem_map_of_mem hf
    simp only [List.mem_cons, Prod.mk.injEq, List.not_mem_nil, or_false] at h1
    rcases h1 with ⟨e1, e2⟩ | ⟨e1, e2⟩
    · rw [e1, e2, c_u64]
      exact ⟨_, lits_u64 _ _ h.s⟩
    · rw [e1, e2, c_hash]
      have e : ((voteL p).drop 1).take 32 = p.2.map fun b => Value.int .u8 (b.toNat : Int) := by
        unfold voteL
        rw [List.drop_succ_cons, List.drop_zero, List.take_of_length_le (by simp [h.h])]
      rw [e]
      exact lits_hash d _ h.h
  exact ⟨_, by rw [hr]; rfl⟩
theorem key_voteK (p : VoteT) (h : VoteOk p) : ∃ l, keyOf Tryd.prog 37 (voteK p) = some l := by
  obtain ⟨fsV, fsV_at, _, _⟩ := fsV_ex
  obtain ⟨n, hn⟩ := size_ge
  obtain ⟨r, hr⟩ := lits_vote n p h
  have hc : (voteK p).cells.toList = voteL p := by simp [voteK, Value.cells]
  have hf : (voteK p).formed Tryd.prog 37 = true := by
    simp [voteK, Value.formed, fsV_at, c_vote, voteL, h.h]
  unfold keyOf
  rw [fsV_at]
  simp only
  rw [if_pos (by rw [key_vote, hf]; rfl), hn, hc, hr]
  exact ⟨_, rfl⟩
theorem keyV (p : VoteT) (h : VoteOk p) : KeyV Tryd.prog 37 (voteV p) (voteK p) := ⟨key_voteK p h, fun _ _ _ hr => vote_rep hr⟩
end St
end Lf
end Go.Proofs.YtgioofknlbdfjaaDoor

/- Seats: book. -/
namespace Go.Proofs.YtgioofknlbdfjaaDoor
open Go.RowKit Rg
set_option maxRecDepth 100000
namespace Lf
namespace St
/-- One vote more. -/
def bump : List (VoteT × Nat) → VoteT → List (VoteT × Nat)
  | [], v => [(v, 1)]
  | (u, n) :: r, v => if u = v then (u, n + 1) :: r else (u, n) :: bump r v
def mE (E : List (VoteT × Nat)) : List (Value × V) := E.map fun p => (voteK p.1, .k (.int .i64 ((p.2 : Nat) : Int)))
theorem bump_new : ∀ {E : List (VoteT × Nat)} {v : VoteT}, (∀ p ∈ E, p.1 ≠ v) → bump E v = E ++ [(v, 1)]
  | [], _, _ => rfl
  | (u, n) :: r, v, h => by
    rw [bump, if_neg (h (u, n) (by simp)), bump_new fun p hp => h p (by simp [hp])]
    rfl
theorem bump_old : ∀ {E : List (VoteT × Nat)} {v : VoteT} {n s : Nat}, E[s]? = some (v, n) → (E.Pairwise fun p q => p.1 ≠ q.1) → bump E v = E.set s (v, n + 1)
  | [], _, _, _, h, _ => by simp at h
  | (u, m) :: r, v, n, s, h, hd => by
    cases s with
    | zero =>
      simp at h
      obtain ⟨rfl, rfl⟩ := h
      rw [bump, if_pos rfl]; rfl
    | succ s =>
      simp at h
      have h1 := List.pairwise_cons.1 hd
      have hne : u ≠ v := h1.1 (v, n) (List.mem_of_getElem? h)
      rw [bump, if_neg hne, bump_old h h1.2]
      rfl
/-- What a book of votes is like. -/
structure Book (votes : List VoteT) (E : List (VoteT × Nat)) : Prop where
  nd : E.Pairwise fun p q => p.1 ≠ q.1
  le : ∀ p ∈ E, 0 < p.2 ∧ p.2 ≤ votes.length
  mem : ∀ v, (∃ p ∈ E, p.1 = v) ↔ v ∈ votes
theorem Book.nil : Book [] [] := ⟨.nil, by simp, by simp⟩
theorem Book.bump {votes : List VoteT} {E : List (VoteT × Nat)} (h : Book votes E) (v : VoteT) : Book (votes ++ [v]) (bump E v) := by
  by_cases hv : ∃ p ∈ E, p.1 = v
  · obtain ⟨⟨u, n⟩, hp, rfl⟩ := hv
    obtain ⟨s, hs⟩ := List.mem_iff_getElem?.1 hp
    rw [bump_old hs h.nd]
    have hlt := (List.getElem?_eq_some_iff.1 hs).1
    have hkeys : (E.set s (u, n + 1)).map (·.1) = E.map (·.1) := by
      rw [List.map_set]
      apply List.ext_getElem?
      intro j
      rw [List.getElem?_set]
      split
      · rename_i e
        subst e
        rw [List.getElem?_map, hs]
        simp [hlt]
      · rfl
    refine ⟨?_, fun p hp' => ?_, fun v => ?_⟩
    · have := h.nd
      have e : ∀ l : List (VoteT × Nat), (l.Pairwise fun p q => p.1 ≠ q.1) ↔ (l.map (·.1)).Pairwise (· ≠ ·) := fun l => by rw [List.pairwise_map]
      rw [e, hkeys, ← e]
      exact this
    · rw [List.length_append]
      rcases List.mem_or_eq_of_mem_set hp' with h1 | h1
      · have := h.le p h1; simp; omega
      · have := h.le (u, n) hp
        subst h1
        simp at this ⊢
        omega
    · rw [List.mem_append, ← h.mem v]
      have e : ∀ l : List (VoteT × Nat), (∃ p ∈ l, p.1 = v) ↔ v ∈ l.map (·.1) := fun l => by simp
      rw [e, hkeys, ← e]
      constructor
      · exact .inl
      · rintro (h1 | h1)
        · exact h1
        · rw [List.mem_singleton] at h1
          exact ⟨(u, n), hp, h1.symm⟩
  · have hno : ∀ p ∈ E, p.1 ≠ v := fun p hp e => hv ⟨p, hp, e⟩
    rw [bump_new hno]
    refine ⟨List.pairwise_append.2 ⟨h.nd, by simp, fun a ha b hb => ?_⟩, fun p hp => ?_, fun u => ?_⟩
    · rw [List.mem_singleton] at hb
      subst hb
      exact hno a ha
    · rw [List.length_append]
      rcases List.mem_append.1 hp with h1 | h1
      · have := h.le p h1; simp; omega
      · rw [List.mem_singleton] at h1
        subst h1
        simp
    · rw [List.mem_append, ← h.mem u]
      simp only [List.mem_append, List.mem_singleton]
      constructor
      · rintro ⟨p, h1 | h1, h2⟩
        · exact .inl ⟨p, h1, h2⟩
        · subst h1; exact .inr h2.symm
      · rintro (⟨p, h1, h2⟩ | h1)
        · exact ⟨p, .inl h1, h2⟩
        · exact ⟨(v, 1), .inr rfl, h1.symm⟩
def bookE (votes : List VoteT) : List (VoteT × Nat) := votes.foldl bump []
theorem book_take (votes : List VoteT) : ∀ i, i ≤ votes.length → Book (votes.take i) (bookE (votes.take i))
  | 0, _ => Book.nil
  | i + 1, h => by
    have hlt : i < votes.length := h
    rw [List.take_succ_eq_append_getElem hlt]
    have := (book_take votes i (by omega)).bump votes[i]
    unfold bookE at *
    rw [List.foldl_append]
    exact this
theorem book_all (votes : List VoteT) : Book votes (bookE votes) := by
  have := book_take votes votes.length (Nat.le_refl _)
  rwa [List.take_length] at this
/-- What the map tells, of any vote. -/
theorem get_no {E : List (VoteT × Nat)} {v : VoteT} {y0 : V} (h : ∀ p ∈ E, p.1 ≠ v) : MGet (mE E) (voteK v) y0 y0 := ⟨fun _ => rfl, fun p hp e => by
  obtain ⟨q, hq, rfl⟩ := List.mem_map.1 hp
  exact absurd (voteK_inj e) (h q hq)⟩
theorem get_yes {E : List (VoteT × Nat)} (hn : E.Pairwise fun p q => p.1 ≠ q.1) {v : VoteT} {n : Nat} {y0 : V} (h : (v, n) ∈ E) : MGet (mE E) (voteK v) y0 (.k (.int .i64 ((n : Nat) : Int))) := ⟨fun h1 => absurd rfl (h1 (voteK v, .k (.int .i64 ((n : Nat) : Int))) (List.mem_map.2 ⟨(v, n), h, rfl⟩)), fun p hp e => by
  obtain ⟨⟨u, m⟩, hq, rfl⟩ := List.mem_map.1 hp
  obtain rfl : u = v := voteK_inj e
  obtain ⟨i, hi⟩ := List.mem_iff_getElem?.1 h
  obtain ⟨j, hj⟩ := List.mem_iff_getElem?.1 hq
  by_cases hij : i = j
  · subst hij; rw [hi] at hj; cases hj; rfl
  · exfalso
    have h1 := (List.getElem?_eq_some_iff.1 hi)
    have h2 := (List.getElem?_eq_some_iff.1 hj)
    obtain ⟨l1, e1⟩ := h1
    obtain ⟨l2, e2⟩ := h2
    rcases Nat.lt_or_gt_of_ne hij with hlt | hlt
    · have := (List.pairwise_iff_getElem.1 hn) i j l1 l2 hlt
      rw [e1, e2] at this; exact this rfl
    · have := (List.pairwise_iff_getElem.1 hn) j i l2 l1 hlt
      rw [e1, e2] at this; exact this rfl⟩
theorem at_yes {E : List (VoteT × Nat)} (hn : E.Pairwise fun p q => p.1 ≠ q.1) {v : VoteT} {n s : Nat} (h : E[s]? = some (v, n)) : MAt (mE E) s (voteK v) (.k (.int .i64 ((n : Nat) : Int))) := ⟨by unfold mE; rw [List.getElem?_map, h]; rfl, fun j p hj e => by
  unfold mE at hj
  rw [List.getElem?_map] at hj
  obtain ⟨⟨u, m⟩, hq, rfl⟩ := Option.map_eq_some_iff.1 hj
  obtain rfl : u = v := voteK_inj e
  obtain ⟨l1, e1⟩ := List.getElem?_eq_some_iff.1 h
  obtain ⟨l2, e2⟩ := List.getElem?_eq_some_iff.1 hq
  apply Classical.byContradiction
  intro hne
  rcases Nat.lt_or_gt_of_ne hne with hlt | hlt
  · have := (List.pairwise_iff_getElem.1 hn) j s l2 l1 hlt
    rw [e1, e2] at this; exact this rfl
  · have := (List.pairwise_iff_getElem.1 hn) s j l1 l2 hlt
    rw [e1, e2] at this; exact this rfl⟩
theorem keys_mE {E : List (VoteT × Nat)} (h : ∀ p ∈ E, VoteOk p.1) : KeysV Tryd.prog 37 (mE E) := ⟨fun p hp => by
  obtain ⟨q, hq, rfl⟩ := List.mem_map.1 hp
  exact key_voteK _ (h q hq)⟩
theorem mE_snoc (E : List (VoteT × Nat)) (v : VoteT) (n : Nat) : mE E ++ [(voteK v, .k (.int .i64 ((n : Nat) : Int)))] = mE (E ++ [(v, n)]) := by
  unfold mE; rw [List.map_append]; rfl
theorem mE_len (E : List (VoteT × Nat)) : (mE E).length = E.length := List.length_map _
theorem mE_set (E : List (VoteT × Nat)) (s : Nat) (v : VoteT) (n : Nat) : (mE E).set s (voteK v, .k (.int .i64 ((n : Nat) : Int))) = mE (E.set s (v, n)) := by
  unfold mE; rw [List.map_set]
theorem voteC_len {v : VoteT} (h : VoteOk v) : (voteC v).length = 33 := by simp [voteC, h.h]
theorem book (votes : List VoteT) (hv : ∀ v ∈ votes, VoteOk v) (hn : votes.length < 4611686018427387904) (k : Nat) : LM Tryd.prog 23 [.s none (votes.map voteV)] [] fun o m => o = .ret (.mp k) ∧ m = [(k, .m (mE (bookE votes)))] := by
  have hM := mapTyV
  have hd2 : TwoIn 5 [0, 1] 2 4 [3, 4, 5, 6] [5, 2, 3, 6] := ⟨⟩
  refine LM.map1 (k0 := 6) (fun _ => rfl) ?_ k
  refine LFx.mk' tt Tryd.func23 rfl rfl rfl (by kernel_rfl) rfl rfl fun F => ?_
  refine wk ?_ trueW trueW
  refine LC.loop2 (fun i S => [(3, .mp 6), (7, .s none (votes.map voteV)), (8, .k (.int .i64 ((votes.length : Nat) : Int))), (9, .k (.int .i64 ((i : Nat) : Int)))]) (fun i S => [(6, .m (mE S))]) (fun i S => i ≤ votes.length ∧ S = bookE (votes.take i)) ((votes.length - ·)) (0) ([]) ⟨by omega, rfl⟩ ⟨rfl, rfl, rfl, rfl, trivial⟩ ⟨rfl, trivial⟩ rfl (by first | exact rfl | (simp only [V.cells, refsE, refsM, V.refs, V.refs.go, V.pure, V.pure.go, pure_mapq, pure_mapb, pure_mapu, refs_mapq, refs_mapb, refs_mapu, refs_append, Bool.and_true, Bool.true_and, Bool.and_self] <;> exact rfl) | (simp only [V.cells, refsE, refsM, V.refs, V.refs.go, V.pure, V.pure.go, pure_mapq, pure_mapb, pure_mapu, refs_mapq, refs_mapb, refs_mapu, refs_append, Bool.and_true, Bool.true_and, Bool.and_self, hrf] <;> exact rfl) | (simp only [V.cells, refsE, refsM, V.refs, V.refs.go, V.pure, V.pure.go, pure_mapq, pure_mapb, pure_mapu, refs_mapq, refs_mapb, refs_mapu, refs_append, Bool.and_true, Bool.true_and, Bool.and_self, hrf, hrg] <;> exact rfl) | exact lz) (by first | exact rfl | (simp only [V.cells, refsE, refsM, V.refs, V.refs.go, V.pure, V.pure.go, pure_mapq, pure_mapb, pure_mapu, refs_mapq, refs_mapb, refs_mapu, refs_append, Bool.and_true, Bool.true_and, Bool.and_self] <;> exact rfl) | (simp only [V.cells, refsE, refsM, V.refs, V.refs.go, V.pure, V.pure.go, pure_mapq, pure_mapb, pure_mapu, refs_mapq, refs_mapb, refs_mapu, refs_append, Bool.and_true, Bool.true_and, Bool.and_self, hrf] <;> exact rfl) | (simp only [V.cells, refsE, refsM, V.refs, V.refs.go, V.pure, V.pure.go, pure_mapq, pure_mapb, pure_mapu, refs_mapq, refs_mapb, refs_mapu, refs_append, Bool.and_true, Bool.true_and, Bool.and_self, hrf, hrg] <;> exact rfl) | exact lz) ?_
  rintro i S ⟨hi, hS⟩
  by_cases h : i < votes.length
  · have hok : i + 1 ≤ votes.length ∧ bump S (votes.getD i default) = bookE (votes.take (i + 1)) := ⟨h, by
      rw [hS, List.take_succ_eq_append_getElem h]
      unfold bookE
      rw [List.foldl_append, List.getD_eq_getElem?_getD, List.getElem?_eq_getElem h]
      rfl⟩
    have hvm : votes.getD i default ∈ votes := by
      rw [List.getD_eq_getElem?_getD, List.getElem?_eq_getElem h]; exact List.getElem_mem h
    have hB := book_take votes i hi
    rw [← hS] at hB
    have hgl := voteC_len (hv _ hvm)
    have hgle : 0 + (voteC (votes.getD i default)).length ≤ 33 := by omega
    have hkey := keyV _ (hv _ hvm)
    have hSk : ∀ p ∈ S, VoteOk p.1 := fun p hp => hv _ (List.mem_of_mem_take ((hB.mem p.1).1 ⟨p, hp, rfl⟩))
    have hks := keys_mE hSk
    have hvok := hv _ hvm
    have hle := hB.le
    have hnd := hB.nd
    have hlen : (votes.take i).length = i := by rw [List.length_take]; omega
    rw [hlen] at hle
    clear hS hB
    by_cases hin : ∃ p ∈ S, p.1 = votes.getD i default
    · obtain ⟨⟨u, n⟩, hp, hu⟩ := hin
      have hu' : u = votes.getD i default := hu
      subst hu'
      have hnn : n < 4611686018427387904 := by have := hle _ hp; simp at this; omega
      obtain ⟨s, hs⟩ := List.mem_iff_getElem?.1 hp
      have hget := get_yes (y0 := .k (.int .i64 0)) hnd hp
      have hat := at_yes hnd hs
      have hset : MSet (mE S) s (.k (.int .i64 ((n + 1 : Nat) : Int))) (mE (bump S (votes.getD i default))) := ⟨voteK (votes.getD i default), _, hat.at_, by rw [bump_old hs hnd, mE_set]⟩
      exact wk trueW trueW trueW
    · have hno : ∀ p ∈ S, p.1 ≠ votes.getD i default := fun p hp e => hin ⟨p, hp, e⟩
      have hget := get_no (y0 := .k (.int .i64 0)) hno
      have hno' : MNo (mE S) (voteK (votes.getD i default)) := ⟨fun p hp e => by
        obtain ⟨q, hq, rfl⟩ := List.mem_map.1 hp
        exact hno q hq (voteK_inj e)⟩
      have hks' : KeysV Tryd.prog 37 (mE S ++ [(voteK (votes.getD i default), .k (.int .i64 0))]) := ⟨fun p hp => by
        rcases List.mem_append.1 hp with hp | hp
        · exact hks.all p hp
        · rw [List.mem_singleton] at hp
          subst hp
          exact hkey.k⟩
      have hget' : MGet (mE S ++ [(voteK (votes.getD i default), .k (.int .i64 0))]) (voteK (votes.getD i default)) (.k (.int .i64 0)) (.k (.int .i64 0)) := ⟨fun _ => rfl, fun p hp e => by
        rcases List.mem_append.1 hp with hp | hp
        · exact absurd e (hno'.no p hp)
        · rw [List.mem_singleton] at hp
          subst hp
          rfl⟩
      have hset : MSet (mE S ++ [(voteK (votes.getD i default), .k (.int .i64 0))]) S.length (.k (.int .i64 1)) (mE (bump S (votes.getD i default))) := ⟨voteK (votes.getD i default), .k (.int .i64 0), by rw [List.getElem?_append_right (by rw [mE_len]; exact Nat.le_refl _), mE_len]; simp, by
        rw [bump_new hno, ← mE_snoc, ← mE_len, List.set_append_right _ _ (Nat.le_refl _)]
        simp⟩
      exact wk trueW trueW trueW
  · have hS' : S = bookE votes := by rw [hS, List.take_of_length_le (by omega)]
    subst hS'
    exact wk trueW trueW trueW
end St
end Lf
end Go.Proofs.YtgioofknlbdfjaaDoor

/- Seats: Tally and Voted. -/
namespace Go.Proofs.YtgioofknlbdfjaaDoor
open Go.RowKit Rg
set_option maxRecDepth 100000
namespace Lf
namespace St
/-- The bits below k at which f holds. -/
def tal (f : Nat → Bool) : Nat → Nat
  | 0 => 0
  | k + 1 => if f k then tal f k ||| 2 ^ k else tal f k
theorem tal_lt (f : Nat → Bool) : ∀ k, tal f k < 2 ^ k
  | 0 => by simp [tal]
  | k + 1 => by
    have h := tal_lt f k
    have h2 : 2 ^ k < 2 ^ (k + 1) := Nat.pow_lt_pow_right (by omega) (by omega)
    rw [tal]
    split
    · exact Nat.or_lt_two_pow (by omega) h2
    · omega
theorem tal_bit (f : Nat → Bool) (i : Nat) : ∀ k, (tal f k).testBit i = (decide (i < k) && f i)
  | 0 => by simp [tal]
  | k + 1 => by
    have h := tal_bit f i k
    rw [tal]
    by_cases hik : i = k
    · subst hik
      have h3 : (tal f i).testBit i = false := Nat.testBit_lt_two_pow (tal_lt f i)
      cases hf : f i
      · simp [h3]
      · simp [Nat.testBit_or, Nat.testBit_two_pow_self]
    · have e : decide (i < k + 1) = decide (i < k) := decide_eq_decide.2 ⟨fun _ => by omega, fun _ => by omega⟩
      rw [e, ← h]
      split
      · rw [Nat.testBit_or, Nat.testBit_two_pow]
        have : decide (k = i) = false := decide_eq_false (fun e => hik e.symm)
        rw [this, Bool.or_false]
      · rfl
def talF (l : List Nat) (x : List UInt8) (votes : List VoteT) (i : Nat) : Bool := decide ((l.getD i default, x) ∈ votes)
def tally (l : List Nat) (x : List UInt8) (votes : List VoteT) : Nat := tal (talF l x votes) (min l.length 64)
theorem tally_lt (l : List Nat) (x : List UInt8) (votes : List VoteT) : tally l x votes < 18446744073709551616 := by
  have h := tal_lt (talF l x votes) (min l.length 64)
  have h2 : 2 ^ (min l.length 64) ≤ 2 ^ 64 := Nat.pow_le_pow_right (by omega) (by omega)
  unfold tally
  omega
theorem tally_bit (l : List Nat) (x : List UInt8) (votes : List VoteT) (i : Nat) : (tally l x votes).testBit i = (decide (i < l.length ∧ i < 64) && decide ((l.getD i default, x) ∈ votes)) := by
  unfold tally
  rw [tal_bit]
  congr 1
  exact decide_eq_decide.2 ⟨fun h => by omega, fun h => by omega⟩
theorem cv_voteC (p : VoteT) : V.cv.go (fun _ => false) true (voteC p) = voteC p := by
  unfold voteC
  rw [V.cv.go, cv_mapb]
  rfl
theorem vote_b (s : Nat) (h : List UInt8) (hl : h.length = 32) : ∃ cs, vfill (fun i => [(0, 1), (1, 32)][i]?) ((Z.int .u64 :: List.replicate 32 (Z.int .u8)).map Z.v) [(0, uK s), (1, .a (h.map bK))] = some cs ∧ V.cv.go (fun _ => false) true cs = voteC (s, h) := by
  refine ⟨voteC (s, h), ?_, cv_voteC _⟩
  have e1 : splice ((Z.int .u64 :: List.replicate 32 (Z.int .u8)).map Z.v) 0 [uK s] = uK s :: (List.replicate 32 (Z.int .u8)).map Z.v := rfl
  have e2 : splice (uK s :: (List.replicate 32 (Z.int .u8)).map Z.v) 1 (h.map bK) = voteC (s, h) := by
    simp [splice, voteC, hl]
  have e4 : (h.map bK).length = 32 := by rw [List.length_map, hl]
  have e5 : (V.a (h.map bK)).ok = true := rfl
  have e6 : (uK s).ok = true := rfl
  simp only [vfill, cells_uK, cells_a, List.getElem?_cons_zero, List.getElem?_cons_succ, e1, e2, e4, e5, e6]
  rfl
theorem Tally (l : List Nat) (x : List UInt8) (votes : List VoteT) (hl : ∀ s ∈ l, s < 18446744073709551616) (hn : l.length < 4611686018427387904) (hx : x.length = 32) (hv : ∀ v ∈ votes, VoteOk v) (hnv : votes.length < 4611686018427387904) :
    LF Tryd.prog 12 [.s none (l.map uK), .a (x.map bK), .s none (votes.map voteV)] (fun _ => uK (tally l x votes)) none := by
  have hM := mapTyV
  have c1 := book votes hv hnv
  have hB := book_all votes
  have hks := keys_mE (E := bookE votes) fun p hp => hv _ ((hB.mem p.1).1 ⟨p, hp, rfl⟩)
  have hnd := hB.nd
  have hle := hB.le
  have hmem := hB.mem
  clear hB
  unfold tally
  generalize hE : bookE votes = E at *
  refine LFx.mk' tt Tryd.func12 rfl rfl rfl (by kernel_rfl) rfl rfl fun F => ?_
  refine wk ?_ trueW trueW
  refine LC.loop2 (fun i S => [(4, .p 4 0), (7, .mp 12), (8, uK S), (13, .s none (l.map uK)), (14, .k (.int .i64 ((l.length : Nat) : Int))), (15, .k (.int .i64 ((i : Nat) : Int)))]) (fun i S => [(4, .b (x.map bK)), (12, .m (mE E))]) (fun i S => i ≤ l.length ∧ S = tal (talF l x votes) (min i 64)) ((l.length - ·)) (0) (0) ⟨by omega, rfl⟩ ⟨rfl, rfl, rfl, rfl, rfl, rfl, trivial⟩ ⟨rfl, rfl, trivial⟩ rfl (by first | exact rfl | (simp only [V.cells, refsE, refsM, V.refs, V.refs.go, V.pure, V.pure.go, pure_mapq, pure_mapb, pure_mapu, refs_mapq, refs_mapb, refs_mapu, refs_append, Bool.and_true, Bool.true_and, Bool.and_self] <;> exact rfl) | (simp only [V.cells, refsE, refsM, V.refs, V.refs.go, V.pure, V.pure.go, pure_mapq, pure_mapb, pure_mapu, refs_mapq, refs_mapb, refs_mapu, refs_append, Bool.and_true, Bool.true_and, Bool.and_self, hrf] <;> exact rfl) | (simp only [V.cells, refsE, refsM, V.refs, V.refs.go, V.pure, V.pure.go, pure_mapq, pure_mapb, pure_mapu, refs_mapq, refs_mapb, refs_mapu, refs_append, Bool.and_true, Bool.true_and, Bool.and_self, hrf, hrg] <;> exact rfl) | exact lz) (by first | exact rfl | (simp only [V.cells, refsE, refsM, V.refs, V.refs.go, V.pure, V.pure.go, pure_mapq, pure_mapb, pure_mapu, refs_mapq, refs_mapb, refs_mapu, refs_append, Bool.and_true, Bool.true_and, Bool.and_self] <;> exact rfl) | (simp only [V.cells, refsE, refsM, V.refs, V.refs.go, V.pure, V.pure.go, pure_mapq, pure_mapb, pure_mapu, refs_mapq, refs_mapb, refs_mapu, refs_append, Bool.and_true, Bool.true_and, Bool.and_self, hrf] <;> exact rfl) | (simp only [V.cells, refsE, refsM, V.refs, V.refs.go, V.pure, V.pure.go, pure_mapq, pure_mapb, pure_mapu, refs_mapq, refs_mapb, refs_mapu, refs_append, Bool.and_true, Bool.true_and, Bool.and_self, hrf, hrg] <;> exact rfl) | exact lz) ?_
  rintro i S ⟨hi, hS⟩
  by_cases h : i < l.length
  · by_cases h64 : i < 64
    · have hs : l.getD i default < 18446744073709551616 := getD_lt64 hl i
      have hkey := keyV (l.getD i default, x) ⟨hs, hx⟩
      obtain ⟨cs, hb1, hb2⟩ := vote_b (l.getD i default) x hx
      have e1 : min i 64 = i := by omega
      have e2 : min (i + 1) 64 = i + 1 := by omega
      have t1 := tal_lt (talF l x votes) i
      have t2 : 2 ^ i < 18446744073709551616 := Nat.lt_of_lt_of_le (Nat.pow_lt_pow_right (by omega) (show i < 64 by omega)) (by decide)
      rw [e1] at hS
      rw [← hS] at t1
      by_cases hin : (l.getD i default, x) ∈ votes
      · obtain ⟨⟨u, n⟩, hp, hu⟩ := (hmem _).2 hin
        have hu' : u = (l.getD i default, x) := hu
        subst hu'
        have hn1 := hle _ hp
        have hn2 : 0 < n := hn1.1
        have hn3 : n ≤ votes.length := hn1.2
        have hget := get_yes (y0 := .k (.int .i64 0)) hnd hp
        have hok : i + 1 ≤ l.length ∧ S ||| 2 ^ i = tal (talF l x votes) (min (i + 1) 64) := ⟨h, by rw [e2, tal, if_pos (show talF l x votes i = true from decide_eq_true hin), hS]⟩
        have hw : IntKind.u64.wrap (1 * 2 ^ (min ((i : Nat) : Int).toNat IntKind.u64.bits)) = ((2 ^ i : Nat) : Int) := by
          have := shl_u64 (a := 1) (s := i) (by omega)
          rw [Nat.one_mul, Nat.mod_eq_of_lt t2] at this
          exact this
        generalize 2 ^ i = z at *
        clear hle hmem hn1 hS
        exact wk trueW trueW trueW
      · have hget := get_no (E := E) (v := (l.getD i default, x)) (y0 := .k (.int .i64 0)) fun p hp e => hin ((hmem _).1 ⟨p, hp, e⟩)
        have hok : i + 1 ≤ l.length ∧ S = tal (talF l x votes) (min (i + 1) 64) := ⟨h, by rw [e2, tal, if_neg (by unfold talF; simpa using hin), hS]⟩
        generalize 2 ^ i = z at *
        clear hle hmem hS
        exact wk trueW trueW trueW
    · have hok : i + 1 ≤ l.length ∧ S = tal (talF l x votes) (min (i + 1) 64) := ⟨h, by rw [hS]; congr 1; omega⟩
      clear hle hmem hS
      exact wk trueW trueW trueW
  · have e : i = l.length := by omega
    subst e
    rw [← hS]
    clear hle hmem hS
    exact wk trueW trueW trueW
theorem Voted (l : List Nat) (M : Nat) (x : List UInt8) (votes : List VoteT) (hM : M < 18446744073709551616) (hl : ∀ s ∈ l, s < 18446744073709551616) (hn : l.length < 4611686018427387904) (hx : x.length = 32) (hv : ∀ v ∈ votes, VoteOk v) (hnv : votes.length < 4611686018427387904) :
    LF Tryd.prog 13 [.s none (l.map uK), uK M, .a (x.map bK), .s none (votes.map voteV)] (fun _ => .k (.bool (decide (andn M (tally l x votes) = 0)))) none := by
  have c1 := Tally l x votes hl hn hx hv hnv
  have h1 := tally_lt l x votes
  generalize tally l x votes = y at *
  have h2 := andn_le M y
  by_cases h : andn M y = 0
  · rw [decide_eq_true h]
    refine LFx.mk' tt Tryd.func13 rfl rfl rfl (by kernel_rfl) rfl rfl fun F => ?_
    exact wk trueW trueW trueW
  · rw [decide_eq_false h]
    refine LFx.mk' tt Tryd.func13 rfl rfl rfl (by kernel_rfl) rfl rfl fun F => ?_
    exact wk trueW trueW trueW
end St
end Lf
end Go.Proofs.YtgioofknlbdfjaaDoor

/- Seats: what is alive. -/
namespace Go.Proofs.YtgioofknlbdfjaaDoor
open Go.RowKit Rg
set_option maxRecDepth 100000
namespace Lf
namespace St
def h1 : List UInt8 := [1, 0, 0, 0, 0, 0, 0, 0, 0, 0, 0, 0, 0, 0, 0, 0, 0, 0, 0, 0, 0, 0, 0, 0, 0, 0, 0, 0, 0, 0, 0, 0]
theorem named5 : named [3, 5, 8] 5 = [3, 8] := by
  rw [named_s _ (by decide)]
  have e1 : tz 64 5 = 0 := by kernel_rfl
  have e2 : 5 &&& (5 - 1) = 4 := by decide
  have e3 : tz 64 4 = 2 := by kernel_rfl
  have e4 : 4 &&& (4 - 1) = 0 := by decide
  rw [e1, e2, named_s _ (by decide), e3, e4, named_0]
  rfl
theorem tally5 : tally [3, 5, 8] h1 [(3, h1), (8, h1)] = 5 := by kernel_rfl
theorem andn5 : andn 5 5 = 0 := by kernel_rfl
theorem quo5 : quo 5 3 = true := by kernel_rfl
theorem quo4 : quo 4 3 = false := by kernel_rfl
theorem alive22 : LF Tryd.prog 8 [] (fun _ => .k (.bool true)) none := by
  have c1 := (Right [3, 5, 8] (by decide) (by decide)).1 ⟨fun j h1 h2 => by
    have : j = 1 ∨ j = 2 := by simp at h2; omega
    rcases this with rfl | rfl <;> decide, by decide, by decide⟩
  have c2 := (Right [] (by decide) (by decide)).2 (fun h => by have := h.2.1; simp at this)
  have hv : ∀ v ∈ [((3 : Nat), h1), ((8 : Nat), h1)], VoteOk v := fun v hv => by
    simp at hv
    rcases hv with rfl | rfl
    · exact ⟨by decide, rfl⟩
    · exact ⟨by decide, rfl⟩
  have c3 := Tally [3, 5, 8] h1 [(3, h1), (8, h1)] (by decide) (by decide) rfl hv (by decide)
  have c4 := Quorum 5 3 (by decide) (by decide)
  have c5 := Quorum 4 3 (by decide) (by decide)
  have c6 := Voted [3, 5, 8] 5 h1 [(3, h1), (8, h1)] (by decide) (by decide) (by decide) rfl hv (by decide)
  have c7 := Named [3, 5, 8] 5 (by decide) (by decide) (by decide)
  have c8 := (EqualU [3, 8] [3, 8] (by decide) (by decide)).1 rfl
  rw [tally5] at c3 c6
  rw [andn5] at c6
  rw [quo5] at c4
  rw [quo4] at c5
  rw [named5] at c7
  refine LFx.mk' tt Tryd.func8 rfl rfl rfl (by kernel_rfl) rfl rfl fun F => ?_
  exact wk trueW trueW trueW
end St
end Lf
end Go.Proofs.YtgioofknlbdfjaaDoor

/- Seats: two quorums meet; the tally is all that have voted. -/
namespace Go.Proofs.YtgioofknlbdfjaaDoor
open Go.RowKit Rg
set_option maxRecDepth 100000
namespace Lf
namespace St
theorem andn_bit {a b : Nat} (hb : b < 18446744073709551616) (i : Nat) : (andn a b).testBit i = (a.testBit i && (decide (i < 64) && !b.testBit i)) := by
  unfold andn
  rw [Nat.testBit_and, show 18446744073709551615 - b = 2 ^ 64 - (b + 1) from by omega, Nat.testBit_two_pow_sub_succ (by simpa using hb)]
theorem bit_lt {a i : Nat} (ha : a < 18446744073709551616) (h : a.testBit i = true) : i < 64 := Classical.byContradiction fun hn => by
  rw [Nat.testBit_lt_two_pow (Nat.lt_of_lt_of_le (show a < 2 ^ 64 by simpa using ha) (Nat.pow_le_pow_right (by omega) (by omega)))] at h
  cases h
theorem andn_zero {a b : Nat} (ha : a < 18446744073709551616) (hb : b < 18446744073709551616) : andn a b = 0 ↔ ∀ i, a.testBit i = true → b.testBit i = true := by
  constructor
  · intro h i hi
    have h1 := andn_bit (a := a) hb i
    rw [h, hi] at h1
    have := bit_lt ha hi
    simp [this] at h1
    exact h1
  · intro h
    apply Nat.eq_of_testBit_eq
    intro i
    rw [andn_bit hb, Nat.zero_testBit]
    cases e : a.testBit i
    · rfl
    · rw [h i e]; simp
theorem quo_spec {x n : Nat} (hx : x < 18446744073709551616) (h : quo x n = true) : n ≤ 16 ∧ x < 2 ^ n ∧ 2 * n ≤ 3 * pc x n := by
  have h1 := of_decide_eq_true h
  obtain ⟨h0, hn, h2, h3⟩ := h1
  have hlt : x < 2 ^ n := by
    apply Nat.lt_pow_two_of_testBit
    intro i hi
    cases e : x.testBit i
    · rfl
    · have h4 := (andn_zero hx (lowN_lt n)).1 h2 i e
      unfold lowN at h4
      rw [if_neg (by omega), Nat.testBit_two_pow_sub_one] at h4
      have := of_decide_eq_true h4
      omega
  have hs : x < 65536 := Nat.lt_of_lt_of_le hlt (Nat.le_trans (Nat.pow_le_pow_right (by omega) hn) (by decide))
  rw [ones_pc hs] at h3
  have h4 := pc_stable hlt (16 - n)
  rw [show n + (16 - n) = 16 from by omega] at h4
  rw [h4] at h3
  exact ⟨hn, hlt, h3⟩
theorem meet {l : List Nat} {a b : Nat} (ha : a < 18446744073709551616) (hb : b < 18446744073709551616) (h1 : quo a l.length = true) (h2 : quo b l.length = true) : l.length ≤ 3 * (named l (a &&& b)).length := by
  obtain ⟨a1, a2, a3⟩ := quo_spec ha h1
  obtain ⟨_, b2, b3⟩ := quo_spec hb h2
  have h := pc_and a b l.length
  have hlt : a &&& b < 2 ^ l.length := Nat.lt_of_le_of_lt Nat.and_le_left a2
  rw [named_len l (by omega) _ hlt]
  have h4 := pc_stable hlt (64 - l.length)
  rw [show l.length + (64 - l.length) = 64 from by omega] at h4
  rw [h4]
  omega
theorem SeatsMeet (l : List Nat) (a b : Nat) (hl : ∀ x ∈ l, x < 18446744073709551616) (hn : l.length < 1152921504606846976) (ha : a < 18446744073709551616) (hb : b < 18446744073709551616) :
    LF Tryd.prog 3 [.s none (l.map uK), uK a, uK b] (fun _ => .k (.bool true)) none := by
  have c1 := alive22
  have hR := Right l hl (by omega)
  have c3 := Quorum a l.length ha (by omega)
  have c4 := Quorum b l.length hb (by omega)
  by_cases h : asc l ∧ 0 < l.length ∧ l.length ≤ 16
  · have c2 := hR.1 h
    clear hR
    cases ea : quo a l.length
    · rw [ea] at c3
      refine LFx.mk' tt Tryd.func3 rfl rfl rfl (by kernel_rfl) rfl rfl fun F => ?_
      exact wk trueW trueW trueW
    · rw [ea] at c3
      cases eb : quo b l.length
      · rw [eb] at c4
        refine LFx.mk' tt Tryd.func3 rfl rfl rfl (by kernel_rfl) rfl rfl fun F => ?_
        exact wk trueW trueW trueW
      · rw [eb] at c4
        have hm := meet ha hb ea eb
        have hle := named_le l (a &&& b) (Nat.lt_of_le_of_lt Nat.and_le_left ha)
        have hpc := pc_le (a &&& b) 64
        have c5 := Named l (a &&& b) hl (by omega) (Nat.lt_of_le_of_lt Nat.and_le_left ha)
        generalize named l (a &&& b) = g at *
        clear h
        refine LFx.mk' tt Tryd.func3 rfl rfl rfl (by kernel_rfl) rfl rfl fun F => ?_
        exact wk trueW trueW trueW
  · have c2 := hR.2 h
    clear hR h
    refine LFx.mk' tt Tryd.func3 rfl rfl rfl (by kernel_rfl) rfl rfl fun F => ?_
    exact wk trueW trueW trueW
theorem SeatsMost (l : List Nat) (x : List UInt8) (votes : List VoteT) (z : Int) (hl : ∀ s ∈ l, s < 18446744073709551616) (hn : l.length < 1152921504606846976) (hx : x.length = 32) (hv : ∀ v ∈ votes, VoteOk v) (hnv : votes.length < 1152921504606846976) (hz : -9223372036854775808 ≤ z ∧ z ≤ 9223372036854775807) :
    LF Tryd.prog 4 [.s none (l.map uK), .a (x.map bK), .s none (votes.map voteV), .k (.int .i64 z)] (fun _ => .k (.bool true)) none := by
  have c1 := alive22
  have c2 := Tally l x votes hl (by omega) hx hv (by omega)
  have ht := tally_lt l x votes
  have c3 := Voted l (tally l x votes) x votes ht hl (by omega) hx hv (by omega)
  have e0 : andn (tally l x votes) (tally l x votes) = 0 := (andn_zero ht ht).2 fun _ h => h
  rw [e0] at c3
  by_cases h0 : z < 0
  · generalize tally l x votes = t at *
    refine LFx.mk' tt Tryd.func4 rfl rfl rfl (by kernel_rfl) rfl rfl fun F => ?_
    exact wk trueW trueW trueW
  · by_cases h1 : 63 < z
    · generalize tally l x votes = t at *
      refine LFx.mk' tt Tryd.func4 rfl rfl rfl (by kernel_rfl) rfl rfl fun F => ?_
      exact wk trueW trueW trueW
    · obtain ⟨i, rfl⟩ : ∃ i : Nat, z = (i : Int) := ⟨z.toNat, by omega⟩
      have hi : i ≤ 63 := by omega
      have h2 : 2 ^ i < 18446744073709551616 := Nat.lt_of_lt_of_le (Nat.pow_lt_pow_right (by omega) (show i < 64 by omega)) (by decide)
      have hor : tally l x votes ||| 2 ^ i < 18446744073709551616 := by
        have := Nat.or_lt_two_pow (n := 64) (show tally l x votes < 2 ^ 64 by simpa using ht) (show 2 ^ i < 2 ^ 64 by simpa using h2)
        simpa using this
      have c4 := Voted l (tally l x votes ||| 2 ^ i) x votes hor hl (by omega) hx hv (by omega)
      have hd : tally l x votes / 2 ^ i < 18446744073709551616 := Nat.lt_of_le_of_lt (Nat.div_le_self _ _) ht
      have w1 : IntKind.u64.wrap (((BitVec.ofInt IntKind.u64.bits ((tally l x votes / 2 ^ i : Nat) : Int) &&& BitVec.ofInt IntKind.u64.bits 1).toNat : Nat) : Int) = ((tally l x votes / 2 ^ i &&& 1 : Nat) : Int) := and_lit hd (by decide) (by decide)
      have hw : IntKind.u64.wrap (1 * 2 ^ (min ((i : Nat) : Int).toNat IntKind.u64.bits)) = ((2 ^ i : Nat) : Int) := by
        have := shl_u64 (a := 1) (s := i) (by omega)
        rw [Nat.one_mul, Nat.mod_eq_of_lt h2] at this
        exact this
      have w2 : ((tally l x votes : Nat) : Int).fdiv (2 ^ (min ((i : Nat) : Int).toNat IntKind.u64.bits)) = ((tally l x votes / 2 ^ i : Nat) : Int) := shr_u64 (by omega)
      have hb : (tally l x votes / 2 ^ i &&& 1) = if (tally l x votes).testBit i then 1 else 0 := by
        rw [Nat.testBit_eq_decide_div_mod_eq, Nat.and_one_is_mod]
        have := Nat.mod_two_eq_zero_or_one (tally l x votes / 2 ^ i)
        rcases this with h | h <;> simp [h]
      cases hbit : (tally l x votes).testBit i
      · rw [hbit, if_neg (by decide)] at hb
        rw [hb] at w1
        have hne : ¬ andn (tally l x votes ||| 2 ^ i) (tally l x votes) = 0 := fun e => by
          have := (andn_zero hor ht).1 e i (by rw [Nat.testBit_or, Nat.testBit_two_pow_self, Bool.or_true])
          rw [hbit] at this; cases this
        rw [decide_eq_false hne] at c4
        clear hb hbit hne e0
        generalize tally l x votes / 2 ^ i = q at *
        generalize tally l x votes = t at *
        generalize 2 ^ i = y at *
        refine LFx.mk' tt Tryd.func4 rfl rfl rfl (by kernel_rfl) rfl rfl fun F => ?_
        exact wk trueW trueW trueW
      · rw [hbit, if_pos rfl] at hb
        rw [hb] at w1
        clear hb hbit e0 c4
        generalize tally l x votes / 2 ^ i = q at *
        generalize tally l x votes = t at *
        generalize 2 ^ i = y at *
        refine LFx.mk' tt Tryd.func4 rfl rfl rfl (by kernel_rfl) rfl rfl fun F => ?_
        exact wk trueW trueW trueW
end St
end Lf
end Go.Proofs.YtgioofknlbdfjaaDoor

/- A slice held against nil; a fresh row that a call hands back; Clone. -/
namespace Go.Proofs.YtgioofknlbdfjaaDoor
open Go.RowKit Rg
namespace Lf
section
variable {P : Program} {F : Fr0} {N : Nat} {Q : LQ} {env : Env} {mem : Mem} {ops : Array Oper} {o : Oper} {rs : List Oper} {d : Nat}
/-- Whether a slice is nil is not told: both ways are walked. -/
theorem LS.eqNil {T Y e : Nat} {x : Operand} {t : Option Nat} {es : List V} (X : TOk P) {ti : TI} (hg : gd ops env o = some true) (hds : o.dst = some d) (ho : o.op = .binOp .eql T x (.const (.slice none 0 0)) Y) (hx : evo env x = some (.s t es)) (hT : aget X.tab T = some ti) (hdt : ti.d = .sl e) (hd : Nat.blt d N = true)
    (h1 : es = [] → LS P F N ops rs Q ((d, .k (.bool true)) :: env) mem) (h2 : LS P F N ops rs Q ((d, .k (.bool false)) :: env) mem) : LS P F N ops (o :: rs) Q env mem := ⟨fun g a w hr => by
  have hu := (X.get hT).sl hdt
  have hgt : P.eqGuardType P.depth T = false := by
    obtain ⟨m, hm⟩ : ∃ m, P.depth = m + 1 := ⟨2 * (P.types.size + Made.depth) + 1, rfl⟩
    rw [hm]
    simp [Program.eqGuardType, hu]
  have hrun : ∀ (ad : Option Addr) (n c : Nat), a.eval x = .slice ad n c → (execOp a.eval o).run P w = .ok (.value (.bool ad.isNone)) w := fun ad n c h => by
    have q1 : (eqGuard .eql T x (.const (.slice none 0 0)) (.slice ad n c) (.slice none 0 0)).run P w = .ok () w := by
      unfold eqGuard
      simp [hgt, program, Sem.run]
    have q2 : (binOp .eql T (.slice ad n c) (.slice none 0 0)).run P w = .ok (.bool ad.isNone) w := by
      have e : Op.equal T (.slice ad n c) (.slice none 0 0) = Op.equalIn (9999 + 1) T (.slice ad n c) (.slice none 0 0) := rfl
      have q3 : (Op.equalIn (9999 + 1) T (.slice ad n c) (.slice none 0 0)).run P w = .ok ad.isNone w := by
        rw [Op.equalIn, Sem.run_bind, run_underlying hu w]
        cases ad <;> rfl
      simp only [binOp, e, Sem.run_bind, q3, Result.andThen_ok]
      rfl
    have hx2 : a.eval (.const (.slice none 0 0)) = .slice none 0 0 := rfl
    simp only [execOp, ho, h, hx2, Sem.run_bind, q1, Result.andThen_ok, q2]
    rfl
  have hdd : dok o.dst N = true := by rw [hds]; exact hd
  have hrep := hr.evo hx
  refine wpList_step fun K hK => ?_
  rw [gd_wanted hr hg, if_pos rfl]
  have go : ∀ b : Bool, (execOp a.eval o).run P w = .ok (.value (.bool b)) w → LS P F N ops rs Q ((d, .k (.bool b)) :: env) mem → o.wp P a w K (liftQ F N Q) := fun b hb hl => by
    unfold Oper.wp
    rw [hb]
    refine hK _ _ (hl.go g _ w ?_)
    have := hr.put (Ev.refl g w) hr.mem hr.kept (Rep.k (w := w) (g := g) (.bool b)) hdd
    rw [hds] at this
    rw [hds]
    exact this
  generalize hv : a.eval x = v at hrep
  cases hrep with
  | s0 => exact go true (hrun _ _ _ hv) (h1 rfl)
  | se => exact go false (hrun _ _ _ hv) h2
  | s => exact go false (hrun _ _ _ hv) h2⟩
end
theorem LM.row1 {P : Program} {f : Nat} {args es : List V} {E sz n k0 : Nat} (hA : ∀ (ρ : Nat → Nat), args.map (V.ren ρ) = args) (h : LM P f args [] fun o m => o = .ret (.s (some k0) es) ∧ m = [(k0, .r E sz n)]) (k : Nat) : LM P f args [] fun o m => o = .ret (.s (some k) es) ∧ m = [(k, .r E sz n)] :=
  LM.gen [k0] [k] (by simp) (by simp) rfl h fun ρ hρ => by
    simp at hρ
    refine ⟨hA _, rfl, ?_, ?_⟩
    · simp [Out.ren, V.ren, hρ]
    · simp [Mem.ren, M.ren, hρ]
/-- A call that hands back a fresh row. -/
theorem DR.cr {P : Program} {N : Nat} {ops : Array Oper} {chk : List (Nat × Tch) → Bool} {K : Env → Mem → Prop} {acc : List (Nat × Tch)} {env : Env} {mem : Mem} {i d : Nat} {o : Oper} {rs : List (Nat × Oper)} {fx E sz n : Nat} {xs : List Operand} {ts : Array Nat} {us args es : List V}
    (ho : o.op = .call { callee := .value (.func fx), args := xs.toArray, argTypes := ts }) (hg : gd ops env o = some true) (hds : o.dst = some d) (hx : evs env xs = some us) (hc : ∀ k, LM P fx args [] fun o m => o = .ret (.s (some k) es) ∧ m = [(k, .r E sz n)]) (hu : Fits us args) (hr : V.refs.go [] args = true) (ht : aget mem d = none) (hd : Nat.blt d N = true)
    (hK : DR P N ops chk K rs ((i, callT [] [(d, .r E sz n)]) :: acc) ((d, .s (some d) es) :: env) ((d, .r E sz n) :: mem)) : DR P N ops chk K ((i, o) :: rs) acc env mem :=
  DR.cm hg hds (Does.callM (hc d) ho hx hu (by rw [hr]; rfl)) ⟨ht, trivial⟩ hd hK
end Lf
end Go.Proofs.YtgioofknlbdfjaaDoor

/- Room made ahead (append of make onto nil, cut back to nothing): slices.Grow; Concat. -/
namespace Go.Proofs.YtgioofknlbdfjaaDoor
open Go.RowKit Rg
namespace Lf
section
variable {P : Program} {o : Oper} {env : Env}
theorem run_appMake {T Tx E ty n : Nat} {kd kx : IntKind} {ei : TI} {w : World} (hu : P.underlying T = some (.slice E)) (hx : P.underlying Tx = some (.int kx)) (hE : TIok P E ei) (hn : 0 < n) (hmax : n ≤ 140737488355328) (hb : n * ei.bytes ≤ 140737488355328) :
    ∃ cs : Array Value, (Builtin.append_ #[T, Tx] ty #[.slice none 0 0, .int kd (n : Int)]).run P w = .ok (.slice (some ⟨w.heap.size, 0, none⟩) n (grownCap w n 0 E)) (w.drew.alloc (.cells cs E)) ∧ cs.size = grownCap w n 0 E * ei.size ∧ n ≤ grownCap w n 0 E ∧ grownCap w n 0 E ≤ maxLen := by
  obtain ⟨i, hi, hsz, hby, z, hz, _, hzs, _⟩ := hE.info
  rw [← hby] at hb
  rw [← hsz] at hzs ⊢
  have hge := grownCap_ge w n 0 E
  have h63 : n ≤ maxLen := by simp only [maxLen]; omega
  have hcm : grownCap w n 0 E ≤ maxLen := grownCap_le_maxLen w n 0 E h63
  have hw : IntKind.i64.wrap (n : Int) = (n : Int) := wrap_i64 (by omega)
  have hfit : Builtin.nextslicecap n 0 * i.bytes ≤ 281474976710656 := by have := growslice_fits (old := 0) (need := n) (by omega) hb; simpa using this
  have h1 : ¬ n = 0 := by omega
  have h2 : ¬ (9223372036854775807 < (n : Int)) := by omega
  have h3 : ¬ (281474976710656 < Builtin.nextslicecap n 0 * i.bytes) := by omega
  have h4 : ¬ (281474976710656 < (n : Int) * (i.bytes : Int)) := by
    have : (n : Int) * (i.bytes : Int) = ((n * i.bytes : Nat) : Int) := by rw [Int.natCast_mul]
    rw [this]; omega
  have h5 : ¬ ((n : Int) < 0) := by omega
  refine ⟨#[] ++ Builtin.zeroCells z.cells n ++ Builtin.zeroCells z.cells (grownCap w n 0 E - n), ?_, ?_, hge, hcm⟩
  · simp [Builtin.append_, run_underlying hu, run_underlying hx, sizeOf, typeInfo, zeroValue, hi, hz, asInt, asIntOf, hw, h1, h2, h3, h4, h5, Question.forced, newRow, grownCap, Builtin.firstCells]
    intro h
    have : Builtin.zeroCells z.cells n = #[] := Array.eq_empty_of_size_eq_zero (by rw [size_zeroCells, hzs]; exact h)
    rw [this]
    simp
  · simp only [Array.size_append, List.size_toArray, List.length_nil, size_zeroCells, hzs, Nat.zero_add, ← Nat.add_mul]
    congr 1
    omega
theorem drew_rel {F : Fr0} {g : Gh} {w : World} {mem : Mem} (h : RelM F g mem w) (hk : Kept F g w) : Ev g w g w.drew ∧ RelM F g mem w.drew ∧ Kept F g w.drew :=
  h.ext hk (Below.refl w.heap.size w).drew (fun _ _ _ => Iff.rfl) rfl rfl fun b o hb => h.fut b o hb
/-- append of so many noughts onto nil: room. -/
theorem Does.appMake {T Tx E i n : Nat} {kd kx : IntKind} {x y : Operand} {z : Int} (X : TOk P) {ti xi ei : TI} (ho : o.op = .call { callee := .builtin .append, args := #[x, y], argTypes := #[T, Tx] }) (hx : evo env x = some .nil) (hy : evo env y = some (.k (.int kd z))) (hz : z = ((n : Nat) : Int)) (hT : aget X.tab T = some ti) (hd : ti.d = .sl E) (hX : aget X.tab Tx = some xi) (hdx : xi.d = .int kx) (hE : aget X.tab E = some ei) (hpos : Nat.blt 0 ei.size = true)
    (hn : 0 < n) (hmax : n ≤ 140737488355328) (hb : n * ei.bytes ≤ 140737488355328) : Does P o env (.w i 0 ei.size 0 n) [(i, none, some (.w E ei.size 0 []))] := by
  subst hz
  refine ⟨fun F g a w mem h1 h2 h3 h4 _ K Q hK => ?_⟩
  have hi := h4 _ _ _ mem_one
  have hrx := h1 x (by simp [ho, Op.operands, Call.operands]) _ hx
  have hry := rep_k (h1 y (by simp [ho, Op.operands, Call.operands]) _ hy)
  have hxe : a.eval x = .slice none 0 0 := by generalize a.eval x = v at hrx; cases hrx; rfl
  obtain ⟨cs, hrun, hcs, hle, hcm⟩ := run_appMake (P := P) (ty := o.type) (kd := kd) (w := w) ((X.get hT).sl hd) ((X.get hX).int hdx) (X.get hE) hn hmax hb
  obtain ⟨d1, d2, d3⟩ := drew_rel h2 h3
  have hpos' : 0 < ei.size := Nat.le_of_ble_eq_true hpos
  have hH : w.drew.heap.size = w.heap.size := rfl
  have hrw : (g.newR i w.drew.heap.size 0 0 (grownCap w n 0 E)).rw i = some (some w.drew.heap.size, 0, grownCap w n 0 E) := by simp [Gh.newR]
  have hown : (w.drew.alloc (.cells cs E)).oRow 0 E ei.size (.slice (some ⟨w.drew.heap.size, 0, none⟩) 0 (grownCap w n 0 E)) 0 [] :=
    ⟨by simp, .inr ⟨w.drew.heap.size, grownCap w n 0 E, cs, _, rfl, Nat.zero_le _, heap_alloc_new w.drew _, Nat.zero_le _, hcm, hcs, by simp, .inl rfl⟩⟩
  obtain ⟨e1, e2, e3⟩ := d2.newR d3 (i := i) (n := 0) (l := 0) (c := grownCap w n 0 E) (m' := .w E ei.size 0 []) (o := .cells cs E) hi (.w hrw ⟨hpos', by simp, ⟨[], hown, by simp⟩, fun b hb o hS => by cases hb; have := hS.2 rfl; omega⟩) fun b o' ⟨l, c', hp'⟩ => by rw [hrw] at hp'; cases hp'; rfl
  unfold Oper.wp
  have hrun' : (execOp a.eval o).run P w = .ok (.value (.slice (some ⟨w.heap.size, 0, none⟩) n (grownCap w n 0 E))) (w.drew.alloc (.cells cs E)) := by
    simp [execOp, ho, resolve, invoke, builtin, hxe, hry, hrun]
  rw [hrun']
  exact hK _ _ _ (d1.trans e1) e2 e3 (.w ⟨_, _, _, hrw, Nat.le_refl _, fun _ => ⟨by omega, by omega, fun _ => by simp [hH]⟩⟩)
/-- Room cut back to nothing: the beginning of a row. -/
theorem Does.cutW0 {T E i n e : Nat} {x : Operand} {hi : Option Operand} {es : List V} (X : TOk P) {ti ei : TI} (ho : o.op = .slice T x none hi none) (hx : evo env x = some (.w i 0 ei.size 0 n)) (hT : aget X.tab T = some ti) (hd : ti.d = .sl e) (hE : aget X.tab e = some ei) (hhi : Bd env n hi 0) :
    Does P o env (.s (some i) []) [(i, some (.w E ei.size 0 es), some (.r E ei.size 0))] := by
  refine ⟨fun F g a w mem h1 h2 h3 h4 _ K Q hK => ?_⟩
  have hi' := h4 _ _ _ mem_one
  have hrx := h1 x (by simp [ho, Op.operands]) _ hx
  have b2 := hhi.val (a := a) (fun y hy u hu => h1 y (by subst hy; simp [ho, Op.operands]) u hu)
  obtain ⟨ao, c, hrw, hB⟩ := h2.buf hi'
  obtain ⟨xs, hown, _⟩ := hB.own
  generalize hv : a.eval x = v at hrx
  cases hrx with
  | @w _ _ _ _ _ _ ad cap h =>
    obtain ⟨a', l, c', k1, k2, k3⟩ := h
    rw [hrw] at k1; cases k1
    obtain ⟨w1, w2, w3⟩ := k3 rfl
    have hcap : cap = c := by omega
    subst hcap
    have had := w3 (.inr rfl)
    simp only [Nat.zero_mul] at had
    have hcut := run_cutG (P := P) (a := ad) (n := n) (cap := cap) ((X.get hT).sl hd) (X.get hE).run_size (.inl ⟨rfl, rfl⟩) b2 (Nat.zero_le _) (Nat.zero_le _) w
    have hres : (if cap = 0 then ad else ad.map (·.add (0 * ei.size))) = ad := by
      split
      · rfl
      · rw [had]; cases ao <;> simp [Addr.add_lit]
    have hown0 : w.oRow 0 E ei.size (.slice (ao.map fun b => ⟨b, 0, none⟩) 0 cap) 0 [] := by
      refine ⟨by simp, ?_⟩
      rcases hown.2 with ⟨hv', _⟩ | ⟨q, cp, cur, fz, hv', hb0, hq, hnc, hcm, hcs, htk, hfz⟩
      · cases ao with
        | none => simp at hv'; exact .inl ⟨by simp [hv'.2], rfl⟩
        | some b => simp at hv'
      · cases ao with
        | none => simp at hv'
        | some b =>
          simp at hv'
          obtain ⟨rfl, rfl⟩ := hv'
          exact .inr ⟨b, cap, cur, fz, rfl, hb0, hq, Nat.zero_le _, hcm, hcs, by simp, hfz⟩
    obtain ⟨k1, k2⟩ := h2.step h3 (i := i) (m' := .r E ei.size 0) (Ev.refl g w) rfl rfl rfl (fun _ _ _ _ => ⟨rfl, rfl, fun h => h⟩) (fun _ _ _ => rfl) (fun _ _ => rfl) (fun _ _ => rfl) (.r hrw ⟨hB.pos, ⟨[], hown0⟩, fun b hb o _ => hB.free b hb o⟩) (fun b o hp => .inl ⟨_, hi', hp⟩) h2.fut
    unfold Oper.wp
    have hrun' : (execOp a.eval o).run P w = .ok (.value (.slice ad 0 cap)) w := by
      rw [hres] at hcut
      simp [execOp, ho, hv, hcut]
    rw [hrun']
    refine hK _ g w (Ev.refl g w) k1 k2 ?_
    have := Rep.row (es := []) (n := 0) (i := i) rfl hB.pos hrw hown0 (fun b hb => ?_) (by simp) (by simp)
    · rw [had]; exact this
    · subst hb; exact ⟨hB.lt rfl, fun o ho => by omega⟩
end
end Lf
end Go.Proofs.YtgioofknlbdfjaaDoor

/- Grow from nil, and Concat, of bytes. -/
namespace Go.Proofs.YtgioofknlbdfjaaDoor
open Go.RowKit Rg
namespace Lf
theorem Does.capNil {P : Program} {o : Oper} {env : Env} {x : Operand} {T : Nat} {ts : Array Nat} {e : Nat} (X : TOk P) {ti : TI} (ho : o.op = .call { callee := .builtin .cap, args := #[x], argTypes := ts }) (hts : ts[0]? = some T) (hx : evo env x = some .nil) (hT : aget X.tab T = some ti) (hd : ti.d = .sl e) : Does P o env (.k (.int .i64 ((0 : Nat) : Int))) [] :=
  .pure fun F g a w mem hr _ => by
    have hr0 := hr x (by simp [ho, Op.operands, Call.operands]) _ hx
    have hxe : a.eval x = .slice none 0 0 := by generalize a.eval x = v at hr0; cases hr0; rfl
    exact ⟨.int .i64 ((0 : Nat) : Int), by simp [execOp, ho, resolve, invoke, builtin, hxe, Builtin.cap_, hts, run_underlying ((X.get hT).sl hd), goInt], .k _⟩
theorem Does.cutNil {P : Program} {o : Oper} {env : Env} {T e : Nat} {x : Operand} {hi : Option Operand} (X : TOk P) {ti ei : TI} (ho : o.op = .slice T x none hi none) (hx : evo env x = some .nil) (hT : aget X.tab T = some ti) (hd : ti.d = .sl e) (hE : aget X.tab e = some ei) (hhi : Bd env 0 hi 0) : Does P o env .nil [] :=
  .pure fun F g a w mem hr _ => by
    have hr0 := hr x (by simp [ho, Op.operands]) _ hx
    have hxe : a.eval x = .slice none 0 0 := by generalize a.eval x = v at hr0; cases hr0; rfl
    have b2 := hhi.val (a := a) (fun y hy u hu => hr y (by subst hy; simp [ho, Op.operands]) u hu)
    have := run_cutG (P := P) (a := none) (n := 0) (cap := 0) ((X.get hT).sl hd) (X.get hE).run_size (.inl ⟨rfl, rfl⟩) b2 (Nat.zero_le _) (Nat.zero_le _) w
    rw [hxe] at hr0
    refine ⟨.slice none 0 0, ?_, hr0⟩
    simp [execOp, ho, hxe, this]
/-- A contract that hands back nil hands back the beginning of a row. -/
theorem LM.nilrow {P : Program} {f : Nat} {args : List V} (E sz k : Nat) (hp : Nat.blt 0 sz = true) (h : LM P f args [] fun o m => o = .ret .nil ∧ m = []) : LM P f args [] fun o m => o = .ret (.s (some k) []) ∧ m = [(k, .r E sz 0)] :=
  ⟨h.ok, fun g w vals h1 h2 h3 => Calls.mono (h.go g w vals h1 h2 h3) fun e w' ⟨o, mo, g', ⟨ho, hm⟩, hev, hrel, hk, hat⟩ => by
    subst ho; subst hm
    have hown0 : w'.oRow 0 E sz (.slice (Option.map (fun b => (⟨b, 0, none⟩ : Addr)) none) 0 0) 0 [] := oRow_nil w' 0 E sz
    have hgi : (g'.addRow k (none, 0, 0)).rw k = some (none, 0, 0) := by simp [Gh.addRow]
    obtain ⟨he, r2, r3⟩ := hrel.nilRow hk (i := k) (m := .r E sz 0) rfl (.r hgi ⟨Nat.le_of_ble_eq_true hp, ⟨_, hown0⟩, fun _ h => by cases h⟩) fun b o ⟨l, c, hp⟩ => by rw [hgi] at hp; cases hp
    obtain ⟨x, hx, hrep⟩ := hat
    cases hrep
    exact ⟨_, _, _, ⟨rfl, rfl⟩, hev.trans he, r2, r3, ⟨_, hx, .s0 fun r hr' => by cases hr'; exact ⟨none, 0, 0, hgi, Nat.le_refl _, fun _ => .inl rfl⟩⟩⟩⟩
end Lf
end Go.Proofs.YtgioofknlbdfjaaDoor

/- Concat of bytes. -/
namespace Go.Proofs.YtgioofknlbdfjaaDoor
open Go.RowKit Rg
namespace Lf
abbrev bV (l : List UInt8) : V := .s none (l.map bK)
theorem flat_take {α : Type} {ls : List (List α)} {i : Nat} (h : i < ls.length) : (ls.take (i + 1)).flatten = (ls.take i).flatten ++ ls.getD i default := by
  rw [List.take_succ_eq_append_getElem h, List.flatten_append]
  simp [List.getD, h]
theorem flat_takeL {α : Type} {ls : List (List α)} {i : Nat} (h : i < ls.length) : (ls.take (i + 1)).flatten.length = (ls.take i).flatten.length + (ls.getD i default).length := by rw [flat_take h, List.length_append]
theorem flat_le {α : Type} {ls : List (List α)} {i : Nat} : (ls.take i).flatten.length ≤ ls.flatten.length := by
  have e : ls = ls.take i ++ ls.drop i := (List.take_append_drop i ls).symm
  have : ls.flatten.length = (ls.take i).flatten.length + (ls.drop i).flatten.length := by
    rw [← List.length_append, ← List.flatten_append, List.take_append_drop]
  omega
end Lf
end Go.Proofs.YtgioofknlbdfjaaDoor

/- Seats: slices of votes: Index, Contains, Grow, Concat. -/
namespace Go.Proofs.YtgioofknlbdfjaaDoor
open Go.RowKit Rg
set_option maxRecDepth 100000
namespace Lf
namespace St
abbrev voteKs : List IntKind := .u64 :: List.replicate 32 .u8
theorem vote_kinds {v : VoteT} (h : VoteOk v) : KindsOf (voteC v) voteKs := .cons (KindsOf.map1 (fun _ => rfl) h.h)
theorem voteC_inj {p q : VoteT} (h : voteC p = voteC q) : p = q := voteK_inj (by
  rw [voteC_k, voteC_k] at h
  have hinj : ∀ (a b : List Value), a.map V.k = b.map V.k → a = b := by
    intro a
    induction a with
    | nil => intro b h; cases b with
      | nil => rfl
      | cons => simp at h
    | cons x r ih => intro b h; cases b with
      | nil => simp at h
      | cons y s =>
        simp only [List.map_cons, List.cons.injEq, V.k.injEq] at h
        rw [h.1, ih s h.2]
  unfold voteK
  rw [hinj _ _ h])
theorem getD_mem {α : Type} {l : List α} {i : Nat} {d : α} (h : i < l.length) : l.getD i d ∈ l := by
  rw [List.getD_eq_getElem?_getD, List.getElem?_eq_getElem h]; exact List.getElem_mem h
theorem refs_ks (m : List (Nat × M)) : ∀ l : List Value, V.refs.go m (l.map V.k) = true
  | [] => rfl
  | x :: r => by rw [List.map_cons, V.refs.go, refs_ks m r]; rfl
theorem refs_voteC (m : List (Nat × M)) (v : VoteT) : V.refs.go m (voteC v) = true := by rw [voteC_k]; exact refs_ks m _
theorem Index_yes (votes : List VoteT) (v : VoteT) (hv : ∀ v ∈ votes, VoteOk v) (hn : votes.length < 4611686018427387904) (hok : VoteOk v) (k : Nat) (hk : k < votes.length) (he : votes.getD k default = v) (hlt : ∀ j, j < k → votes.getD j default ≠ v) :
    LF Tryd.prog 24 [.s none (votes.map voteV), voteV v] (fun _ => .k (.int .i64 ((k : Nat) : Int))) none := by
  have hk1 := vote_kinds hok
  have hl1 := voteC_len hok
  have hrf := refs_voteC
  unfold voteV
  refine LFx.mk' tt Tryd.func24 rfl rfl rfl (by kernel_rfl) rfl rfl fun F => ?_
  refine wk ?_ trueW trueW
  refine LC.loopN (fun i => [(0, .s none (votes.map voteV)), (3, .p 3 0), (6, .s none (votes.map voteV)), (7, .k (.int .i64 ((votes.length : Nat) : Int))), (8, .k (.int .i64 ((i : Nat) : Int)))]) (fun i => [(3, .b (voteC v))]) (fun i => i ≤ k) ((votes.length - ·)) (0) (by omega) ⟨rfl, rfl, rfl, rfl, rfl, trivial⟩ ⟨rfl, trivial⟩ rfl (by first | exact rfl | (simp only [V.cells, refsE, refsM, V.refs, V.refs.go, V.pure, V.pure.go, pure_mapq, pure_mapb, pure_mapu, refs_mapq, refs_mapb, refs_mapu, refs_append, Bool.and_true, Bool.true_and, Bool.and_self] <;> exact rfl) | (simp only [V.cells, refsE, refsM, V.refs, V.refs.go, V.pure, V.pure.go, pure_mapq, pure_mapb, pure_mapu, refs_mapq, refs_mapb, refs_mapu, refs_append, Bool.and_true, Bool.true_and, Bool.and_self, hrf] <;> exact rfl) | (simp only [V.cells, refsE, refsM, V.refs, V.refs.go, V.pure, V.pure.go, pure_mapq, pure_mapb, pure_mapu, refs_mapq, refs_mapb, refs_mapu, refs_append, Bool.and_true, Bool.true_and, Bool.and_self, hrf, hrg] <;> exact rfl) | exact lz) (by first | exact rfl | (simp only [V.cells, refsE, refsM, V.refs, V.refs.go, V.pure, V.pure.go, pure_mapq, pure_mapb, pure_mapu, refs_mapq, refs_mapb, refs_mapu, refs_append, Bool.and_true, Bool.true_and, Bool.and_self] <;> exact rfl) | (simp only [V.cells, refsE, refsM, V.refs, V.refs.go, V.pure, V.pure.go, pure_mapq, pure_mapb, pure_mapu, refs_mapq, refs_mapb, refs_mapu, refs_append, Bool.and_true, Bool.true_and, Bool.and_self, hrf] <;> exact rfl) | (simp only [V.cells, refsE, refsM, V.refs, V.refs.go, V.pure, V.pure.go, pure_mapq, pure_mapb, pure_mapu, refs_mapq, refs_mapb, refs_mapu, refs_append, Bool.and_true, Bool.true_and, Bool.and_self, hrf, hrg] <;> exact rfl) | exact lz) ?_
  intro i hi
  have hlt' : i < votes.length := by omega
  have hvi := hv _ (getD_mem (d := default) hlt')
  have hk2 := vote_kinds hvi
  have hl2 := voteC_len hvi
  by_cases h : i = k
  · subst h
    have hq : voteC v = voteC (votes.getD i default) := by rw [he]
    exact wk trueW trueW trueW
  · have hok : i + 1 ≤ k := by omega
    have hq : ¬ voteC v = voteC (votes.getD i default) := fun e => hlt i (by omega) (voteC_inj e).symm
    exact wk trueW trueW trueW
theorem Index_no (votes : List VoteT) (v : VoteT) (hv : ∀ v ∈ votes, VoteOk v) (hn : votes.length < 4611686018427387904) (hok : VoteOk v) (hno : v ∉ votes) :
    LF Tryd.prog 24 [.s none (votes.map voteV), voteV v] (fun _ => .k (.int .i64 (-1))) none := by
  have hk1 := vote_kinds hok
  have hl1 := voteC_len hok
  have hrf := refs_voteC
  unfold voteV
  refine LFx.mk' tt Tryd.func24 rfl rfl rfl (by kernel_rfl) rfl rfl fun F => ?_
  refine wk ?_ trueW trueW
  refine LC.loopN (fun i => [(0, .s none (votes.map voteV)), (3, .p 3 0), (6, .s none (votes.map voteV)), (7, .k (.int .i64 ((votes.length : Nat) : Int))), (8, .k (.int .i64 ((i : Nat) : Int)))]) (fun i => [(3, .b (voteC v))]) (fun i => i ≤ votes.length) ((votes.length - ·)) (0) (by omega) ⟨rfl, rfl, rfl, rfl, rfl, trivial⟩ ⟨rfl, trivial⟩ rfl (by first | exact rfl | (simp only [V.cells, refsE, refsM, V.refs, V.refs.go, V.pure, V.pure.go, pure_mapq, pure_mapb, pure_mapu, refs_mapq, refs_mapb, refs_mapu, refs_append, Bool.and_true, Bool.true_and, Bool.and_self] <;> exact rfl) | (simp only [V.cells, refsE, refsM, V.refs, V.refs.go, V.pure, V.pure.go, pure_mapq, pure_mapb, pure_mapu, refs_mapq, refs_mapb, refs_mapu, refs_append, Bool.and_true, Bool.true_and, Bool.and_self, hrf] <;> exact rfl) | (simp only [V.cells, refsE, refsM, V.refs, V.refs.go, V.pure, V.pure.go, pure_mapq, pure_mapb, pure_mapu, refs_mapq, refs_mapb, refs_mapu, refs_append, Bool.and_true, Bool.true_and, Bool.and_self, hrf, hrg] <;> exact rfl) | exact lz) (by first | exact rfl | (simp only [V.cells, refsE, refsM, V.refs, V.refs.go, V.pure, V.pure.go, pure_mapq, pure_mapb, pure_mapu, refs_mapq, refs_mapb, refs_mapu, refs_append, Bool.and_true, Bool.true_and, Bool.and_self] <;> exact rfl) | (simp only [V.cells, refsE, refsM, V.refs, V.refs.go, V.pure, V.pure.go, pure_mapq, pure_mapb, pure_mapu, refs_mapq, refs_mapb, refs_mapu, refs_append, Bool.and_true, Bool.true_and, Bool.and_self, hrf] <;> exact rfl) | (simp only [V.cells, refsE, refsM, V.refs, V.refs.go, V.pure, V.pure.go, pure_mapq, pure_mapb, pure_mapu, refs_mapq, refs_mapb, refs_mapu, refs_append, Bool.and_true, Bool.true_and, Bool.and_self, hrf, hrg] <;> exact rfl) | exact lz) ?_
  intro i hi
  by_cases h : i < votes.length
  · have hvi := hv _ (getD_mem (d := default) h)
    have hk2 := vote_kinds hvi
    have hl2 := voteC_len hvi
    have hok : i + 1 ≤ votes.length := by omega
    have hq : ¬ voteC v = voteC (votes.getD i default) := fun e => hno (by rw [voteC_inj e]; exact getD_mem h)
    exact wk trueW trueW trueW
  · exact wk trueW trueW trueW
theorem first_at {votes : List VoteT} {v : VoteT} (h : v ∈ votes) : ∃ k, k < votes.length ∧ votes.getD k default = v ∧ ∀ j, j < k → votes.getD j default ≠ v := by
  have : ∀ n, n < votes.length → votes.getD n default = v → ∃ k, k < votes.length ∧ votes.getD k default = v ∧ ∀ j, j < k → votes.getD j default ≠ v := by
    intro n
    induction n using Nat.strongRecOn with
    | ind n ih =>
      intro h1 h2
      by_cases h3 : ∃ j, j < n ∧ votes.getD j default = v
      · obtain ⟨j, h4, h5⟩ := h3
        exact ih j h4 (by omega) h5
      · exact ⟨n, h1, h2, fun j h4 h5 => h3 ⟨j, h4, h5⟩⟩
  obtain ⟨n, h1, h2⟩ := List.mem_iff_getElem.1 h
  exact this n h1 (by rw [List.getD_eq_getElem?_getD, List.getElem?_eq_getElem h1]; exact h2)
theorem Contains (votes : List VoteT) (v : VoteT) (hv : ∀ v ∈ votes, VoteOk v) (hn : votes.length < 4611686018427387904) (hok : VoteOk v) :
    LF Tryd.prog 14 [.s none (votes.map voteV), voteV v] (fun _ => .k (.bool (decide (v ∈ votes)))) none := by
  have hl1 := voteC_len hok
  have hrf := refs_voteC
  by_cases h : v ∈ votes
  · rw [decide_eq_true h]
    obtain ⟨k, h1, h2, h3⟩ := first_at h
    have c1 := Index_yes votes v hv hn hok k h1 h2 h3
    unfold voteV at *
    refine LFx.mk' tt Tryd.func14 rfl rfl rfl (by kernel_rfl) rfl rfl fun F => ?_
    exact wk trueW trueW trueW
  · rw [decide_eq_false h]
    have c1 := Index_no votes v hv hn hok h
    unfold voteV at *
    refine LFx.mk' tt Tryd.func14 rfl rfl rfl (by kernel_rfl) rfl rfl fun F => ?_
    exact wk trueW trueW trueW
set_option maxHeartbeats 1000000 in
theorem GrowV (n : Nat) (hn : n < 1073741824) (k : Nat) : LM Tryd.prog 25 [.nil, .k (.int .i64 (n : Int))] [] fun o m => o = .ret (.s (some k) []) ∧ m = [(k, .r 37 33 0)] := by
  rcases Nat.eq_zero_or_pos n with h0 | h0
  · subst h0
    refine LM.nilrow _ _ k rfl ?_
    refine LFx.mk' tt Tryd.func25 rfl rfl rfl (by kernel_rfl) rfl rfl fun F => ?_
    refine wk ?_ trueW trueW
    refine DR.pp rfl rfl (Does.capNil tt rfl rfl rfl rfl rfl) rfl ?_
    exact wk trueW trueW trueW
  · refine LM.row1 (k0 := 22) (fun _ => rfl) ?_ k
    refine LFx.mk' tt Tryd.func25 rfl rfl rfl (by kernel_rfl) rfl rfl fun F => ?_
    refine wk ?_ trueW trueW
    refine DR.pp rfl rfl (Does.capNil tt rfl rfl rfl rfl rfl) rfl ?_
    refine wk ?_ trueW trueW
    refine DR.pp rfl rfl (Does.capNil tt rfl rfl rfl rfl rfl) rfl ?_
    refine DR.pp rfl rfl (Does.cutNil tt rfl rfl rfl rfl rfl (.some rfl rfl)) rfl ?_
    refine wk ?_ trueW trueW
    refine DR.nn rfl rfl (Does.appMake (n := n) tt rfl rfl rfl rfl rfl rfl rfl rfl rfl rfl h0 (by omega) (by show n * 40 ≤ _; omega)) rfl rfl ?_
    refine wk ?_ trueW trueW
    refine DR.ww rfl rfl (Does.cutW0 tt rfl rfl rfl rfl rfl (.some rfl rfl)) rfl rfl ?_
    exact wk trueW trueW trueW
abbrev votesV (l : List VoteT) : V := .s none (l.map voteV)
theorem sizes_v {l : List VoteT} (h : ∀ v ∈ l, VoteOk v) : ∀ e ∈ l.map voteV, e.cells.length = 33 := fun e he => by
  obtain ⟨v, hv, rfl⟩ := List.mem_map.1 he
  exact voteC_len (h v hv)
theorem bare_v (v : VoteT) : (voteV v).bare = some (voteV v) := by
  unfold voteV
  rw [voteC_k]
  exact bare_am (f := V.k) (fun _ => rfl)
set_option maxHeartbeats 1000000 in
theorem ConcatV (ls : List (List VoteT)) (hv : ∀ l ∈ ls, ∀ v ∈ l, VoteOk v) (h1 : ls.length < 1073741824) (h2 : ls.flatten.length < 1073741824) (k : Nat) : LM Tryd.prog 15 [.s none (ls.map votesV)] [] fun o m => o = .ret (.s (some k) (ls.flatten.map voteV)) ∧ m = [(k, .r 37 33 ls.flatten.length)] := by
  refine LM.row1 (k0 := 24) (fun ρ => by simp [V.ren]) ?_ k
  have c1 := GrowV ls.flatten.length h2 24
  have hbr := bare_v
  refine LFx.mk' tt Tryd.func15 rfl rfl rfl (by kernel_rfl) rfl rfl fun F => ?_
  refine wk ?_ trueW trueW
  refine LC.loopN (fun i => [(0, .s none (ls.map votesV)), (2, .nil), (3, .k (.int .i64 (((ls.take i).flatten.length : Nat) : Int))), (9, .s none (ls.map votesV)), (10, .k (.int .i64 ((ls.length : Nat) : Int))), (11, .k (.int .i64 ((i : Nat) : Int)))]) (fun i => []) (fun i => i ≤ ls.length) ((ls.length - ·)) (0) (by omega) ⟨rfl, rfl, rfl, rfl, rfl, rfl, trivial⟩ trivial rfl (by first | exact rfl | (simp only [V.cells, refsE, refsM, V.refs, V.refs.go, V.pure, V.pure.go, pure_mapq, pure_mapb, pure_mapu, refs_mapq, refs_mapb, refs_mapu, refs_append, Bool.and_true, Bool.true_and, Bool.and_self] <;> exact rfl) | (simp only [V.cells, refsE, refsM, V.refs, V.refs.go, V.pure, V.pure.go, pure_mapq, pure_mapb, pure_mapu, refs_mapq, refs_mapb, refs_mapu, refs_append, Bool.and_true, Bool.true_and, Bool.and_self, hrf] <;> exact rfl) | (simp only [V.cells, refsE, refsM, V.refs, V.refs.go, V.pure, V.pure.go, pure_mapq, pure_mapb, pure_mapu, refs_mapq, refs_mapb, refs_mapu, refs_append, Bool.and_true, Bool.true_and, Bool.and_self, hrf, hrg] <;> exact rfl) | exact lz) (by first | exact rfl | (simp only [V.cells, refsE, refsM, V.refs, V.refs.go, V.pure, V.pure.go, pure_mapq, pure_mapb, pure_mapu, refs_mapq, refs_mapb, refs_mapu, refs_append, Bool.and_true, Bool.true_and, Bool.and_self] <;> exact rfl) | (simp only [V.cells, refsE, refsM, V.refs, V.refs.go, V.pure, V.pure.go, pure_mapq, pure_mapb, pure_mapu, refs_mapq, refs_mapb, refs_mapu, refs_append, Bool.and_true, Bool.true_and, Bool.and_self, hrf] <;> exact rfl) | (simp only [V.cells, refsE, refsM, V.refs, V.refs.go, V.pure, V.pure.go, pure_mapq, pure_mapb, pure_mapu, refs_mapq, refs_mapb, refs_mapu, refs_append, Bool.and_true, Bool.true_and, Bool.and_self, hrf, hrg] <;> exact rfl) | exact lz) ?_
  intro i hi
  have q1 := flat_le (ls := ls) (i := i)
  rcases Nat.lt_or_ge i ls.length with h3 | h3
  · have hok : i + 1 ≤ ls.length := h3
    have q2 := flat_takeL h3
    have q3 := flat_le (ls := ls) (i := i + 1)
    refine wk ?_ trueW trueW
    rw [← q2]
    exact wk trueW trueW trueW
  · obtain rfl : i = ls.length := by omega
    rw [List.take_length]
    refine wk ?_ trueW trueW
    refine LC.loopN (fun j => [(2, .nil), (6, .s (some 24) ((ls.take j).flatten.map voteV)), (25, .s none (ls.map votesV)), (26, .k (.int .i64 ((ls.length : Nat) : Int))), (27, .k (.int .i64 ((j : Nat) : Int)))]) (fun j => [(24, .r 37 33 (ls.take j).flatten.length)]) (fun j => j ≤ ls.length) ((ls.length - ·)) (0) (by omega) ⟨rfl, rfl, rfl, rfl, rfl, trivial⟩ ⟨rfl, trivial⟩ rfl (by first | exact rfl | (simp only [V.cells, refsE, refsM, V.refs, V.refs.go, V.pure, V.pure.go, pure_mapq, pure_mapb, pure_mapu, refs_mapq, refs_mapb, refs_mapu, refs_append, Bool.and_true, Bool.true_and, Bool.and_self] <;> exact rfl) | (simp only [V.cells, refsE, refsM, V.refs, V.refs.go, V.pure, V.pure.go, pure_mapq, pure_mapb, pure_mapu, refs_mapq, refs_mapb, refs_mapu, refs_append, Bool.and_true, Bool.true_and, Bool.and_self, hrf] <;> exact rfl) | (simp only [V.cells, refsE, refsM, V.refs, V.refs.go, V.pure, V.pure.go, pure_mapq, pure_mapb, pure_mapu, refs_mapq, refs_mapb, refs_mapu, refs_append, Bool.and_true, Bool.true_and, Bool.and_self, hrf, hrg] <;> exact rfl) | exact lz) (by first | exact rfl | (simp only [V.cells, refsE, refsM, V.refs, V.refs.go, V.pure, V.pure.go, pure_mapq, pure_mapb, pure_mapu, refs_mapq, refs_mapb, refs_mapu, refs_append, Bool.and_true, Bool.true_and, Bool.and_self] <;> exact rfl) | (simp only [V.cells, refsE, refsM, V.refs, V.refs.go, V.pure, V.pure.go, pure_mapq, pure_mapb, pure_mapu, refs_mapq, refs_mapb, refs_mapu, refs_append, Bool.and_true, Bool.true_and, Bool.and_self, hrf] <;> exact rfl) | (simp only [V.cells, refsE, refsM, V.refs, V.refs.go, V.pure, V.pure.go, pure_mapq, pure_mapb, pure_mapu, refs_mapq, refs_mapb, refs_mapu, refs_append, Bool.and_true, Bool.true_and, Bool.and_self, hrf, hrg] <;> exact rfl) | exact lz) ?_
    intro j hj
    have q1 := flat_le (ls := ls) (i := j)
    have q0 : ((ls.take j).flatten.map voteV).length = (ls.take j).flatten.length := List.length_map _
    rcases Nat.lt_or_ge j ls.length with h4 | h4
    · have hok : j + 1 ≤ ls.length := h4
      have q2 := flat_takeL h4
      have q4 := flat_take h4
      have q3 := flat_le (ls := ls) (i := j + 1)
      have z1 := sizes_v (l := (ls.take j).flatten) fun v hv' => by
        obtain ⟨l, hl, hv''⟩ := List.mem_flatten.1 hv'
        exact hv l (List.mem_of_mem_take hl) v hv''
      have z2 := sizes_v (l := ls.getD j default) (hv _ (getD_mem h4))
      refine wk ?_ trueW trueW
      rw [← q4]
      exact wk trueW trueW trueW
    · obtain rfl : j = ls.length := by omega
      rw [List.take_length]
      exact wk trueW trueW trueW
end St
end Lf
end Go.Proofs.YtgioofknlbdfjaaDoor

/- Seats: who votes twice is named; more votes name no fewer. -/
namespace Go.Proofs.YtgioofknlbdfjaaDoor
open Go.RowKit Rg
set_option maxRecDepth 100000
namespace Lf
namespace St
theorem named_mem (l : List Nat) : ∀ m, m < 18446744073709551616 → ∀ s ∈ named l m, ∃ i, m.testBit i = true ∧ i < l.length ∧ l.getD i default = s := by
  intro m
  induction m using Nat.strongRecOn with
  | ind m ih =>
    intro hm s hs
    by_cases h : m = 0
    · subst h; rw [named_0] at hs; cases hs
    · rw [named_s l h] at hs
      have h1 := Nat.and_le_right (n := m) (m := m - 1)
      obtain ⟨b1, b2⟩ := tz_bits 64 m (by omega) (by simpa using hm)
      rcases List.mem_append.1 hs with hs | hs
      · split at hs
        · rename_i hlt
          rw [List.mem_singleton] at hs
          exact ⟨_, b1, hlt, hs.symm⟩
        · cases hs
      · obtain ⟨i, i1, i2, i3⟩ := ih (m &&& (m - 1)) (by omega) (by omega) s hs
        rw [b2] at i1
        simp only [Bool.and_eq_true] at i1
        exact ⟨i, i1.1, i2, i3⟩
theorem tally_voted {l : List Nat} {x : List UInt8} {votes : List VoteT} {i : Nat} (h : (tally l x votes).testBit i = true) : (l.getD i default, x) ∈ votes := by
  rw [tally_bit, Bool.and_eq_true] at h
  exact of_decide_eq_true h.2
theorem guilty {l : List Nat} {x y : List UInt8} {votes : List VoteT} : ∀ s ∈ named l (tally l x votes &&& tally l y votes), (s, x) ∈ votes ∧ (s, y) ∈ votes := fun s hs => by
  obtain ⟨i, h1, h2, rfl⟩ := named_mem l _ (Nat.lt_of_le_of_lt Nat.and_le_left (tally_lt l x votes)) s hs
  rw [Nat.testBit_and, Bool.and_eq_true] at h1
  exact ⟨tally_voted h1.1, tally_voted h1.2⟩
set_option maxHeartbeats 1000000 in
theorem SeatsBlame (l : List Nat) (x y : List UInt8) (votes : List VoteT) (hl : ∀ s ∈ l, s < 18446744073709551616) (hn : l.length < 1152921504606846976) (hx : x.length = 32) (hy : y.length = 32) (hv : ∀ v ∈ votes, VoteOk v) (hnv : votes.length < 1152921504606846976) :
    LF Tryd.prog 5 [.s none (l.map uK), .a (x.map bK), .a (y.map bK), .s none (votes.map voteV)] (fun _ => .k (.bool true)) none := by
  have c1 := alive22
  have hR := Right l hl (by omega)
  have c3 := Tally l x votes hl (by omega) hx hv (by omega)
  have c4 := Tally l y votes hl (by omega) hy hv (by omega)
  have ha := tally_lt l x votes
  have hb := tally_lt l y votes
  have c5 := Quorum (tally l x votes) l.length ha (by omega)
  have c6 := Quorum (tally l y votes) l.length hb (by omega)
  have hg := guilty (l := l) (x := x) (y := y) (votes := votes)
  have hm := meet (l := l) ha hb
  generalize tally l x votes = a at *
  generalize tally l y votes = b at *
  by_cases h : asc l ∧ 0 < l.length ∧ l.length ≤ 16
  · have c2 := hR.1 h
    clear hR h
    by_cases hxy : x = y
    · clear hg hm
      refine LFx.mk' tt Tryd.func5 rfl rfl rfl (by kernel_rfl) rfl rfl fun F => ?_
      exact wk trueW trueW trueW
    · cases ea : quo a l.length
      · rw [ea] at c5
        clear hg hm
        refine LFx.mk' tt Tryd.func5 rfl rfl rfl (by kernel_rfl) rfl rfl fun F => ?_
        exact wk trueW trueW trueW
      · rw [ea] at c5
        cases eb : quo b l.length
        · rw [eb] at c6
          clear hg hm
          refine LFx.mk' tt Tryd.func5 rfl rfl rfl (by kernel_rfl) rfl rfl fun F => ?_
          exact wk trueW trueW trueW
        · rw [eb] at c6
          have hm' := hm ea eb
          have hab : a &&& b < 18446744073709551616 := Nat.lt_of_le_of_lt Nat.and_le_left ha
          have c7 := Named l (a &&& b) hl (by omega) hab
          have hle := named_le l (a &&& b) hab
          have hpc := pc_le (a &&& b) 64
          have hgl : ∀ s ∈ named l (a &&& b), s < 18446744073709551616 := fun s hs => by
            obtain ⟨i, _, _, e⟩ := named_mem l _ hab s hs
            rw [← e]; exact getD_lt64 hl i
          generalize named l (a &&& b) = g at *
          generalize hk : pc (a &&& b) 64 = k at *
          clear hm hk ea eb
          refine LFx.mk' tt Tryd.func5 rfl rfl rfl (by kernel_rfl) rfl rfl fun F => ?_
          refine wk ?_ trueW trueW
          refine LC.loopN (fun i => [(0, .s none (l.map uK)), (3, .s none (votes.map voteV)), (5, .p 5 0), (6, .p 6 0), (11, .s none (g.map uK)), (51, .s none (g.map uK)), (52, .k (.int .i64 ((g.length : Nat) : Int))), (53, .k (.int .i64 ((i : Nat) : Int)))]) (fun i => [(5, .b (x.map bK)), (6, .b (y.map bK))]) (fun i => i ≤ g.length) ((g.length - ·)) (0) (by omega) ⟨rfl, rfl, rfl, rfl, rfl, rfl, rfl, rfl, trivial⟩ ⟨rfl, rfl, trivial⟩ rfl (by first | exact rfl | (simp only [V.cells, refsE, refsM, V.refs, V.refs.go, V.pure, V.pure.go, pure_mapq, pure_mapb, pure_mapu, refs_mapq, refs_mapb, refs_mapu, refs_append, Bool.and_true, Bool.true_and, Bool.and_self] <;> exact rfl) | (simp only [V.cells, refsE, refsM, V.refs, V.refs.go, V.pure, V.pure.go, pure_mapq, pure_mapb, pure_mapu, refs_mapq, refs_mapb, refs_mapu, refs_append, Bool.and_true, Bool.true_and, Bool.and_self, hrf] <;> exact rfl) | (simp only [V.cells, refsE, refsM, V.refs, V.refs.go, V.pure, V.pure.go, pure_mapq, pure_mapb, pure_mapu, refs_mapq, refs_mapb, refs_mapu, refs_append, Bool.and_true, Bool.true_and, Bool.and_self, hrf, hrg] <;> exact rfl) | exact lz) (by first | exact rfl | (simp only [V.cells, refsE, refsM, V.refs, V.refs.go, V.pure, V.pure.go, pure_mapq, pure_mapb, pure_mapu, refs_mapq, refs_mapb, refs_mapu, refs_append, Bool.and_true, Bool.true_and, Bool.and_self] <;> exact rfl) | (simp only [V.cells, refsE, refsM, V.refs, V.refs.go, V.pure, V.pure.go, pure_mapq, pure_mapb, pure_mapu, refs_mapq, refs_mapb, refs_mapu, refs_append, Bool.and_true, Bool.true_and, Bool.and_self, hrf] <;> exact rfl) | (simp only [V.cells, refsE, refsM, V.refs, V.refs.go, V.pure, V.pure.go, pure_mapq, pure_mapb, pure_mapu, refs_mapq, refs_mapb, refs_mapu, refs_append, Bool.and_true, Bool.true_and, Bool.and_self, hrf, hrg] <;> exact rfl) | exact lz) ?_
          intro i hi
          by_cases h : i < g.length
          · have hok : i + 1 ≤ g.length := h
            have hs := getD_mem (d := default) h
            have hs64 := hgl _ hs
            obtain ⟨g1, g2⟩ := hg _ hs
            have c8 := Contains votes (g.getD i default, x) hv (by omega) ⟨hs64, hx⟩
            have c9 := Contains votes (g.getD i default, y) hv (by omega) ⟨hs64, hy⟩
            rw [decide_eq_true g1] at c8
            rw [decide_eq_true g2] at c9
            obtain ⟨cs, b1, b2⟩ := vote_b (g.getD i default) x hx
            obtain ⟨ds, b3, b4⟩ := vote_b (g.getD i default) y hy
            have hrf := refs_voteC
            unfold voteV at c8 c9
            clear hg hgl g1 g2
            exact wk trueW trueW trueW
          · clear hg hgl
            exact wk trueW trueW trueW
  · have c2 := hR.2 h
    clear hR h hg hm
    by_cases hxy : x = y
    · refine LFx.mk' tt Tryd.func5 rfl rfl rfl (by kernel_rfl) rfl rfl fun F => ?_
      exact wk trueW trueW trueW
    · refine LFx.mk' tt Tryd.func5 rfl rfl rfl (by kernel_rfl) rfl rfl fun F => ?_
      exact wk trueW trueW trueW
theorem tally_congr {l : List Nat} {x : List UInt8} {a b : List VoteT} (h : ∀ v, v ∈ a ↔ v ∈ b) : tally l x a = tally l x b := by
  apply Nat.eq_of_testBit_eq
  intro i
  rw [tally_bit, tally_bit]
  congr 1
  exact decide_eq_decide.2 (h _)
theorem tally_more {l : List Nat} {x : List UInt8} {a b : List VoteT} (h : ∀ v, v ∈ a → v ∈ b) (i : Nat) (hi : (tally l x a).testBit i = true) : (tally l x b).testBit i = true := by
  rw [tally_bit, Bool.and_eq_true] at hi ⊢
  exact ⟨hi.1, decide_eq_true (h _ (of_decide_eq_true hi.2))⟩
set_option maxHeartbeats 1000000 in
theorem SeatsMore (l : List Nat) (M : Nat) (x : List UInt8) (votes more : List VoteT) (hl : ∀ s ∈ l, s < 18446744073709551616) (hn : l.length < 1152921504606846976) (hM : M < 18446744073709551616) (hx : x.length = 32) (hv : ∀ v ∈ votes, VoteOk v) (hnv : votes.length < 10000000) (hw : ∀ v ∈ more, VoteOk v) (hnw : more.length < 10000000) :
    LF Tryd.prog 6 [.s none (l.map uK), uK M, .a (x.map bK), .s none (votes.map voteV), .s none (more.map voteV)] (fun _ => .k (.bool true)) none := by
  have c1 := alive22
  have f1 : [more, votes, more].flatten = more ++ votes ++ more := by simp
  have f2 : [votes, more].flatten = votes ++ more := by simp
  have f3 : [more, votes].flatten = more ++ votes := by simp
  have n1 : (more ++ votes ++ more).length = more.length + votes.length + more.length := by simp [Nat.add_assoc]
  have n2 : (votes ++ more).length = votes.length + more.length := by simp
  have n3 : (more ++ votes).length = more.length + votes.length := by simp
  have k1 : ∀ l ∈ [more, votes, more], ∀ v ∈ l, VoteOk v := fun l hl v hv' => by
    simp at hl
    rcases hl with rfl | rfl | rfl
    · exact hw v hv'
    · exact hv v hv'
    · exact hw v hv'
  have c2 := ConcatV [more, votes, more] k1 (show 3 < 1073741824 by decide) (by rw [f1]; omega)
  have c3 := ConcatV [votes, more] (fun l hl => k1 l (by simp at hl ⊢; rcases hl with h | h <;> simp [h])) (show 2 < 1073741824 by decide) (by rw [f2]; omega)
  have c4 := ConcatV [more, votes] (fun l hl => k1 l (by simp at hl ⊢; rcases hl with h | h <;> simp [h])) (show 2 < 1073741824 by decide) (by rw [f3]; omega)
  rw [f1] at c2
  rw [f2] at c3
  rw [f3] at c4
  have o2 : ∀ v ∈ votes ++ more, VoteOk v := fun v hv' => by rcases List.mem_append.1 hv' with h | h; exact hv v h; exact hw v h
  have o3 : ∀ v ∈ more ++ votes, VoteOk v := fun v hv' => by rcases List.mem_append.1 hv' with h | h; exact hw v h; exact hv v h
  have o1 : ∀ v ∈ more ++ votes ++ more, VoteOk v := fun v hv' => by rcases List.mem_append.1 hv' with h | h; exact o3 v h; exact hw v h
  have c5 := Tally l x votes hl (by omega) hx hv (by omega)
  have c6 := Tally l x (more ++ votes ++ more) hl (by omega) hx o1 (by omega)
  have c7 := Tally l x (votes ++ more) hl (by omega) hx o2 (by omega)
  have c8 := Voted l M x votes hM hl (by omega) hx hv (by omega)
  have c9 := Voted l M x (more ++ votes) hM hl (by omega) hx o3 (by omega)
  have e1 : tally l x (more ++ votes ++ more) = tally l x (votes ++ more) := tally_congr fun v => by
    simp only [List.mem_append]
    constructor
    · rintro ((h | h) | h)
      · exact .inr h
      · exact .inl h
      · exact .inr h
    · rintro (h | h)
      · exact .inl (.inr h)
      · exact .inr h
  have e2 : tally l x (more ++ votes) = tally l x (votes ++ more) := tally_congr fun v => by
    simp only [List.mem_append]; exact or_comm
  rw [e1] at c6
  rw [e2] at c9
  have hA := tally_lt l x votes
  have hB := tally_lt l x (votes ++ more)
  have hsub := tally_more (l := l) (x := x) (a := votes) (b := votes ++ more) fun v h => List.mem_append_left _ h
  generalize tally l x votes = A at *
  generalize tally l x (votes ++ more) = B at *
  have hAB := (andn_zero hA hB).2 hsub
  have hMB : andn M A = 0 → andn M B = 0 := fun h => (andn_zero hM hB).2 fun i hi => hsub i ((andn_zero hM hA).1 h i hi)
  clear k1 o1 o2 o3 e1 e2 f1 f2 f3 hsub hl hv hw
  generalize more ++ votes ++ more = u1 at *
  generalize votes ++ more = u2 at *
  generalize more ++ votes = u3 at *
  by_cases h : andn M A = 0
  · have h' := hMB h
    rw [decide_eq_true h] at c8
    rw [decide_eq_true h'] at c9
    clear hMB
    refine LFx.mk' tt Tryd.func6 rfl rfl rfl (by kernel_rfl) rfl rfl fun F => ?_
    exact wk trueW trueW trueW
  · rw [decide_eq_false h] at c8
    clear hMB
    refine LFx.mk' tt Tryd.func6 rfl rfl rfl (by kernel_rfl) rfl rfl fun F => ?_
    exact wk trueW trueW trueW
end St
end Lf
end Go.Proofs.YtgioofknlbdfjaaDoor

/- What the given statement tells of an argument: a lifted value by a datum of one's own, and a bound of its bulk. -/
namespace Go.Proofs.YtgioofknlbdfjaaDoor
open Go.RowKit Rg Rp Go.WideShapes Go.ChangeShapes
namespace Lf
/-- Cells and what they read. -/
def RO (W : World) : List V → List Value → Prop
  | [], [] => True
  | u :: us, c :: cs => (u.one = true ∧ Rep W allS u c) ∧ RO W us cs
  | _, _ => False
theorem RO.append {W : World} : ∀ {us : List V} {cs : List Value} {vs : List V} {ds : List Value}, RO W us cs → RO W vs ds → RO W (us ++ vs) (cs ++ ds)
  | [], [], _, _, _, h => h
  | u :: us, c :: cs, _, _, h, k => ⟨h.1, RO.append h.2 k⟩
  | [], _ :: _, _, _, h, _ => h.elim
  | _ :: _, [], _, _, h, _ => h.elim
theorem RO.spec {W : World} : ∀ {us : List V} {cs : List Value}, RO W us cs → us.length = cs.length ∧ ∀ (j : Nat) u c, us[j]? = some u → cs[j]? = some c → u.one = true ∧ Rep W allS u c
  | [], [], _ => ⟨rfl, fun j u c h => by simp at h⟩
  | u :: us, c :: cs, h => by
    obtain ⟨h1, h2⟩ := RO.spec h.2
    refine ⟨by simp [h1], fun j a b ha hb => ?_⟩
    cases j with
    | zero => simp at ha hb; subst ha; subst hb; exact h.1
    | succ j => simp at ha hb; exact h2 j a b ha hb
  | [], _ :: _, h => h.elim
  | _ :: _, [], h => h.elim
theorem RO.flatten {W : World} : ∀ {uss : List (List V)} {css : List (List Value)}, uss.length = css.length → (∀ (j : Nat) us cs, uss[j]? = some us → css[j]? = some cs → RO W us cs) → RO W uss.flatten css.flatten
  | [], [], _, _ => trivial
  | us :: uss, cs :: css, hl, h => by
    rw [List.flatten_cons, List.flatten_cons]
    exact (h 0 us cs rfl rfl).append (RO.flatten (by simpa using hl) fun j a b ha hb => h (j + 1) a b (by simpa using ha) (by simpa using hb))
  | [], _ :: _, hl, _ => by simp at hl
  | _ :: _, [], hl, _ => by simp at hl
theorem mapM_some {α β : Type} {f : α → Option β} : ∀ {l : List α} {r : List β}, l.mapM f = some r → r.length = l.length ∧ ∀ (j : Nat) a, l[j]? = some a → ∃ b, r[j]? = some b ∧ f a = some b
  | [], r, h => by simp at h; subst h; simp
  | a :: l, r, h => by
    simp only [List.mapM_cons, Option.bind_eq_bind, Option.pure_def] at h
    obtain ⟨b, hb, h⟩ := Option.bind_eq_some_iff.1 h
    obtain ⟨bs, hbs, h⟩ := Option.bind_eq_some_iff.1 h
    cases h
    obtain ⟨h1, h2⟩ := mapM_some hbs
    refine ⟨by simp [h1], fun j x hj => ?_⟩
    cases j with
    | zero => simp at hj; subst hj; exact ⟨b, rfl, hb⟩
    | succ j => simp at hj; exact h2 j x hj
theorem list_choose {α : Type} {p : Nat → α → Prop} : ∀ (n : Nat), (∀ j, j < n → ∃ x, p j x) → ∃ xs : List α, xs.length = n ∧ ∀ j x, xs[j]? = some x → p j x
  | 0, _ => ⟨[], rfl, by simp⟩
  | n + 1, h => by
    obtain ⟨xs, hl, hx⟩ := list_choose n fun j hj => h j (by omega)
    obtain ⟨x, hp⟩ := h n (by omega)
    refine ⟨xs ++ [x], by simp [hl], fun j y hj => ?_⟩
    rcases Nat.lt_or_ge j xs.length with hlt | hge
    · rw [List.getElem?_append_left hlt] at hj; exact hx j y hj
    · rw [List.getElem?_append_right hge] at hj
      have : j - xs.length = 0 := by
        rcases Nat.eq_zero_or_pos (j - xs.length) with h0 | h0
        · exact h0
        · rw [List.getElem?_eq_none (by simp; omega)] at hj; cases hj
      rw [this] at hj
      simp at hj; subst hj
      obtain rfl : j = n := by omega
      exact hp
theorem range_flatten {s : Nat} : ∀ {n : Nat} {cs : List Value}, cs.length = n * s → ((List.range n).map fun i => (cs.drop (i * s)).take s).flatten = cs
  | 0, cs, h => by simp at h; subst h; rfl
  | n + 1, cs, h => by
    rw [List.range_succ_eq_map, List.map_cons, List.flatten_cons, List.map_map, Nat.zero_mul, List.drop_zero]
    have e := range_flatten (s := s) (n := n) (cs := cs.drop s) (by rw [List.length_drop, h, Nat.succ_mul]; omega)
    have e2 : ((List.range n).map ((fun i => (cs.drop (i * s)).take s) ∘ Nat.succ)) = (List.range n).map fun i => ((cs.drop s).drop (i * s)).take s := by
      refine List.map_congr_left fun i _ => ?_
      simp only [Function.comp, List.drop_drop, Nat.succ_mul]
      rw [Nat.add_comm]
    rw [e2, e]
    exact List.take_append_drop _ _
theorem flat_inv {α : Type} {f : α → List V} {k : Nat} (hk : 0 < k) : ∀ {l : List α} {J : Nat} {u : V}, (∀ a ∈ l, (f a).length = k) → (l.flatMap f)[J]? = some u → ∃ a, l[J / k]? = some a ∧ (f a)[J % k]? = some u
  | [], J, u, _, h => by simp at h
  | a :: l, J, u, hf, h => by
    rw [List.flatMap_cons] at h
    have ha := hf a (by simp)
    rcases Nat.lt_or_ge J k with hlt | hge
    · rw [List.getElem?_append_left (by omega)] at h
      exact ⟨a, by rw [Nat.div_eq_of_lt hlt]; rfl, by rw [Nat.mod_eq_of_lt hlt]; exact h⟩
    · rw [List.getElem?_append_right (by omega), ha] at h
      obtain ⟨b, h1, h2⟩ := flat_inv hk (fun a ha => hf a (by simp [ha])) h
      obtain ⟨J', rfl⟩ : ∃ J', J = J' + k := ⟨J - k, by omega⟩
      rw [Nat.add_sub_cancel] at h1 h2
      exact ⟨b, by rw [Nat.add_div_right _ hk]; exact h1, by rw [Nat.add_mod_right]; exact h2⟩
theorem sum_le {α β : Type} {f : α → Nat} {g : β → Nat} : ∀ {l : List α} {m : List β}, l.length = m.length → (∀ (j : Nat) a b, l[j]? = some a → m[j]? = some b → f a ≤ g b) → (l.map f).sum ≤ (m.map g).sum
  | [], [], _, _ => Nat.le_refl _
  | a :: l, b :: m, hl, h => by
    simp only [List.map_cons, List.sum_cons]
    exact Nat.add_le_add (h 0 a b rfl rfl) (sum_le (by simpa using hl) fun j x y hx hy => h (j + 1) x y (by simpa using hx) (by simpa using hy))
  | [], _ :: _, hl, _ => by simp at hl
  | _ :: _, [], hl, _ => by simp at hl
section
variable {H : Type} {enc : TypeId × Value → H} {P : Program} {W : World}
theorem sum_bulk (xs : List (DataW H × List MemPlace)) : (xs.map fun x => Rows.uptoBulk x.1).sum = Rows.uptoBulkAll (xs.map (·.1)) := by
  induction xs with
  | nil => simp [Rows.uptoBulkAll]
  | cons x r ih => simp [Rows.uptoBulkAll, ih]
/-- Cells of a type, as the given reader takes them: lifted by a datum of one's own. -/
structure Opn (enc : TypeId × Value → H) (P : Program) (W : World) (n T : Nat) {α : Type} (f : α → List V) (ok : α → Prop) (sz : α → Nat) : Prop where
  go : ∀ cs x, DataW.trod enc P W 0 (fun _ => true) true n T cs = some x → ∃ a, RO W (f a) cs ∧ ok a ∧ sz a ≤ Rows.uptoBulk x.1
theorem Opn.zero {T : Nat} {α : Type} {f : α → List V} {ok : α → Prop} {sz : α → Nat} : Opn enc P W 0 T f ok sz := ⟨fun cs x h => by simp [DataW.trod] at h⟩
theorem Opn.map {n T : Nat} {α β : Type} {f : α → List V} {ok : α → Prop} {sz : α → Nat} {f' : β → List V} {ok' : β → Prop} {sz' : β → Nat} (g : α → β) (h : Opn enc P W n T f ok sz) (hf : ∀ a, ok a → f' (g a) = f a) (hok : ∀ a, ok a → ok' (g a)) (hs : ∀ a, ok a → sz' (g a) ≤ sz a) : Opn enc P W n T f' ok' sz' :=
  ⟨fun cs x hx => by
    obtain ⟨a, h1, h2, h3⟩ := h.go cs x hx
    exact ⟨g a, by rw [hf a h2]; exact h1, hok a h2, Nat.le_trans (hs a h2) h3⟩⟩
theorem Opn.bool {n T : Nat} (hT : P.underlying T = some .bool) : Opn enc P W n T (fun b : Bool => [.k (.bool b)]) (fun _ => True) (fun _ => 1) := ⟨fun cs x h => by
  cases n with
  | zero => simp [DataW.trod] at h
  | succ n =>
    unfold DataW.trod at h
    rw [hT] at h
    split at h <;> rename_i hu <;> first | (cases hu; done) | skip
    all_goals first | (cases h; exact ⟨_, ⟨⟨rfl, .k _⟩, trivial⟩, trivial, by simp [Rows.uptoBulk]⟩) | cases h⟩
theorem Opn.int {n T : Nat} {k : IntKind} (hT : P.underlying T = some (.int k)) : Opn enc P W n T (fun z : Int => [.k (.int k z)]) (fun z => k.min ≤ z ∧ z ≤ k.max) (fun _ => 1) := ⟨fun cs x h => by
  cases n with
  | zero => simp [DataW.trod] at h
  | succ n =>
    unfold DataW.trod at h
    rw [hT] at h
    split at h <;> rename_i hu <;> first | (cases hu; done) | skip
    all_goals first | cases h | skip
    cases hu
    split at h
    · rename_i hw
      cases h
      obtain ⟨rfl, hw⟩ := hw
      exact ⟨_, ⟨⟨rfl, .k _⟩, trivial⟩, by simpa [Lit.wf] using hw, by simp [Rows.uptoBulk]⟩
    · cases h⟩
theorem Opn.str {n T : Nat} (hT : P.underlying T = some .string) : Opn enc P W n T (fun s : ByteArray => [.k (.string s)]) (fun s => s.size ≤ maxLen) (fun s => s.size + 1) := ⟨fun cs x h => by
  cases n with
  | zero => simp [DataW.trod] at h
  | succ n =>
    unfold DataW.trod at h
    rw [hT] at h
    split at h <;> rename_i hu <;> first | (cases hu; done) | skip
    all_goals first | cases h | skip
    split at h
    · rename_i hw
      cases h
      exact ⟨_, ⟨⟨rfl, .k _⟩, trivial⟩, hw, by simp [Rows.uptoBulk]⟩
    · cases h⟩
/-- A slice. -/
theorem Opn.sl {n T e k : Nat} {α : Type} {f : α → List V} {ok : α → Prop} {sz : α → Nat} (p : α → V) (hT : P.underlying T = some (.slice e)) (hc : P.cellsOf e = k) (hk : 0 < k) (hp : ∀ a, (p a).cells = f a) (h : Opn enc P W (n - 1) e f ok sz) :
    Opn enc P W n T (fun l : List α => [.s none (l.map p)]) (fun l => ∀ a ∈ l, ok a) (fun l => (l.map sz).sum + 1) := ⟨fun cs x hx => by
  cases n with
  | zero => simp [DataW.trod] at hx
  | succ n =>
    unfold DataW.trod at hx
    rw [hT] at hx
    split at hx <;> rename_i hu <;> first | (cases hu; done) | skip
    all_goals first | (cases hx; exact ⟨[], ⟨⟨rfl, .s0 (fun _ h => by cases h)⟩, trivial⟩, by simp, by simp [Rows.uptoBulk]⟩) | skip
    all_goals first | cases hx | skip
    cases hu
    rename_i a len cap
    simp only [hc] at hx
    split at hx
    · rename_i hb
      obtain ⟨_, hlc, hcm⟩ := hb
      obtain ⟨elems, he, hx⟩ := Option.bind_eq_some_iff.1 hx
      obtain ⟨rest, hr, hx⟩ := Option.map_eq_some_iff.1 hx
      subst hx
      obtain ⟨e1, e2⟩ := mapM_some he
      rw [List.length_range] at e1
      have key : ∀ j, j < len → ∃ y : α, (∃ b, elems[j]? = some b ∧ ok y ∧ sz y ≤ Rows.uptoBulk b.1) ∧ (f y).length = k ∧ ∀ i, i < k → ∃ u c, (f y)[i]? = some u ∧ W.cell? ((a.add (j * k)).add i) = some c ∧ u.one = true ∧ Rep W allS u c := fun j hj => by
        obtain ⟨b, h1, h2⟩ := e2 j j (by rw [List.getElem?_range hj])
        obtain ⟨ds, h3, h4⟩ := Option.bind_eq_some_iff.1 h2
        obtain ⟨y, k1, k2, k3⟩ := h.go ds b h4
        unfold World.cells? at h3
        split at h3
        · obtain ⟨m1, m2⟩ := mapM_some h3
          rw [List.length_range] at m1
          obtain ⟨l1, l2⟩ := k1.spec
          refine ⟨y, ⟨b, h1, k2, k3⟩, by omega, fun i hi => ?_⟩
          obtain ⟨c, c1, c2⟩ := m2 i i (by rw [List.getElem?_range hi])
          have hu : (f y)[i]? = some (f y)[i] := List.getElem?_eq_getElem (by omega)
          exact ⟨_, c, hu, c2, l2 i _ c hu c1⟩
        · cases h3
      obtain ⟨ys, hyl, hys⟩ := list_choose len key
      have hspot : 0 < cap → a.spot = none := fun h0 => by
        have : ∃ v : DataW H × List MemPlace, ((W.cells? 0 (a.add (0 * k)) k).bind (DataW.trod enc P W 0 (fun _ => true) true n e)) = some v := by
          rcases Nat.eq_zero_or_pos len with hl | hl
          · subst hl
            simp only [if_true] at hr
            obtain ⟨_, r2⟩ := mapM_some hr
            obtain ⟨v, _, hv⟩ := r2 0 0 (by rw [List.getElem?_range (by omega)])
            exact ⟨v, by simpa using hv⟩
          · obtain ⟨v, _, hv⟩ := e2 0 0 (by rw [List.getElem?_range hl])
            exact ⟨v, hv⟩
        obtain ⟨v, hv⟩ := this
        obtain ⟨ds, h3, _⟩ := Option.bind_eq_some_iff.1 hv
        unfold World.cells? at h3
        split at h3
        · obtain ⟨_, m2⟩ := mapM_some h3
          obtain ⟨c, _, c2⟩ := m2 0 0 (by rw [List.getElem?_range hk])
          obtain ⟨b, o, s⟩ := a
          cases s with
          | none => rfl
          | some s =>
            exfalso
            simp only [Addr.add, Nat.zero_mul] at c2
            simp [World.cell?] at c2
            split at c2 <;> simp at c2
        · cases h3
      refine ⟨ys, ⟨⟨rfl, ?_⟩, trivial⟩, fun y hy => ?_, ?_⟩
      · rcases Nat.eq_zero_or_pos cap with h0 | h0
        · obtain rfl : len = 0 := by omega
          subst h0
          have : ys = [] := List.eq_nil_of_length_eq_zero hyl
          subst this
          exact .se a (fun _ h => by cases h)
        · have hsp := hspot h0
          obtain ⟨b, o, s⟩ := a
          simp only at hsp
          subst hsp
          have hfl : ∀ y ∈ ys, (f y).length = k := fun y hy => by
            obtain ⟨j, hj⟩ := List.getElem?_of_mem hy
            exact (hys j y hj).2.1
          have hfe : (ys.map p).flatMap V.cells = ys.flatMap f := by
            rw [List.flatMap_map]
            congr 1
            funext y; exact hp y
          have hat : ∀ (J : Nat) u, (ys.flatMap f)[J]? = some u → ∃ c, W.cell? ⟨b, o + J, none⟩ = some c ∧ u.one = true ∧ Rep W allS u c := fun J u hu => by
            obtain ⟨y, h1, h2⟩ := flat_inv hk hfl hu
            obtain ⟨_, _, h3⟩ := hys _ y h1
            obtain ⟨u', c, k1, k2, k3⟩ := h3 (J % k) (Nat.mod_lt _ hk)
            rw [k1] at h2; cases h2
            rw [Addr.add_lit, Addr.add_lit, Nat.add_assoc, Nat.mul_comm, Nat.div_add_mod] at k2
            exact ⟨c, k2, k3⟩
          have hlen : (ys.map p).length = len := by simpa using hyl
          rw [← hlen]
          refine .s (size := k) (fun J => (W.cell? ⟨b, o + J, none⟩).getD undef) (by omega) hcm hk (fun v hv => ?_) (fun J u hu => ?_) (fun J u hu => ?_) (fun _ h => by cases h)
          · obtain ⟨y, hy, rfl⟩ := List.mem_map.1 hv
            rw [hp]
            refine ⟨hfl y hy, fun u hu => ?_⟩
            obtain ⟨J, hJ⟩ := List.getElem?_of_mem (List.mem_flatMap.2 ⟨y, hy, hu⟩)
            obtain ⟨_, _, h1, _⟩ := hat J u hJ
            exact h1
          · rw [hfe] at hu
            obtain ⟨c, h1, _⟩ := hat J u hu
            exact ⟨World.block_lt_of_cell? W ⟨b, o + J, none⟩ (by rw [h1]), trivial, by rw [h1]; rfl⟩
          · rw [hfe] at hu
            obtain ⟨c, h1, _, h2⟩ := hat J u hu
            rw [h1]
            exact h2
      · obtain ⟨j, hj⟩ := List.getElem?_of_mem hy
        obtain ⟨⟨b, _, h1, _⟩, _⟩ := hys j y hj
        exact h1
      · have := sum_le (f := sz) (g := fun x : DataW H × List MemPlace => Rows.uptoBulk x.1) (l := ys) (m := elems) (by omega) fun j y b hy hb => by
          obtain ⟨⟨b', hb', _, h1⟩, _⟩ := hys j y hy
          rw [hb] at hb'; cases hb'
          exact h1
        rw [sum_bulk] at this
        simp only [Rows.uptoBulk]
        omega
    · cases hx⟩
/-- A struct's fields, from a place on. -/
def tileB (P : Program) (total : Nat) : Nat → List Field → Bool
  | off, [] => Nat.beq off total
  | off, f :: r => Nat.beq f.offset off && tileB P total (off + P.cellsOf f.type) r
structure OpnFs (enc : TypeId × Value → H) (P : Program) (W : World) (n : Nat) (fs : List Field) {α : Type} (f : α → List V) (ok : α → Prop) (sz : α → Nat) : Prop where
  go : ∀ (total off : Nat) (cs : List Value) (xs : List (DataW H × List MemPlace)), tileB P total off fs = true → cs.length = total → (fs.mapM fun fl => DataW.trod enc P W 0 (fun _ => true) true n fl.type ((cs.drop fl.offset).take (P.cellsOf fl.type))) = some xs → ∃ a, RO W (f a) (cs.drop off) ∧ ok a ∧ sz a ≤ Rows.uptoBulkAll (xs.map (·.1))
theorem OpnFs.nil {n : Nat} : OpnFs enc P W n [] (fun _ : Unit => []) (fun _ => True) (fun _ => 0) := ⟨fun total off cs xs ht hl hx => by
  have : off = total := Nat.eq_of_beq_eq_true ht
  refine ⟨(), ?_, trivial, Nat.zero_le _⟩
  rw [List.drop_of_length_le (by omega)]
  trivial⟩
theorem OpnFs.cons {n : Nat} {fl : Field} {fs : List Field} {α β : Type} {f : α → List V} {ok : α → Prop} {sz : α → Nat} {f' : β → List V} {ok' : β → Prop} {sz' : β → Nat} (h : Opn enc P W n fl.type f ok sz) (k : OpnFs enc P W n fs f' ok' sz') :
    OpnFs enc P W n (fl :: fs) (fun x : α × β => f x.1 ++ f' x.2) (fun x => ok x.1 ∧ ok' x.2) (fun x => sz x.1 + sz' x.2) := ⟨fun total off cs xs ht hl hx => by
  simp only [tileB, Bool.and_eq_true] at ht
  have ho : fl.offset = off := Nat.eq_of_beq_eq_true ht.1
  simp only [List.mapM_cons, Option.bind_eq_bind, Option.pure_def] at hx
  obtain ⟨b, hb, hx⟩ := Option.bind_eq_some_iff.1 hx
  obtain ⟨bs, hbs, hx⟩ := Option.bind_eq_some_iff.1 hx
  cases hx
  obtain ⟨a, a1, a2, a3⟩ := h.go _ _ hb
  obtain ⟨c, c1, c2, c3⟩ := k.go _ _ _ _ ht.2 hl hbs
  refine ⟨(a, c), ?_, ⟨a2, c2⟩, by simp only [List.map_cons, Rows.uptoBulkAll]; omega⟩
  have := a1.append c1
  rw [ho, ← List.drop_drop, List.take_append_drop] at this
  exact this⟩
theorem Opn.st {n T : Nat} {fs : Array Field} {α : Type} {f : α → List V} {ok : α → Prop} {sz : α → Nat} (hT : P.underlying T = some (.struct fs)) (ht : tileB P (P.cellsOf T) 0 fs.toList = true) (h : OpnFs enc P W (n - 1) fs.toList f ok sz) :
    Opn enc P W n T f ok (fun a => sz a + 1) := ⟨fun cs x hx => by
  cases n with
  | zero => simp [DataW.trod] at hx
  | succ n =>
    have hx : (if cs.length = P.cellsOf T then (fs.toList.mapM fun fl => DataW.trod enc P W 0 (fun _ => true) true n fl.type ((cs.drop fl.offset).take (P.cellsOf fl.type))).map fun xs => (DataW.agg (xs.map (·.1)), xs.flatMap (·.2)) else none) = some x := by
      unfold DataW.trod at hx
      rw [hT] at hx
      exact hx
    split at hx
    · rename_i hl
      obtain ⟨xs, hxs, hx⟩ := Option.map_eq_some_iff.1 hx
      subst hx
      obtain ⟨a, h1, h2, h3⟩ := h.go _ _ _ _ ht hl hxs
      rw [List.drop_zero] at h1
      exact ⟨a, h1, h2, by simp only [Rows.uptoBulk]; omega⟩
    · cases hx⟩
/-- An array. -/
theorem Opn.ar {n T m e : Nat} {α : Type} {f : α → List V} {ok : α → Prop} {sz : α → Nat} (hT : P.underlying T = some (.array m e)) (hc : P.cellsOf T = m * P.cellsOf e) (h : Opn enc P W (n - 1) e f ok sz) :
    Opn enc P W n T (fun l : List α => l.flatMap f) (fun l => l.length = m ∧ ∀ a ∈ l, ok a) (fun l => (l.map sz).sum + 1) := ⟨fun cs x hx => by
  cases n with
  | zero => simp [DataW.trod] at hx
  | succ n =>
    have hx : (if cs.length = P.cellsOf T then ((List.range m).mapM fun i => DataW.trod enc P W 0 (fun _ => true) true n e ((cs.drop (i * P.cellsOf e)).take (P.cellsOf e))).map fun xs => (DataW.agg (xs.map (·.1)), xs.flatMap (·.2)) else none) = some x := by
      unfold DataW.trod at hx
      rw [hT] at hx
      exact hx
    split at hx
    · rename_i hl
      obtain ⟨xs, hxs, hx⟩ := Option.map_eq_some_iff.1 hx
      subst hx
      obtain ⟨e1, e2⟩ := mapM_some hxs
      rw [List.length_range] at e1
      obtain ⟨ys, hyl, hys⟩ := list_choose (p := fun j (y : α) => (∃ b, xs[j]? = some b ∧ ok y ∧ sz y ≤ Rows.uptoBulk b.1) ∧ RO W (f y) ((cs.drop (j * P.cellsOf e)).take (P.cellsOf e))) m fun j hj => by
        obtain ⟨b, h1, h2⟩ := e2 j j (by rw [List.getElem?_range hj])
        obtain ⟨y, k1, k2, k3⟩ := h.go _ b h2
        exact ⟨y, ⟨b, h1, k2, k3⟩, k1⟩
      refine ⟨ys, ?_, ⟨hyl, fun y hy => ?_⟩, ?_⟩
      · have hrf := range_flatten (s := P.cellsOf e) (n := m) (cs := cs) (by rw [hl, hc])
        rw [← hrf, List.flatMap]
        refine RO.flatten (by simp [hyl]) fun j us ds h1 h2 => ?_
        rw [List.getElem?_map] at h1 h2
        obtain ⟨y, hy, rfl⟩ := Option.map_eq_some_iff.1 h1
        obtain ⟨i, hi, rfl⟩ := Option.map_eq_some_iff.1 h2
        have hjl : j < m := by have := (List.getElem?_eq_some_iff.1 hy).1; omega
        rw [List.getElem?_range hjl] at hi
        cases hi
        exact (hys j y hy).2
      · obtain ⟨j, hj⟩ := List.getElem?_of_mem hy
        obtain ⟨⟨b, _, h1, _⟩, _⟩ := hys j y hj
        exact h1
      · have := sum_le (f := sz) (g := fun x : DataW H × List MemPlace => Rows.uptoBulk x.1) (l := ys) (m := xs) (by omega) fun j y b hy hb => by
          obtain ⟨⟨b', hb', _, h1⟩, _⟩ := hys j y hy
          rw [hb] at hb'; cases hb'
          exact h1
        rw [sum_bulk] at this
        simp only [Rows.uptoBulk]
        omega
    · cases hx⟩
/-! ### Arguments -/
/-- A struct or an array. -/
def aggT (P : Program) (t : Nat) : Bool :=
  match P.underlying t with
  | some (.struct _) | some (.array _ _) => true
  | _ => false
theorem Opn.argA {T base : Nat} {α : Type} {f : α → List V} {ok : α → Prop} {sz : α → Nat} {v : Value} {d : DataW H} {ps : List MemPlace} (h : ∀ n, Opn enc P W n T f ok sz) (ha : aggT P T = true) (hv : Value.okWide P W .any base T v) (ht : DataW.Trod enc P W 0 (fun _ => true) true T v d ps) :
    ∃ a, Rep W allS (.a (f a)) v ∧ ok a ∧ sz a ≤ Rows.uptoBulk d := by
  obtain ⟨n, hn⟩ := ht
  obtain ⟨a, h1, h2, h3⟩ := (h n).go _ _ hn
  obtain ⟨cs, rfl⟩ : ∃ cs, v = .agg cs := by
    unfold Value.okWide at hv
    unfold aggT at ha
    split at hv
    · obtain ⟨cs, rfl, _⟩ := hv; exact ⟨cs, rfl⟩
    · obtain ⟨cs, rfl, _⟩ := hv; exact ⟨cs, rfl⟩
    · rename_i k1 k2
      split at ha
      · rename_i fs hu; exact absurd hu (k1 fs)
      · rename_i m e hu; exact absurd hu (k2 m e)
      · cases ha
  obtain ⟨l1, l2⟩ := h1.spec
  refine ⟨a, .a (by simpa [Value.cells] using l1) (fun u hu => ?_) (fun j u x hj hx => ?_), h2, h3⟩
  · obtain ⟨j, hj⟩ := List.getElem?_of_mem hu
    have hjl := (List.getElem?_eq_some_iff.1 hj).1
    have hx : (Value.cells (.agg cs)).toList[j]? = some (Value.cells (.agg cs)).toList[j] := List.getElem?_eq_getElem (by omega)
    exact (l2 j u _ hj hx).1
  · exact (l2 j u x hj (by simpa [Value.cells] using hx)).2
theorem ro_one {u : V} {cs : List Value} (h : RO W [u] cs) : ∃ c, cs = [c] ∧ Rep W allS u c := by
  match cs, h with
  | [c], h => exact ⟨c, rfl, h.1.2⟩
theorem Opn.arg1 {T base : Nat} {α : Type} {p : α → V} {ok : α → Prop} {sz : α → Nat} {v : Value} {d : DataW H} {ps : List MemPlace} (h : ∀ n, Opn enc P W n T (fun a => [p a]) ok sz) (ha : (match P.underlying T with | some .bool | some (.int _) | some .string | some (.slice _) => true | _ => false) = true) (hv : Value.okWide P W .any base T v) (ht : DataW.Trod enc P W 0 (fun _ => true) true T v d ps) :
    ∃ a, Rep W allS (p a) v ∧ ok a ∧ sz a ≤ Rows.uptoBulk d := by
  obtain ⟨n, hn⟩ := ht
  obtain ⟨a, h1, h2, h3⟩ := (h n).go _ _ hn
  have hc : v.cells = #[v] := by
    split at ha
    · rename_i hu; obtain ⟨b, rfl⟩ := okWide_bool hu hv; rfl
    · rename_i k hu; obtain ⟨b, rfl⟩ := okWide_int hu hv; rfl
    · rename_i hu; obtain ⟨b, rfl⟩ := okWide_string hu hv; rfl
    · rename_i e hu; obtain ⟨x, y, z, rfl⟩ := okWide_slice hu hv; rfl
    · cases ha
  rw [hc] at h1
  obtain ⟨c, hc', hr⟩ := ro_one h1
  simp at hc'
  subst hc'
  exact ⟨a, hr, h2, h3⟩
/-! ### Plain types -/
theorem Opn.u8 {n T : Nat} (hT : P.underlying T = some (.int .u8)) : Opn enc P W n T (fun b : UInt8 => [bK b]) (fun _ => True) (fun _ => 1) :=
  (Opn.int hT).map (fun z => UInt8.ofNat z.toNat) (fun z hz => by
    have h0 : IntKind.u8.min = 0 := rfl
    have h1 : IntKind.u8.max = 255 := rfl
    have e : (UInt8.ofNat z.toNat).toNat = z.toNat := UInt8.toNat_ofNat_of_lt (by show _ < 256; omega)
    have : ((z.toNat : Nat) : Int) = z := by omega
    simp only [bK, e, this]) (fun _ _ => trivial) fun _ _ => Nat.le_refl _
theorem Opn.u64 {n T : Nat} (hT : P.underlying T = some (.int .u64)) : Opn enc P W n T (fun b : UInt64 => [qK b]) (fun _ => True) (fun _ => 1) :=
  (Opn.int hT).map (fun z => UInt64.ofNat z.toNat) (fun z hz => by
    have h0 : IntKind.u64.min = 0 := rfl
    have h1 : IntKind.u64.max = 18446744073709551615 := rfl
    have e : (UInt64.ofNat z.toNat).toNat = z.toNat := UInt64.toNat_ofNat_of_lt (by show _ < 18446744073709551616; omega)
    have : ((z.toNat : Nat) : Int) = z := by omega
    simp only [qK, e, this]) (fun _ _ => trivial) fun _ _ => Nat.le_refl _
theorem Opn.i64 {n T : Nat} (hT : P.underlying T = some (.int .i64)) : Opn enc P W n T (fun z : Int => [.k (.int .i64 z)]) (fun z => -9223372036854775808 ≤ z ∧ z ≤ 9223372036854775807) (fun _ => 1) :=
  (Opn.int hT).map id (fun _ _ => rfl) (fun _ hz => hz) fun _ _ => Nat.le_refl _
theorem sum_map_one {α : Type} (l : List α) : (l.map fun _ => 1).sum = l.length := by induction l with
  | nil => rfl
  | cons a l ih => simp [ih]; omega
theorem flatMap_one {α : Type} (g : α → V) (l : List α) : l.flatMap (fun a => [g a]) = l.map g := by
  induction l with
  | nil => rfl
  | cons a l ih => rw [List.flatMap_cons, List.map_cons, ih]; rfl
/-- Bytes. -/
theorem Opn.bytes {n T e : Nat} (hT : P.underlying T = some (.slice e)) (hE : P.underlying e = some (.int .u8)) (hc : P.cellsOf e = 1) : Opn enc P W n T (fun l : List UInt8 => [.s none (l.map bK)]) (fun _ => True) (fun l => l.length + 1) :=
  (Opn.sl bK hT hc (by decide) (fun _ => rfl) (Opn.u8 hE)).map id (fun _ _ => rfl) (fun _ _ => trivial) fun l _ => by rw [sum_map_one]; exact Nat.le_refl _
theorem Opn.u64s {n T e : Nat} (hT : P.underlying T = some (.slice e)) (hE : P.underlying e = some (.int .u64)) (hc : P.cellsOf e = 1) : Opn enc P W n T (fun l : List UInt64 => [.s none (l.map qK)]) (fun _ => True) (fun l => l.length + 1) :=
  (Opn.sl qK hT hc (by decide) (fun _ => rfl) (Opn.u64 hE)).map id (fun _ _ => rfl) (fun _ _ => trivial) fun l _ => by rw [sum_map_one]; exact Nat.le_refl _
/-- An array of bytes, or of numbers. -/
theorem Opn.arr8 {n T e m : Nat} (hT : P.underlying T = some (.array m e)) (hE : P.underlying e = some (.int .u8)) (hc : P.cellsOf T = m * P.cellsOf e) : Opn enc P W n T (fun l : List UInt8 => l.map bK) (fun l => l.length = m) (fun l => l.length + 1) :=
  (Opn.ar hT hc (Opn.u8 hE)).map id (fun l _ => (flatMap_one bK l).symm) (fun _ h => h.1) fun l _ => by rw [sum_map_one]; exact Nat.le_refl _
theorem Opn.arr64 {n T e m : Nat} (hT : P.underlying T = some (.array m e)) (hE : P.underlying e = some (.int .u64)) (hc : P.cellsOf T = m * P.cellsOf e) : Opn enc P W n T (fun l : List UInt64 => l.map qK) (fun l => l.length = m) (fun l => l.length + 1) :=
  (Opn.ar hT hc (Opn.u64 hE)).map id (fun l _ => (flatMap_one qK l).symm) (fun _ h => h.1) fun l _ => by rw [sum_map_one]; exact Nat.le_refl _
end
end Lf
end Go.Proofs.YtgioofknlbdfjaaDoor

/- What the given statement tells of a number. -/
namespace Go.Proofs.YtgioofknlbdfjaaDoor
open Go.RowKit Rg Rp Go.WideShapes Go.ChangeShapes
namespace Lf
section
variable {H : Type} {enc : TypeId × Value → H} {W : World} {P : Program}
theorem opnU8 {T n : Nat} (hT : P.underlying T = some (.int .u8)) : Opn enc P W n T (fun x : Nat => [.k (.int .u8 ((x : Nat) : Int))]) (fun x => x < 256) (fun _ => 1) :=
  (Opn.u8 hT).map (fun b => b.toNat) (fun _ _ => rfl) (fun b _ => b.toNat_lt) fun _ _ => Nat.le_refl _
theorem opnU64 {T n : Nat} (hT : P.underlying T = some (.int .u64)) : Opn enc P W n T (fun x : Nat => [uK x]) (fun x => x < 18446744073709551616) (fun _ => 1) :=
  (Opn.u64 hT).map (fun b => b.toNat) (fun _ _ => rfl) (fun b _ => b.toNat_lt) fun _ _ => Nat.le_refl _
end
end Lf
end Go.Proofs.YtgioofknlbdfjaaDoor

/- What the given statement tells of seats and of votes. -/
namespace Go.Proofs.YtgioofknlbdfjaaDoor
open Go.RowKit Rg Rp Go.WideShapes Go.ChangeShapes
namespace Lf
section
variable {H : Type} {enc : TypeId × Value → H} {W : World}
theorem opnU64s (n : Nat) : Opn enc Tryd.prog W n 22 (fun l : List Nat => [.s none (l.map uK)]) (fun l => ∀ x ∈ l, x < 18446744073709551616) (fun l => l.length + 1) :=
  (Opn.sl (e := 23) (k := 1) uK (by kernel_rfl) (by kernel_rfl) (by decide) (fun _ => rfl) (opnU64 (by kernel_rfl))).map id (fun _ _ => rfl) (fun _ h => h) fun l _ => by rw [sum_map_one]; exact Nat.le_refl _
theorem opnHash (n : Nat) : Opn enc Tryd.prog W n 30 (fun l : List UInt8 => l.map bK) (fun l => l.length = 32) (fun l => l.length + 1) :=
  Opn.arr8 (m := 32) (e := 5) (by kernel_rfl) (by kernel_rfl) (by kernel_rfl)
theorem opnVote (n : Nat) : Opn enc Tryd.prog W n 37 St.voteC St.VoteOk (fun _ => 1) := by
  have h := Opn.st (T := 37) (n := n) (P := Tryd.prog) (enc := enc) (W := W) (fs := #[⟨"Seat", 23, 0, false, "", "", 0⟩, ⟨"Sum", 30, 1, false, "", "", 8⟩]) (by kernel_rfl) (by kernel_rfl)
    (OpnFs.cons (opnU64 (by kernel_rfl)) (OpnFs.cons (opnHash _) OpnFs.nil))
  refine h.map (fun x => (x.1, x.2.1)) (fun x _ => ?_) (fun x hx => ?_) (fun x _ => ?_)
  · simp only [St.voteC, List.append_nil, List.cons_append, List.nil_append]
  · exact ⟨hx.1, hx.2.1⟩
  · omega
theorem opnVotes (n : Nat) : Opn enc Tryd.prog W n 31 (fun l : List St.VoteT => [.s none (l.map St.voteV)]) (fun l => ∀ v ∈ l, St.VoteOk v) (fun l => l.length + 1) :=
  (Opn.sl (e := 37) (k := 33) St.voteV (by kernel_rfl) (by kernel_rfl) (by decide) (fun _ => rfl) (opnVote _)).map id (fun _ _ => rfl) (fun _ h => h) fun l _ => by rw [sum_map_one]; exact Nat.le_refl _
end
end Lf
end Go.Proofs.YtgioofknlbdfjaaDoor

/- SeatsMore: the law's function answers true at every input of bulk at most 1048576, and touches no old memory; from its walk to the given statement. Conditions: the statement's own bound, nothing else. -/
namespace Go.Proofs.YtgioofknlbdfjaaDoor.lawSeatsMore
open Go.ChangeShapes Go.WideShapes Go.ChangeAt Go.RowKit Rp
set_option linter.unusedVariables false

theorem own : ownKnob Tryd.prog.godebug = none := by kernel_rfl
theorem laid : laidOutB Tryd.prog = true := by kernel_rfl
theorem rd_x0 : Tryd.prog.readableRec 31 = true ∧ 31 < Tryd.prog.types.size := ⟨by kernel_rfl, of_decide_eq_true (by kernel_rfl)⟩
theorem rd_x1 : Tryd.prog.readableRec 22 = true ∧ 22 < Tryd.prog.types.size := ⟨by kernel_rfl, of_decide_eq_true (by kernel_rfl)⟩
theorem rd_x2 : Tryd.prog.readableRec 30 = true ∧ 30 < Tryd.prog.types.size := ⟨by kernel_rfl, of_decide_eq_true (by kernel_rfl)⟩
theorem rd_x3 : Tryd.prog.readableRec 23 = true ∧ 23 < Tryd.prog.types.size := ⟨by kernel_rfl, of_decide_eq_true (by kernel_rfl)⟩
theorem rds : ∀ t ∈ ([22, 23, 30, 31, 31] : List Nat), Tryd.prog.readableRec t = true ∧ t < Tryd.prog.types.size := by
  intro t ht
  rcases List.mem_cons.1 ht with rfl | ht
  · exact rd_x1
  rcases List.mem_cons.1 ht with rfl | ht
  · exact rd_x3
  rcases List.mem_cons.1 ht with rfl | ht
  · exact rd_x2
  rcases List.mem_cons.1 ht with rfl | ht
  · exact rd_x0
  rcases List.mem_cons.1 ht with rfl | ht
  · exact rd_x0
  cases ht

theorem tabs (W : World) (hL : laidMet Tryd.prog Rows.seatsMoreUptoRow.laid W) : Lf.TabAt W fun _ _ => True := by
  have h0 : Lib.TabIs Tryd.prog W "math/bits.deBruijn64tab" .u8 [0, 1, 56, 2, 57, 49, 28, 3, 61, 58, 42, 50, 38, 29, 17, 4, 62, 47, 59, 36, 45, 43, 51, 22, 53, 39, 33, 30, 24, 18, 12, 5, 63, 55, 48, 27, 60, 41, 37, 16, 46, 35, 44, 21, 52, 32, 23, 11, 54, 26, 40, 15, 34, 20, 31, 10, 25, 14, 19, 9, 13, 8, 7, 6] := Lib.tabIs_of_head (g := 0) (t := 68) (e := 5) (n := 64) (by kernel_rfl) (by kernel_rfl) (by kernel_rfl) (by kernel_rfl) (by kernel_rfl) (by kernel_rfl) hL
  intro n xs hn j x hx
  have hn' : (n, xs) ∈ [(0, ([0, 1, 56, 2, 57, 49, 28, 3, 61, 58, 42, 50, 38, 29, 17, 4, 62, 47, 59, 36, 45, 43, 51, 22, 53, 39, 33, 30, 24, 18, 12, 5, 63, 55, 48, 27, 60, 41, 37, 16, 46, 35, 44, 21, 52, 32, 23, 11, 54, 26, 40, 15, 34, 20, 31, 10, 25, 14, 19, 9, 13, 8, 7, 6] : List Int).map fun z => Value.int .u8 z)] := hn
  rw [List.mem_singleton] at hn'
  obtain ⟨rfl, rfl⟩ := Prod.mk.inj hn'
  have hj := (List.getElem?_eq_some_iff.1 hx).1
  rw [List.length_map] at hj
  have hc := h0.cell (g := 0) (by kernel_rfl) j hj
  have e : x = Value.int .u8 (([0, 1, 56, 2, 57, 49, 28, 3, 61, 58, 42, 50, 38, 29, 17, 4, 62, 47, 59, 36, 45, 43, 51, 22, 53, 39, 33, 30, 24, 18, 12, 5, 63, 55, 48, 27, 60, 41, 37, 16, 46, 35, 44, 21, 52, 32, 23, 11, 54, 26, 40, 15, 34, 20, 31, 10, 25, 14, 19, 9, 13, 8, 7, 6] : List Int).getD j 0) := by
    rw [List.getElem?_map, List.getElem?_eq_getElem hj] at hx
    rw [List.getD_eq_getElem?_getD, List.getElem?_eq_getElem hj]
    exact (Option.some.inj hx).symm
  rw [e]
  exact ⟨World.block_lt_of_cell? W ⟨0, j, none⟩ (by rw [hc]), trivial, hc⟩
theorem contract (H : Type) (enc : TypeId × Value → H) (W : World) (base : Nat) (args : Array Value) (ds gs : List (DataW H)) (before : List MemPlace)
    (hval : ∀ (j : Nat) t v, Tryd.f6.params[j]? = some t → args[j]? = some v → Value.okWide Tryd.prog W .any base t v)
    (hW : DataW.Whole enc Tryd.prog Tryd.f6.params.toList Rows.seatsMoreSpec.vars false W args.toList ds gs before) (hk : Rows.uptoSmall H (ds ++ gs) = true) (hL : laidMet Tryd.prog Rows.seatsMoreUptoRow.laid W) :
    Calls Tryd.prog 6 args W fun e W' => ∃ v, e = .returned v ∧ Rows.seatsMoreSpec.post enc Tryd.prog Tryd.f6 false true false false W args v W' := by
  have hW0 := hW
  obtain ⟨p, q, hA0, hV, rfl, hfz, hnd⟩ := hW
  have hA : DataW.TrodAll enc Tryd.prog W 0 (fun _ => true) true Tryd.f6.params.toList args.toList ds p := hA0
  rw [Tryd.params6] at hA hval
  obtain ⟨v0, vs0, d0, ds0, p0, q0, hargs, rfl, rfl, h0, r0⟩ := trodAll_cons hA
  obtain ⟨v1, vs1, d1, ds1, p1, q1, rfl, rfl, rfl, h1, r1⟩ := trodAll_cons r0
  obtain ⟨v2, vs2, d2, ds2, p2, q2, rfl, rfl, rfl, h2, r2⟩ := trodAll_cons r1
  obtain ⟨v3, vs3, d3, ds3, p3, q3, rfl, rfl, rfl, h3, r3⟩ := trodAll_cons r2
  obtain ⟨v4, vs4, d4, ds4, p4, q4, rfl, rfl, rfl, h4, r4⟩ := trodAll_cons r3
  obtain ⟨rfl, rfl, rfl⟩ := trodAll_nil r4
  obtain rfl : args = #[v0, v1, v2, v3, v4] := by cases args; simp_all
  obtain ⟨rfl, rfl⟩ := trodVars_none hV
  have hbulk : Rows.uptoBulkAll [d0, d1, d2, d3, d4] ≤ 1048576 := by simpa only [List.append_nil] using of_decide_eq_true hk
  simp only [Rows.uptoBulkAll] at hbulk
  obtain ⟨x0, hr0, hk0, hs0⟩ := Lf.Opn.arg1 (fun m => Lf.opnU64s m) (by kernel_rfl) (hval 0 22 v0 rfl rfl) h0
  obtain ⟨x1, hr1, hk1, hs1⟩ := Lf.Opn.arg1 (fun m => Lf.opnU64 (by kernel_rfl)) (by kernel_rfl) (hval 1 23 v1 rfl rfl) h1
  obtain ⟨x2, hr2, hk2, hs2⟩ := Lf.Opn.argA (fun m => Lf.opnHash m) (by kernel_rfl) (hval 2 30 v2 rfl rfl) h2
  obtain ⟨x3, hr3, hk3, hs3⟩ := Lf.Opn.arg1 (fun m => Lf.opnVotes m) (by kernel_rfl) (hval 3 31 v3 rfl rfl) h3
  obtain ⟨x4, hr4, hk4, hs4⟩ := Lf.Opn.arg1 (fun m => Lf.opnVotes m) (by kernel_rfl) (hval 4 31 v4 rfl rfl) h4
  refine (Lf.LF.holds (Lf.St.SeatsMore x0 x1 x2 x3 x4 hk0 (by omega) hk1 hk2 hk3 (by omega) hk4 (by omega)) W [v0, v1, v2, v3, v4] ⟨hr0, hr1, hr2, hr3, hr4, trivial⟩ (tabs W hL)).mono fun e W' ⟨he, hx⟩ => ⟨_, he, Fr.post_of_below laid hW0 rfl rfl (by rw [Tryd.params6]; exact rds) (tb := 4) rfl (by kernel_rfl) hx⟩

noncomputable def laidWorld (os : Os) : World :=
  { World.holding Tryd.prog os ⟨#[], #[], []⟩ with heap := ((World.holding Tryd.prog os ⟨#[], #[], []⟩).heap.modify 0 fun | .cells _ t frozen => .cells #[.int .u8 0, .int .u8 1, .int .u8 56, .int .u8 2, .int .u8 57, .int .u8 49, .int .u8 28, .int .u8 3, .int .u8 61, .int .u8 58, .int .u8 42, .int .u8 50, .int .u8 38, .int .u8 29, .int .u8 17, .int .u8 4, .int .u8 62, .int .u8 47, .int .u8 59, .int .u8 36, .int .u8 45, .int .u8 43, .int .u8 51, .int .u8 22, .int .u8 53, .int .u8 39, .int .u8 33, .int .u8 30, .int .u8 24, .int .u8 18, .int .u8 12, .int .u8 5, .int .u8 63, .int .u8 55, .int .u8 48, .int .u8 27, .int .u8 60, .int .u8 41, .int .u8 37, .int .u8 16, .int .u8 46, .int .u8 35, .int .u8 44, .int .u8 21, .int .u8 52, .int .u8 32, .int .u8 23, .int .u8 11, .int .u8 54, .int .u8 26, .int .u8 40, .int .u8 15, .int .u8 34, .int .u8 20, .int .u8 31, .int .u8 10, .int .u8 25, .int .u8 14, .int .u8 19, .int .u8 9, .int .u8 13, .int .u8 8, .int .u8 7, .int .u8 6] t frozen | o => o) }
theorem laid_met (os : Os) : laidMet Tryd.prog Rows.seatsMoreUptoRow.laid ((laidWorld os).forCall (fun _ _ => 0) ⟨#[], #[.slice none 0 0, .int .u64 0, .agg #[.int .u8 0, .int .u8 0, .int .u8 0, .int .u8 0, .int .u8 0, .int .u8 0, .int .u8 0, .int .u8 0, .int .u8 0, .int .u8 0, .int .u8 0, .int .u8 0, .int .u8 0, .int .u8 0, .int .u8 0, .int .u8 0, .int .u8 0, .int .u8 0, .int .u8 0, .int .u8 0, .int .u8 0, .int .u8 0, .int .u8 0, .int .u8 0, .int .u8 0, .int .u8 0, .int .u8 0, .int .u8 0, .int .u8 0, .int .u8 0, .int .u8 0, .int .u8 0], .slice none 0 0, .slice none 0 0], []⟩).memory :=
  laidMet_of_run' 8 (by kernel_rfl) (by kernel_rfl)
theorem reads (os : Os) {H : Type} (enc : TypeId × Value → H) : ∃ places, DataW.whole enc Tryd.prog ((laidWorld os).forCall (fun _ _ => 0) ⟨#[], #[.slice none 0 0, .int .u64 0, .agg #[.int .u8 0, .int .u8 0, .int .u8 0, .int .u8 0, .int .u8 0, .int .u8 0, .int .u8 0, .int .u8 0, .int .u8 0, .int .u8 0, .int .u8 0, .int .u8 0, .int .u8 0, .int .u8 0, .int .u8 0, .int .u8 0, .int .u8 0, .int .u8 0, .int .u8 0, .int .u8 0, .int .u8 0, .int .u8 0, .int .u8 0, .int .u8 0, .int .u8 0, .int .u8 0, .int .u8 0, .int .u8 0, .int .u8 0, .int .u8 0, .int .u8 0, .int .u8 0], .slice none 0 0, .slice none 0 0], []⟩).memory Tryd.f6.params.toList Rows.seatsMoreSpec.vars false (#[.slice none 0 0, .int .u64 0, .agg #[.int .u8 0, .int .u8 0, .int .u8 0, .int .u8 0, .int .u8 0, .int .u8 0, .int .u8 0, .int .u8 0, .int .u8 0, .int .u8 0, .int .u8 0, .int .u8 0, .int .u8 0, .int .u8 0, .int .u8 0, .int .u8 0, .int .u8 0, .int .u8 0, .int .u8 0, .int .u8 0, .int .u8 0, .int .u8 0, .int .u8 0, .int .u8 0, .int .u8 0, .int .u8 0, .int .u8 0, .int .u8 0, .int .u8 0, .int .u8 0, .int .u8 0, .int .u8 0], .slice none 0 0, .slice none 0 0] : Array Value).toList 8 = some ([.nil, .lit (.int .u64 0), .agg [.lit (.int .u8 0), .lit (.int .u8 0), .lit (.int .u8 0), .lit (.int .u8 0), .lit (.int .u8 0), .lit (.int .u8 0), .lit (.int .u8 0), .lit (.int .u8 0), .lit (.int .u8 0), .lit (.int .u8 0), .lit (.int .u8 0), .lit (.int .u8 0), .lit (.int .u8 0), .lit (.int .u8 0), .lit (.int .u8 0), .lit (.int .u8 0), .lit (.int .u8 0), .lit (.int .u8 0), .lit (.int .u8 0), .lit (.int .u8 0), .lit (.int .u8 0), .lit (.int .u8 0), .lit (.int .u8 0), .lit (.int .u8 0), .lit (.int .u8 0), .lit (.int .u8 0), .lit (.int .u8 0), .lit (.int .u8 0), .lit (.int .u8 0), .lit (.int .u8 0), .lit (.int .u8 0), .lit (.int .u8 0)], .nil, .nil], [], places) :=
  ⟨[], by kernel_rfl⟩
set_option maxRecDepth 100000 in
theorem lifted (os : Os) (started : os.Started) (H : Type) (enc : TypeId × Value → H) (F : Stop.Interp) :
    ReturnsInHanded {} Tryd.checked os 6 .any ((Rows.OpenSpec.upto Rows.seatsMoreSpec).preRow enc Tryd.prog Tryd.f6 Rows.seatsMoreUptoRow.domain false Rows.seatsMoreUptoRow.laid) (((Rows.OpenSpec.upto Rows.seatsMoreSpec).at F).post enc Tryd.prog Tryd.f6 false true false false) := by
  obtain ⟨places, hx⟩ := reads os enc
  refine returnsInHanded_of_row (C := Tryd.checked) (s := Rows.OpenSpec.upto Rows.seatsMoreSpec) own started (by kernel_rfl) Tryd.func6
    (witness_row_at (enc := enc) (C := Tryd.checked) false (laidWorld os) #[.slice none 0 0, .int .u64 0, .agg #[.int .u8 0, .int .u8 0, .int .u8 0, .int .u8 0, .int .u8 0, .int .u8 0, .int .u8 0, .int .u8 0, .int .u8 0, .int .u8 0, .int .u8 0, .int .u8 0, .int .u8 0, .int .u8 0, .int .u8 0, .int .u8 0, .int .u8 0, .int .u8 0, .int .u8 0, .int .u8 0, .int .u8 0, .int .u8 0, .int .u8 0, .int .u8 0, .int .u8 0, .int .u8 0, .int .u8 0, .int .u8 0, .int .u8 0, .int .u8 0, .int .u8 0, .int .u8 0], .slice none 0 0, .slice none 0 0] rfl (by kernel_rfl) (by kernel_rfl) (by kernel_rfl)
      (OpenSpec.preRow_of_cond 8 hx (by kernel_rfl) (fun k hk => by cases hk; kernel_rfl) (by kernel_rfl) (laid_met os))) ?_
  intro W base args ds gs before hval hW _ hcond _ hL _ _
  exact contract H enc W base args ds gs before hval hW (hcond _ rfl) hL
theorem said : Rows.SeatsMoreUptoSaid :=
  OpenClaim.holds_of_cond 6 Tryd.f6 rfl rfl rfl rfl rfl rfl rfl ⟨rfl, rfl, rfl, rfl, rfl⟩ rfl rfl rfl rfl rfl (by kernel_rfl) Tryd.func6 (by kernel_rfl)
    (of_decide_eq_true (by kernel_rfl)) (by unfold Func.isWrapper; first | (rw [if_pos (by decide +kernel)]; kernel_rfl) | (rw [if_neg (by decide +kernel)]; exact ⟨rfl, rfl⟩))
    (fun os started H enc _ F => by rw [OpenClaim.pre_eq_preRow]; exact lifted os started H enc F)
theorem plain (f : FuncId) (fn : Func) (hf : Tryd.pinned.checked.prog.funcNamed "lampbearer/lampbearerkeep.SeatsMore" = some f) (hfn : Tryd.pinned.checked.prog.funcs[f]? = some fn) :
    false = Tryd.pinned.checked.prog.looks [] ∧ ∀ (j : Nat) t, fn.params[j]? = some t → Tryd.pinned.checked.prog.wantsStandIn t = false := by
  obtain rfl : f = 6 := Option.some.inj ((show Tryd.prog.funcNamed "lampbearer/lampbearerkeep.SeatsMore" = some 6 by kernel_rfl).symm.trans hf) |>.symm
  obtain rfl : fn = Tryd.f6 := (Option.some.inj (Tryd.func6.symm.trans hfn)).symm
  refine ⟨by kernel_rfl, fun j t ht => ?_⟩
  rw [Tryd.params6] at ht
  have hm : t ∈ [22, 23, 30, 31, 31] := by simpa using Array.mem_of_getElem? ht
  have ha : ∀ t ∈ ([22, 23, 30, 31, 31] : List Nat), Tryd.prog.wantsStandIn t = false := by
    intro t ht
    rcases List.mem_cons.1 ht with rfl | ht
    · exact (show Tryd.prog.wantsStandIn 22 = false by kernel_rfl)
    rcases List.mem_cons.1 ht with rfl | ht
    · exact (show Tryd.prog.wantsStandIn 23 = false by kernel_rfl)
    rcases List.mem_cons.1 ht with rfl | ht
    · exact (show Tryd.prog.wantsStandIn 30 = false by kernel_rfl)
    rcases List.mem_cons.1 ht with rfl | ht
    · exact (show Tryd.prog.wantsStandIn 31 = false by kernel_rfl)
    rcases List.mem_cons.1 ht with rfl | ht
    · exact (show Tryd.prog.wantsStandIn 31 = false by kernel_rfl)
    cases ht
  exact ha t hm
/-- The card. -/
theorem proved : Rows.SeatsMoreUptoCardSaid :=
  Claim7.holds_tied_plain_at .later [] _ _ _ _ said (fun _ h => by cases h) (by kernel_rfl) (fun _ h => by cases h) seatsMoreUpto_row_tie rfl ⟨rfl, rfl⟩ (by kernel_rfl) rfl plain (by kernel_rfl)
end Go.Proofs.YtgioofknlbdfjaaDoor.lawSeatsMore

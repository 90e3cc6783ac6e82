/- Arrays of integers compared. -/
import Derived.Test.YtgeccggkdgpkiaaWMath
import Derived.Laws.StructEq
namespace Go.Proofs.Ytgeccggkdgpkiaa
open Go.RowKit Rp Rg Ops Mm Ar Wm
namespace Eq'
section
variable {P : Program}
theorem run_part {e : TypeId} {d : TypeDesc} (hd : P.underlying e = some d) (hna : isRow d = false) (hs : (P.info? e).map (·.size) = some 1) {cs : Array Value} {i : Nat} {v : Value} (hv : cs[i]? = some v) (w : World) :
    (part e cs i).run P w = .ok v w := by
  cases hq : P.info? e with
  | none => simp [hq] at hs
  | some inf =>
    have hsz : inf.size = 1 := by simpa [hq] using hs
    have hagg : (isAgg e).run P w = .ok false w := by
      unfold isAgg
      rw [Sem.run_bind, run_underlying hd w]
      cases d <;> simp_all [isRow]
    simp [part, sizeOf, typeInfo, hq, hsz, hagg, hv, Sem.run_bind]

theorem run_equalIn {t e n : Nat} {k : IntKind} (d : Nat) (hin : ∀ a b w, (Op.equalIn d e (.int k a) (.int k b)).run P w = .ok (a == b) w) (hu : P.underlying t = some (.array n e)) (he : P.underlying e = some (.int k)) (hs : (P.info? e).map (·.size) = some 1) {xs ys : Array Value} {f g : Nat → Int}
    (hx : ∀ i, i < n → xs[i]? = some (.int k (f i))) (hy : ∀ i, i < n → ys[i]? = some (.int k (g i))) (w : World) :
    (Op.equalIn (d + 1) t (.agg xs) (.agg ys)).run P w = .ok ((List.range n).all fun i => f i == g i) w := by
  have hsz : (sizeOf e).run P w = .ok 1 w := by
    cases hq : P.info? e with
    | none => simp [hq] at hs
    | some inf =>
      have hsz : inf.size = 1 := by simpa [hq] using hs
      simp [sizeOf, typeInfo, hq, hsz]
  simp only [Op.equalIn, Sem.run_bind, run_underlying hu, Result.andThen_ok, hsz, Nat.mul_one, Std.Legacy.Range.forIn_eq_forIn_range', Std.Legacy.Range.size]
  have hl : ∀ i ∈ List.range' 0 n 1, i < n := fun i hi => by simpa using hi
  rw [show (n - 0 + 1 - 1) / 1 = n from by simp, List.range_eq_range']
  generalize List.range' 0 n 1 = l at hl
  clear hsz
  induction l with
  | nil => simp
  | cons i l ih =>
    have hi := hl i (by simp)
    simp only [List.forIn_cons, Sem.run_bind, run_part he rfl hs (hx i hi), run_part he rfl hs (hy i hi), Result.andThen_ok, hin]
    by_cases h : (f i == g i) = true
    · simp only [h, Bool.not_true, Bool.false_eq_true, if_false, Sem.run_pure, Result.andThen_ok, List.all_cons, Bool.true_and]
      exact ih fun j hj => hl j (by simp [hj])
    · have h' : (f i == g i) = false := by simpa using h
      simp [h', List.all_cons]
/-- Two arrays of n integers. -/
theorem run_eql {t e n : Nat} {k : IntKind} (hu : P.underlying t = some (.array n e)) (he : P.underlying e = some (.int k)) (hs : (P.info? e).map (·.size) = some 1) {xs ys : Array Value} {f g : Nat → Int}
    (hx : ∀ i, i < n → xs[i]? = some (.int k (f i))) (hy : ∀ i, i < n → ys[i]? = some (.int k (g i))) (w : World) :
    (binOp .eql t (.agg xs) (.agg ys)).run P w = .ok (.bool ((List.range n).all fun i => f i == g i)) w := by
  rw [run_eql_struct]
  have h := run_equalIn 9999 (fun a b w => run_equalIn_int w 9998 e k k a b he) hu he hs hx hy w
  exact congrArg (fun r => Result.andThen r fun b w' => Result.ok (Value.bool b) w') h
theorem run_neq {t e n : Nat} {k : IntKind} (hu : P.underlying t = some (.array n e)) (he : P.underlying e = some (.int k)) (hs : (P.info? e).map (·.size) = some 1) {xs ys : Array Value} {f g : Nat → Int}
    (hx : ∀ i, i < n → xs[i]? = some (.int k (f i))) (hy : ∀ i, i < n → ys[i]? = some (.int k (g i))) (w : World) :
    (binOp .neq t (.agg xs) (.agg ys)).run P w = .ok (.bool (!((List.range n).all fun i => f i == g i))) w := by
  rw [run_neq_struct]
  have h := run_equalIn 9999 (fun a b w => run_equalIn_int w 9998 e k k a b he) hu he hs hx hy w
  exact congrArg (fun r => Result.andThen r fun b w' => Result.ok (Value.bool (!b)) w') h
end

/-- Words compared. -/
theorem wordEq (x y : Nat) : ((List.range 4).all fun i => ((limb x i : Nat) : Int) == ((limb y i : Nat) : Int)) = decide (x % M256 = y % M256) := by
  rw [Bool.eq_iff_iff, List.all_eq_true, decide_eq_true_iff]
  constructor
  · intro h
    refine word_ext (Nat.mod_lt _ M256_pos) (Nat.mod_lt _ M256_pos) fun i hi => ?_
    rw [M256, limb_mod x i 4 hi, limb_mod y i 4 hi]
    have := h i (List.mem_range.2 hi)
    rw [beq_iff_eq] at this
    omega
  · intro h i hi
    have hi := List.mem_range.1 hi
    rw [beq_iff_eq]
    congr 1
    rw [← limb_mod x i 4 hi, ← limb_mod y i 4 hi]
    rw [M256] at h
    rw [h]
theorem eqlW (x y : Nat) (w : World) : (binOp .eql 61 (.agg (wordA x)) (.agg (wordA y))).run Try.prog w = .ok (.bool (decide (x % M256 = y % M256))) w := by
  rw [run_eql (P := Try.prog) (t := 61) (e := 22) (n := 4) (k := .u64) (by kernel_rfl) (by kernel_rfl) (by kernel_rfl) (wordA_get x) (wordA_get y), wordEq]
/-- The empty word, as it is built. -/
theorem zeroW : (#[.int .u64 0, .int .u64 0, .int .u64 0, .int .u64 0] : Array Value) = wordA 0 := by
  have : wordA 0 = arr 4 fun _ => u64V 0 := arr_ext fun i hi => by simp [limb]
  rw [this]; rfl
end Eq'
end Go.Proofs.Ytgeccggkdgpkiaa

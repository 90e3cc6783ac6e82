/- Walks of package word: product, Mul. -/
import Derived.Test.YtpecjhjpdaifoaaWord1
namespace Go.Proofs.Ytpecjhjpdaifoaa
open Go.RowKit Rp Rg Ops Mm Ar Wm
namespace Wd
theorem agg8 : Agg Try.prog 54 8 := ⟨⟨.array 8 22, by kernel_rfl, rfl⟩, by kernel_rfl⟩
/-- The eight parts of a product. -/
def wideA (x : Nat) : Array Value := arr 8 fun i => u64V (limb x i)

theorem inner_sum {f : Nat → Nat} {x y k j c P L Q : Nat} (h : val f 8 + c * m64 ^ (k + j) = x % m64 ^ k * y + limb x k * (y % m64 ^ j) * m64 ^ k) (hP : P = limb x k * limb y j + f (k + j) + c)
    (hL : L = P % m64) (hQ : Q = P / m64) (hk : k + j < 8) :
    val (fun i => if i = k + j then L else f i) 8 + Q * m64 ^ (k + (j + 1)) = x % m64 ^ k * y + limb x k * (y % m64 ^ (j + 1)) * m64 ^ k := by
  have h1 := val_set (f := f) (n := 8) (k := k + j) L hk
  have h2 := Nat.mod_add_div P m64
  rw [← hL, ← hQ] at h2
  have e1 : y % m64 ^ (j + 1) = y % m64 ^ j + m64 ^ j * limb y j := by rw [Nat.pow_succ, Nat.mod_mul]; rfl
  have e2 : m64 ^ (k + (j + 1)) = m64 * m64 ^ (k + j) := by rw [← Nat.add_assoc, Nat.pow_succ, Nat.mul_comm]
  have e3 : limb x k * (m64 ^ j * limb y j) * m64 ^ k = limb x k * limb y j * m64 ^ (k + j) := by rw [Nat.pow_add]; ac_rfl
  rw [e1, e2, Nat.mul_add, Nat.add_mul, e3]
  have e4 : P * m64 ^ (k + j) = L * m64 ^ (k + j) + Q * (m64 * m64 ^ (k + j)) := by rw [← h2, Nat.add_mul]; ac_rfl
  rw [hP, Nat.add_mul, Nat.add_mul] at e4
  omega

theorem product (x y : Nat) (hx : x < M256) (hy : y < M256) (w : World) : Calls Try.prog 47 #[.agg (wordA x), .agg (wordA y)] w fun e w' => e = .returned (.agg (wideA (x * y))) ∧ Ext w w' := by
  go_enter Try.func47, Try.ntmps47
  have s1 := ((((St.start w).alloc (wordA x) 24).alloc' (wordA y) 24 (w.heap.size + 1) (by simp)).alloc' (arr 8 fun _ => u64V 0) 54 (w.heap.size + 1 + 1) (by simp)).alloc' (arr 8 fun _ => u64V 0) 54 (w.heap.size + 1 + 1 + 1) (by simp)
  go_wp2_with (first
    | refine ldAll aggW rfl _ rfl (by rfl) (s1.at 3 rfl) (by rfl) ?_)
  go_loopw [15] (fun c wr => ∃ k : Nat, k ≤ 4 ∧ c = .int .i64 k ∧
      St w wr [(w.heap.size + 1 + 1 + 1, 54, arr 8 fun i => u64V (limb (x % m64 ^ k * y) i)), (w.heap.size + 1 + 1, 54, arr 8 fun _ => u64V 0), (w.heap.size + 1, 24, wordA y), (w.heap.size, 24, wordA x)]) (fun i _ => 4 - (intOf i).toNat)
  case atStart =>
    refine ⟨0, by omega, rfl, ?_⟩
    have e : (arr 8 fun i => u64V (limb (x % m64 ^ 0 * y) i)) = arr 8 fun _ => u64V 0 := arr_ext fun i hi => by simp [Nat.mod_one, limb]
    rw [e]; exact s1
  case round =>
    obtain ⟨k, hk, rfl, st⟩ := hrel
    by_cases hlt : k < 4
    · have ak := run_idx (P := Try.prog) (t := 24) (e := 22) (n := 4) (d := .int .u64) (by kernel_rfl) (by kernel_rfl) rfl (by kernel_rfl) hlt (wordA_get x k hlt) .i64

      go_wp2_with (first
        | refine ldAll aggW rfl _ rfl (by rfl) (st.at 2 rfl) (by rfl) ?_)
      go_loopw [8, 20] (fun c jv wr => ∃ (j c' : Nat) (f : Nat → Nat), j ≤ 4 ∧ jv = .int .i64 j ∧ c = .int .u64 (c' : Int) ∧ c' < m64 ∧ (∀ i, i < 8 → f i < m64) ∧ (∀ i, k + 4 ≤ i → i < 8 → f i = 0) ∧
        val f 8 + c' * m64 ^ (k + j) = x % m64 ^ k * y + limb x k * (y % m64 ^ j) * m64 ^ k ∧
        St w wr [(w.heap.size + 1 + 1 + 1, 54, arr 8 fun i => u64V (f i)), (w.heap.size + 1 + 1, 54, arr 8 fun _ => u64V 0), (w.heap.size + 1, 24, wordA y), (w.heap.size, 24, wordA x)]) (fun _ i _ => 4 - (intOf i).toNat)
      case atStart => 
        have hV : x % m64 ^ k * y < m64 ^ (k + 4) := by
          rw [Nat.pow_add]
          exact Nat.mul_lt_mul_of_lt_of_lt (Nat.mod_lt _ (pow_pos' k)) hy
        refine ⟨0, 0, limb (x % m64 ^ k * y), by omega, rfl, rfl, m64_pos, fun i _ => limb_lt _ _, fun i h1 h2 => ?_, ?_, st⟩
        · unfold limb
          rw [Nat.div_eq_of_lt (Nat.lt_of_lt_of_le hV (Nat.pow_le_pow_right m64_pos h1))]
          rfl
        · rw [val_limb, Nat.mod_eq_of_lt (Nat.lt_of_lt_of_le hV (Nat.pow_le_pow_right m64_pos (by omega))), Nat.pow_zero, Nat.mod_one]
          simp
      case round =>
        obtain ⟨j, c, f, hj, rfl, rfl, hc, hf, hz, hv, st⟩ := hrel
        by_cases hlj : j < 4
        · have aj := run_idx (P := Try.prog) (t := 24) (e := 22) (n := 4) (d := .int .u64) (by kernel_rfl) (by kernel_rfl) rfl (by kernel_rfl) hlj (wordA_get y j hlj) .i64
          have c1 : wr.cell? ⟨w.heap.size + 1 + 1 + 1, k + j, none⟩ = some (.int .u64 (f (k + j) : Int)) := st.cell 0 rfl (k + j) (arr_get 8 _ (k + j) (by omega))
          have f1 := st.frozen 0 rfl (k + j)
          have m1 := Mul64 (limb x k) (limb y j) (limb_lt _ _) (limb_lt _ _)
          have A1 := Lib.hid hv
          clear hv
          have hp := hf (k + j) (by omega)
          have slt := step_lt (limb_lt x k) (limb_lt y j) hp hc
          have slo := step_lo (limb x k) (limb y j) (f (k + j)) c
          have shi := step_hi (limb x k) (limb y j) (f (k + j)) c
          have a1 := Add64 (limb x k * limb y j % m64) (f (k + j)) 0 (by omega)
          have a2 := Add64 ((limb x k * limb y j % m64 + f (k + j)) % m64) c 0 (by omega)
          have e0 : ((0 : Nat) : Int) = 0 := rfl
          simp only [Nat.add_zero, e0] at a1 a2
          clear e0
          obtain ⟨P, hP⟩ : ∃ P, P = limb x k * limb y j + f (k + j) + c := ⟨_, rfl⟩
          rw [← hP] at slt slo shi
          generalize limb x k * limb y j / m64 = H0 at m1 shi
          generalize limb x k * limb y j % m64 = L0 at m1 a1 a2 slo shi
          generalize (L0 + f (k + j)) / m64 = C1 at a1 shi
          generalize (L0 + f (k + j)) % m64 = L1 at a1 a2 slo shi
          generalize (L1 + c) / m64 = C2 at a2 shi
          generalize (L1 + c) % m64 = L2 at a2 slo
          have S := Lib.hid (And.intro slo shi)
          clear slo shi
          go_wp2_with (first
            | (go_at_call 54
               refine (m1 _).mono ?_
               rintro e w1 ⟨rfl, rfl⟩))
          go_roundw
          case rel =>
            have hs := S.out
            have hlt2 : H0 + C1 + C2 < m64 := by rw [hs.2]; exact Nat.div_lt_of_lt_mul slt
            refine ⟨j + 1, H0 + C1 + C2, fun i => if i = k + j then L2 else f i, by omega, by simp, ?_, hlt2, fun i hi => ?_, fun i h1 h2 => ?_, ?_, st.setFn 0 rfl (k + j) _ (fun i hi => ?_) rfl⟩
            · rw [IntKind.wrap_u64, IntKind.wrap_u64]
              unfold m64 at hlt2
              congr 1
              omega
            · simp only
              split
              · rw [hs.1]; exact Nat.mod_lt _ m64_pos
              · exact hf i hi
            · simp only
              rw [if_neg (by omega)]
              exact hz i h1 h2
            · exact inner_sum A1.out hP hs.1 hs.2 (by omega)
            · by_cases h : i = k + j
              · simp [h, u64V]
              · simp [h, u64V]
          case measure => simp [intOf]; omega
        · obtain rfl : j = 4 := by omega
          have c1 : wr.cell? ⟨w.heap.size + 1 + 1 + 1, k + 4, none⟩ = some (.int .u64 (f (k + 4) : Int)) := st.cell 0 rfl (k + 4) (arr_get 8 _ (k + 4) (by omega))
          have f1 := st.frozen 0 rfl (k + 4)
          have A1 := Lib.hid hv
          clear hv
          go_wp2
          go_roundw
          case rel =>
            refine ⟨k + 1, by omega, by simp, ?_⟩
            have hval : val (fun i => if i = k + 4 then c else f i) 8 = x % m64 ^ (k + 1) * y := by
              have h1 := val_set (f := f) (n := 8) (k := k + 4) c (by omega)
              have h2 := A1.out
              rw [hz (k + 4) (by omega) (by omega), Nat.zero_mul, Nat.add_zero] at h1
              rw [h1, h2, Nat.mod_eq_of_lt (show y < m64 ^ 4 from hy), Nat.pow_succ, Nat.mod_mul, Nat.add_mul]
              unfold limb
              ac_rfl
            refine st.setFn 0 rfl (k + 4) _ (fun i hi => ?_) rfl
            have hlt8 : ∀ i, i < 8 → (fun i => if i = k + 4 then c else f i) i < m64 := fun i hi => by
              simp only
              split
              · exact hc
              · exact hf i hi
            rw [← hval, limb_val hlt8 hi]
            by_cases h : i = k + 4
            · simp [h, u64V]
            · simp [h, u64V]
          case measure => simp [intOf]; omega
    · obtain rfl : k = 4 := by omega
      have e : (arr 8 fun i => u64V (limb (x % m64 ^ 4 * y) i)) = wideA (x * y) := by
        rw [Nat.mod_eq_of_lt (show x < m64 ^ 4 from hx)]; rfl
      rw [e] at st
      have s2 := st.setRow 1 rfl (wideA (x * y))
      go_wp2_with (first
        | refine ldAll agg8 rfl _ rfl (by rfl) (st.at 0 rfl) (by rfl) ?_
        | refine stAll agg8 (vs := wideA (x * y)) rfl _ _ rfl (by rfl) (by rfl) (st.at 1 rfl) (by rfl) (by rfl) (arr_mem fun _ _ => rfl) ?_)
      go_wp2
      refine bodyPost_ret (v := .agg _) (ret_cell agg8 rfl rfl (s2.at 1 rfl) rfl) rfl ⟨rfl, s2.below⟩

theorem wide_low (x : Nat) : (wideA x).extract 0 (0 + 4) = wordA x := by
  unfold wideA wordA arr
  simp [List.range_succ_eq_map]

theorem Mul (x y : Nat) (w : World) : Calls Try.prog 27 #[.agg (wordA x), .agg (wordA y)] w fun e w' => e = .returned (.agg (wordA (x * y))) ∧ Ext w w' := by
  have hr : wordA (x * y) = wordA (x % M256 * (y % M256)) := wordA_eq (by rw [Nat.mul_mod])
  rw [hr, ← wordA_mod x, ← wordA_mod y]
  have hx := Nat.mod_lt x M256_pos
  have hy := Nat.mod_lt y M256_pos
  generalize x % M256 = X at *
  generalize y % M256 = Y at *
  clear hr
  have hp := product X Y hx hy
  have hlow := Lib.hid (wide_low (X * Y))
  have hat := fun g => run_arrayAt (P := Try.prog) (t := 24) (n := 4) (e := 22) (by kernel_rfl) g 0 4 8 (by omega)
  go_enter Try.func27, Try.ntmps27
  have s1 := (((St.start w).alloc (wordA X) 24).alloc' (wordA Y) 24 (w.heap.size + 1) (by simp)).alloc' (arr 4 fun _ => u64V 0) 24 (w.heap.size + 1 + 1) (by simp)
  go_wp2_with (first
    | refine ldAll aggW rfl _ rfl (by rfl) (s1.at 2 rfl) (by rfl) ?_
    | refine ldAll aggW rfl _ rfl (by rfl) (s1.at 1 rfl) (by rfl) ?_
    | (go_at_call 47
       refine (hp _).mono ?_
       rintro e w1 ⟨rfl, hw1⟩
       have s2 := (s1.ext hw1).alloc (arr 8 fun _ => .int .u64 0) 54
       have s3 := s2.setRow 0 rfl (wideA (X * Y))
       have s4 := s3.setRow 1 rfl (wordA (X * Y)))
    | refine stAll agg8 (vs := wideA (X * Y)) rfl _ _ rfl (by rfl) (by rfl) (s2.at 0 rfl) (by rfl) (by rfl) (arr_mem fun _ _ => rfl) ?_
    | (refine ld aggW rfl _ rfl (by rfl) (s3.at 0 rfl) (by simp [wideA, arr_size]) ?_; rw [hlow.out])
    | refine stAll aggW (vs := wordA (X * Y)) rfl _ _ rfl (by rfl) (by rfl) (s3.at 1 rfl) (by rfl) (by rfl) (wordA_mem _) ?_)
  go_wp2
  refine bodyPost_ret (v := .agg _) (ret_cell aggW rfl rfl (s4.at 1 rfl) rfl) rfl ⟨rfl, s4.below⟩
end Wd
end Go.Proofs.Ytpecjhjpdaifoaa

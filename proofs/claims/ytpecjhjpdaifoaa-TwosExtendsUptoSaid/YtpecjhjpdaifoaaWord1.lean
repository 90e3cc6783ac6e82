/- Walks of package word: Add, Sub, Cmp. -/
import Derived.Test.YtpecjhjpdaifoaaWord
namespace Go.Proofs.Ytpecjhjpdaifoaa
open Go.RowKit Rp Rg Ops Mm Ar Wm
namespace Wd
theorem Add (x y : Nat) (w : World) : Calls Try.prog 30 #[.agg (wordA x), .agg (wordA y)] w fun e w' => e = .returned (.agg (wordA (x + y))) ∧ Ext w w' := by
  go_enter Try.func30, Try.ntmps30
  have s1 := (((St.start w).alloc (wordA x) 24).alloc' (wordA y) 24 (w.heap.size + 1) (by simp)).alloc' (arr 4 fun _ => u64V 0) 24 (w.heap.size + 1 + 1) (by simp)
  go_wp2_with (first
    | refine ldAll aggW rfl _ rfl (by rfl) (s1.at 2 rfl) (by rfl) ?_
    | refine ldAll aggW rfl _ rfl (by rfl) (s1.at 1 rfl) (by rfl) ?_
    | (go_at_call 49
       refine (sum x y _).mono ?_
       rintro e w1 ⟨rfl, hw1⟩
       have s2 := (s1.ext hw1).alloc (arr 4 fun _ => .int .u64 0) 24
       have s3 := s2.setRow 0 rfl (wordA (x + y))
       have s4 := s3.setRow 1 rfl (wordA (x + y)))
    | refine stAll aggW (vs := wordA (x + y)) rfl _ _ rfl (by rfl) (by rfl) (s2.at 0 rfl) (by rfl) (by rfl) (wordA_mem _) ?_
    | refine ldAll aggW rfl _ rfl (by rfl) (s3.at 0 rfl) (by rfl) ?_
    | refine stAll aggW (vs := wordA (x + y)) rfl _ _ rfl (by rfl) (by rfl) (s3.at 1 rfl) (by rfl) (by rfl) (wordA_mem _) ?_)
  go_wp2
  refine bodyPost_ret (v := .agg _) (ret_cell aggW rfl rfl (s4.at 1 rfl) rfl) rfl ⟨rfl, s4.below⟩

theorem Sub (x y : Nat) (w : World) : Calls Try.prog 33 #[.agg (wordA x), .agg (wordA y)] w fun e w' => e = .returned (.agg (wordA (dif x y))) ∧ Ext w w' := by
  go_enter Try.func33, Try.ntmps33
  go_wp2
  have s1 := ((((St.start w).alloc (wordA x) 24).alloc' (wordA y) 24 (w.heap.size + 1) (by simp)).alloc' (arr 4 fun _ => u64V 0) 24 (w.heap.size + 1 + 1) (by simp)).alloc' (arr 4 fun _ => u64V 0) 24 (w.heap.size + 1 + 1 + 1) (by simp)
  go_loopw [6, 8] (fun c i wr => ∃ k : Nat, k ≤ 4 ∧ i = .int .i64 k ∧ c = .int .u64 (borrow x y k : Int) ∧
      St w wr [(w.heap.size + 1 + 1 + 1, 24, arr 4 fun i => u64V (if i < k then limb (dif x y) i else 0)), (w.heap.size + 1 + 1, 24, arr 4 fun _ => u64V 0), (w.heap.size + 1, 24, wordA y), (w.heap.size, 24, wordA x)]) (fun _ i _ => 4 - (intOf i).toNat)
  case atStart => exact ⟨0, by omega, rfl, by rw [borrow_zero]; rfl, s1⟩
  case round =>
    obtain ⟨k, hk, rfl, rfl, st⟩ := hrel
    by_cases hlt : k < 4
    · have a1 := st.cell 3 rfl k (wordA_get x k hlt)
      have a2 := st.cell 2 rfl k (wordA_get y k hlt)
      go_wp2
      refine Rf.region (· ≠ w.heap.size + 1 + 1 + 1) [([0, 1, 2, 3, 4, 5, 6, 7], 8), ([9, 10, 11, 12], 13)] [14] [] (by kernel_rfl) (by kernel_rfl) fun w' hw' => ?_
      have st' := st.ext hw'
      have b1 := Rf.later (F := (· ≠ w.heap.size + 1 + 1 + 1)) (st'.cell 3 rfl k (wordA_get x k hlt)) (by simp; omega)
      have b2 := Rf.later (F := (· ≠ w.heap.size + 1 + 1 + 1)) (st'.cell 2 rfl k (wordA_get y k hlt)) (by simp)
      have c3 := st'.cell 0 rfl k (arr_get 4 _ k hlt)
      have f3 := st'.frozen 0 rfl k
      have hc := Sub64 (limb x k) (limb y k) (borrow x y k) (borrow_le x y k)
      rw [sub_limb x y k hlt, sub_borrow] at hc
      simp only [Rf.walk, Rg.pick, Rg.nth, List.map_cons, List.map_nil]
      repeat (go_big_quiet_step (fail))
      refine wpQuiet_nil ?_
      go_wp2
      refine ⟨Rf.Ext.refl _, ?_⟩
      repeat (go_big_quiet_step (fail))
      refine wpQuiet_nil ?_
      go_wp2
      refine ⟨Rf.Ext.setCell _ _ _ (by simp), ?_⟩
      repeat (go_big_quiet_step (fail))
      refine wpQuiet_nil ?_
      go_wp2
      go_roundw
      case rel =>
        refine ⟨k + 1, by omega, by simp, rfl, ?_⟩
        exact st'.setFn 0 rfl k _ (fun i hi => grow_at (u64V) (limb (dif x y)) 0 k i) rfl
      case measure => simp [intOf]; omega
    · obtain rfl : k = 4 := by omega
      have e : (arr 4 fun i => u64V (if i < 4 then limb (dif x y) i else 0)) = wordA (dif x y) := arr_ext fun i hi => by rw [if_pos hi]
      rw [e] at st
      have s2 := st.setRow 1 rfl (wordA (dif x y))
      go_wp2_with (first
        | refine ldAll aggW rfl _ rfl (by rfl) (st.at 0 rfl) (by rfl) ?_
        | refine stAll aggW (vs := wordA (dif x y)) rfl _ _ rfl (by rfl) (by rfl) (st.at 1 rfl) (by rfl) (by rfl) (wordA_mem _) ?_)
      go_wp2
      refine bodyPost_ret (v := .agg _) (ret_cell aggW rfl rfl (s2.at 1 rfl) rfl) rfl ⟨rfl, s2.below⟩

/-- -1, 0 or 1. -/
def cmp (x y : Nat) : Int := if x % M256 < y % M256 then -1 else if y % M256 < x % M256 then 1 else 0
theorem cmp_step {x y k : Nat} (h : x / m64 ^ (k + 1) = y / m64 ^ (k + 1)) : (limb x k < limb y k ↔ x / m64 ^ k < y / m64 ^ k) ∧ (x / m64 ^ k = y / m64 ^ k ↔ limb x k = limb y k) := by
  unfold limb
  rw [Nat.pow_succ, ← Nat.div_div_eq_div_mul, ← Nat.div_div_eq_div_mul] at h
  generalize x / m64 ^ k = A at *
  generalize y / m64 ^ k = B at *
  have := Nat.div_add_mod A m64
  have := Nat.div_add_mod B m64
  rw [h] at *
  omega

theorem Cmp (x y : Nat) (w : World) : Calls Try.prog 23 #[.agg (wordA x), .agg (wordA y)] w fun e w' => e = .returned (.int .i64 (cmp x y)) ∧ Ext w w' := by
  obtain ⟨X, hX, hXe, hXl⟩ : ∃ X, wordA x = wordA X ∧ x % M256 = X ∧ X < M256 := ⟨x % M256, (wordA_mod x).symm, rfl, Nat.mod_lt _ M256_pos⟩
  obtain ⟨Y, hY, hYe, hYl⟩ : ∃ Y, wordA y = wordA Y ∧ y % M256 = Y ∧ Y < M256 := ⟨y % M256, (wordA_mod y).symm, rfl, Nat.mod_lt _ M256_pos⟩
  obtain ⟨c, hc⟩ : ∃ c, c = cmp x y := ⟨_, rfl⟩
  rw [hX, hY, ← hc]
  have clt : X < Y → c = -1 := fun h => by rw [hc, cmp, hXe, hYe, if_pos h]
  have cgt : Y < X → c = 1 := fun h => by rw [hc, cmp, hXe, hYe, if_neg (by omega), if_pos h]
  have ceq : X = Y → c = 0 := fun h => by rw [hc, cmp, hXe, hYe, if_neg (by omega), if_neg (by omega)]
  clear hX hY hXe hYe hc
  go_enter Try.func23, Try.ntmps23
  have s1 := ((St.start w).alloc (wordA X) 24).alloc' (wordA Y) 24 (w.heap.size + 1) (by simp)
  go_wp2
  go_loopw [5] (fun i wr => ∃ (k : Nat) (z : Int), k ≤ 4 ∧ z = (k : Int) - 1 ∧ i = .int .i64 z ∧ X / m64 ^ k = Y / m64 ^ k ∧
      St w wr [(w.heap.size + 1, 24, wordA Y), (w.heap.size, 24, wordA X)]) (fun i _ => (intOf i + 1).toNat)
  case atStart =>
    refine ⟨4, 3, by omega, rfl, rfl, ?_, s1⟩
    rw [Nat.div_eq_of_lt (by exact hXl), Nat.div_eq_of_lt (by exact hYl)]
  case round =>
    obtain ⟨k, z, hk, hz, rfl, he, st⟩ := hrel
    cases k with
    | zero =>
      have hxy : X = Y := by simpa using he
      obtain rfl : z = -1 := by omega
      clear hz
      go_wp2
      go_ret
      exact ⟨by rw [ceq hxy]; rfl, st.below⟩
    | succ k =>
      have C := Lib.hid (cmp_step he)
      obtain rfl : z = (k : Int) := by omega
      clear hz
      go_wp2
      refine Rg.region [] [0, 1, 2, 3, 4, 5, 6, 7] [] (by kernel_rfl) (by kernel_rfl) fun w' hw' => ?_
      have st' := st.ext hw'
      have b1 := Rg.later (st'.cell 1 rfl k (wordA_get X k (by omega)))
      have b2 := Rg.later (st'.cell 0 rfl k (wordA_get Y k (by omega)))
      simp only [Rg.walk, Rg.pick, Rg.nth, List.map_nil]
      repeat (go_big_quiet_step (fail))
      refine wpQuiet_nil ?_
      by_cases h1 : limb X k < limb Y k
      · have : X < Y := by
          refine Nat.lt_of_not_le fun h => ?_
          have := Nat.div_le_div_right (c := m64 ^ k) h
          have := C.out.1.1 h1
          omega
        have hd : decide (limb X k < limb Y k) = true := by simpa using h1
        go_wp2
        go_ret
        exact ⟨by rw [clt this]; rfl, st'.below⟩
      · have hd : decide (limb X k < limb Y k) = false := by simpa using h1
        go_wp2
        refine Rg.region [] [0, 1, 2, 3, 4, 5, 6, 7] [] (by kernel_rfl) (by kernel_rfl) fun w2 hw2 => ?_
        have st2 := st'.ext hw2
        have b1 := Rg.later (st2.cell 1 rfl k (wordA_get X k (by omega)))
        have b2 := Rg.later (st2.cell 0 rfl k (wordA_get Y k (by omega)))
        simp only [Rg.walk, Rg.pick, Rg.nth, List.map_nil]
        repeat (go_big_quiet_step (fail))
        refine wpQuiet_nil ?_
        by_cases h2 : limb Y k < limb X k
        · have : Y < X := by
            refine Nat.lt_of_not_le fun h => ?_
            have h3 := Nat.div_le_div_right (c := m64 ^ k) h
            have h4 := C.out
            have h5 : X / m64 ^ k ≠ Y / m64 ^ k := fun h => by have := h4.2.1 h; omega
            have := h4.1.2 (by omega)
            omega
          have hd2 : decide (limb Y k < limb X k) = true := by simpa using h2
          go_wp2
          go_ret
          exact ⟨by rw [cgt this]; rfl, st2.below⟩
        · have hd2 : decide (limb Y k < limb X k) = false := by simpa using h2
          go_wp2
          go_roundw
          case rel => exact ⟨k, (k : Int) - 1, by omega, rfl, rfl, C.out.2.2 (by omega), st2⟩
          case measure => simp [intOf]
end Wd
end Go.Proofs.Ytpecjhjpdaifoaa

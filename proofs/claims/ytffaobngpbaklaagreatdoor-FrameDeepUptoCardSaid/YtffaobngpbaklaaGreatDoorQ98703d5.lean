/- A part of the proof: texts joined. -/
import Derived.Shelf.Bits.Mul64
import Derived.Test.YtffaobngpbaklaaGreatDoorQ776f27a
import Derived.Test.YtffaobngpbaklaaGreatDoorQ803a69d
set_option linter.unusedVariables false
set_option linter.unusedSimpArgs false
namespace Go.Proofs.YtffaobngpbaklaaGreatDoor
open Go.RowKit Rp Rg Ops Mm Ar Wm
namespace Wd
theorem aggW : Agg Tryz.prog 36 4 := ⟨⟨.array 4 23, by kernel_rfl, rfl⟩, by kernel_rfl⟩
theorem Add64 (x y c : Nat) (hc : c ≤ 1) (w : World) : (callFunc 70 #[.int .u64 (x : Int), .int .u64 (y : Int), .int .u64 (c : Int)]).run Tryz.prog w =
  .ok (.value (.tuple #[.int .u64 (((x + y + c) % m64 : Nat) : Int), .int .u64 (((x + y + c) / m64 : Nat) : Int)])) w := by
 rw [run_callFunc_extern (e := add64Entry) Tryz.func70 (by kernel_rfl) (by kernel_rfl) (by kernel_rfl) (by kernel_rfl)]
 rw [run_add64 _ _ _ (by omega) (by omega) (by omega) (by omega)]
 simp [Result.andThen, m64]
theorem grow_at {α : Type} (V : α → Value) (f : Nat → α) (z : α) (k i : Nat) : V (if i < k + 1 then f i else z) = if i = k then V (f k) else V (if i < k then f i else z) := by
 by_cases h : i = k
 ·subst h; simp
 ·rw [if_neg h]
  by_cases h2 : i < k
  ·rw [if_pos h2, if_pos (Nat.lt_succ_of_lt h2)]
  ·rw [if_neg h2, if_neg (by omega)]
theorem word_small (n : Nat) (h0 : n < m64) : wordA n = #[.int .u64 (n : Int), .int .u64 0, .int .u64 0, .int .u64 0] := by
 simp only [wordA, arr, List.range_succ_eq_map, List.range_zero, List.map_cons, List.map_nil, u64V]
 have e0 : limb n 0 = n := by simp [limb, Nat.mod_eq_of_lt h0]
 have e : ∀ k, limb n (k + 1) = 0 := fun k => by
  unfold limb
  rw [Nat.div_eq_of_lt (Nat.lt_of_lt_of_le h0 (by rw [Nat.pow_succ]; exact Nat.le_mul_of_pos_left _ (pow_pos' k)))]
  simp
 simp [e0, e]
theorem IntW (n : Nat) (hn : n < m64) (w : World) : Calls Tryz.prog 29 #[.int .u64 (n : Int)] w fun e w' => e = .returned (.agg (wordA n)) ∧ Ext w w' := by
 have hz := word_small n hn
 have HZ := Lib.hid hz
 clear hz
 have s1 := (St.start w).alloc (arr 4 fun _ => .int .u64 0) 36
 have s2 := s1.setRow 0 rfl #[.int .u64 (n : Int), .int .u64 0, .int .u64 0, .int .u64 0]
 go_enter Tryz.func29, Tryz.ntmps29
 go_wp2_with (refine stAll aggW (vs := #[.int .u64 (n : Int), .int .u64 0, .int .u64 0, .int .u64 0]) rfl _ _ rfl (by rfl) (by rfl) (s1.at 0 rfl) (by rfl) (by rfl) (by simp [Value.oneCell']) ?_)
 go_wp2
 refine bodyPost_ret (v := .agg _) (ret_cell aggW rfl rfl (s2.at 0 rfl) rfl) rfl ⟨by rw [HZ.out], s2.below⟩
theorem sum (x y : Nat) (w : World) : Calls Tryz.prog 49 #[.agg (wordA x), .agg (wordA y)] w fun e w' => e = .returned (.tuple #[.agg (wordA (x + y)), .int .u64 (carry x y 4 : Int)]) ∧ Ext w w' := by
  have hadd := fun k => Add64 (limb x k) (limb y k) (carry x y k) (carry_le x y k)
  simp only [sum_limb, sum_carry] at hadd
  go_enter Tryz.func49, Tryz.ntmps49
  go_wp2
  have s1 := (((St.start w).alloc (wordA x) 36).alloc' (wordA y) 36 (w.heap.size + 1) (by simp)).alloc' (arr 4 fun _ => u64V 0) 36 (w.heap.size + 1 + 1) (by simp)
  go_loopw [5, 7] (fun c i wr => ∃ k : Nat, k ≤ 4 ∧ i = .int .i64 k ∧ c = .int .u64 (carry x y k : Int) ∧
      St w wr [(w.heap.size + 1 + 1, 36, arr 4 fun i => u64V (if i < k then limb (x + y) i else 0)), (w.heap.size + 1, 36, wordA y), (w.heap.size, 36, wordA x)]) (fun _ i _ => 4 - (intOf i).toNat)
  case atStart => exact ⟨0, by omega, rfl, by rw [carry_zero]; rfl, s1⟩
  case round =>
    obtain ⟨k, hk, rfl, rfl, st⟩ := hrel
    by_cases hlt : k < 4
    · have a1 := st.cell 2 rfl k (wordA_get x k hlt)
      have a2 := st.cell 1 rfl k (wordA_get y k hlt)
      go_wp2
      refine Rf.region (· ≠ w.heap.size + 1 + 1) [([0, 1, 2, 3, 4, 5, 6, 7], 8), ([9, 10, 11, 12], 13)] [14] [] (by kernel_rfl) (by kernel_rfl) fun w' hw' => ?_
      have st' := st.ext hw'
      have b1 := Rf.later (F := (· ≠ w.heap.size + 1 + 1)) (st'.cell 2 rfl k (wordA_get x k hlt)) (by simp; omega)
      have b2 := Rf.later (F := (· ≠ w.heap.size + 1 + 1)) (st'.cell 1 rfl k (wordA_get y k hlt)) (by simp)
      have c3 := st'.cell 0 rfl k (arr_get 4 _ k hlt)
      have f3 := st'.frozen 0 rfl k
      have hc := hadd k
      simp only [Rf.walk, Rg.pick, Rg.nth, List.map_cons, List.map_nil]
      repeat (go_big_quiet_step (fail))
      refine wpQuiet_nil ?_
      go_wp2
      refine ⟨Rf.Ext.refl _, ?_⟩
      repeat (go_big_quiet_step (fail))
      refine wpQuiet_nil ?_
      go_wp2
      refine ⟨Rf.Ext.setCell _ _ _ (by simp), ?_⟩
      repeat (go_big_quiet_step (fail))
      refine wpQuiet_nil ?_
      go_wp2
      go_roundw
      case rel =>
        refine ⟨k + 1, by omega, by simp, rfl, ?_⟩
        exact st'.setFn 0 rfl k _ (fun i hi => grow_at (u64V) (limb (x + y)) 0 k i) rfl
      case measure => simp [intOf]; omega
    · obtain rfl : k = 4 := by omega
      have e : (arr 4 fun i => u64V (if i < 4 then limb (x + y) i else 0)) = wordA (x + y) := arr_ext fun i hi => by rw [if_pos hi]
      rw [e] at st
      have s2 := st.setRow 0 rfl (wordA (x + y))
      go_wp2_with (first
        | refine ldAll aggW rfl _ rfl (by rfl) (st.at 0 rfl) (by rfl) ?_
        | refine stAll aggW (vs := wordA (x + y)) rfl _ _ rfl (by rfl) (by rfl) (st.at 0 rfl) (by rfl) (by rfl) (wordA_mem _) ?_)
      go_wp2
      refine bodyPost_ret (v := .tuple #[.agg (wordA (x + y)), .int .u64 (carry x y 4 : Int)]) (ret_two rfl (slot_cell aggW rfl (s2.at 0 rfl) (by rfl)) (slot_tmp rfl)) rfl ⟨rfl, s2.below⟩
def sub64Entry : Array Value → Sem Value := fun args => do
 let (x, y, b) ← Extern.MathBitsCarry.three "Sub64" args
 pure (Extern.MathBitsCarry.pair ((x + Extern.MathBitsCarry.m64 - y - b) % Extern.MathBitsCarry.m64) (if x < y + b then 1 else 0))
theorem run_sub64 {P : Program} (x y c : Nat) (hc : c ≤ 1) (w : World) : (sub64Entry #[.int .u64 x, .int .u64 y, .int .u64 c]).run P w =
  .ok (.tuple #[.int .u64 ((x + m64 - y - c) % m64 : Nat), .int .u64 ((if x < y + c then 1 else 0 : Nat) : Int)]) w := by
 have : c = 0 ∨ c = 1 := by omega
 rcases this with rfl | rfl <;> rfl
theorem Sub64 (x y c : Nat) (hc : c ≤ 1) (w : World) : (callFunc 51 #[.int .u64 (x : Int), .int .u64 (y : Int), .int .u64 (c : Int)]).run Tryz.prog w =
  .ok (.value (.tuple #[.int .u64 (((x + m64 - y - c) % m64 : Nat) : Int), .int .u64 ((if x < y + c then 1 else 0 : Nat) : Int)])) w := by
 rw [run_callFunc_extern (e := sub64Entry) Tryz.func51 (by kernel_rfl) (by kernel_rfl) (by kernel_rfl) (by kernel_rfl)]
 rw [run_sub64 _ _ _ hc]
 simp [Result.andThen]
set_option maxHeartbeats 1000000 in
theorem Mul64 (x y : Nat) (hx : x < m64) (hy : y < m64) (w : World) :
  Calls Tryz.prog 59 #[.int .u64 x, .int .u64 y] w fun e w' => e = .returned (.tuple #[.int .u64 ((x * y / m64 : Nat) : Int), .int .u64 ((x * y % m64 : Nat) : Int)]) ∧ w' = w := by
 unfold m64 at *
 obtain ⟨bd, bt, bw, hhi⟩ := Lib.mul64_hi x y hx hy
 have ba := Lib.half_mul_le (a := x / 4294967296) (b := y / 4294967296) (by omega) (by omega)
 have bb := Lib.half_mul_le (a := x / 4294967296) (b := y % 4294967296) (by omega) (by omega)
 have bc := Lib.half_mul_le (a := x % 4294967296) (b := y / 4294967296) (by omega) (by omega)
 have ba' : x / 4294967296 * (y / 4294967296) < 18446744073709551616 := by omega
 have bb' : x / 4294967296 * (y % 4294967296) < 18446744073709551616 := by omega
 have bc' : x % 4294967296 * (y / 4294967296) < 18446744073709551616 := by omega
 have bh1 : x / 4294967296 * (y / 4294967296) + (x / 4294967296 * (y % 4294967296) + x % 4294967296 * (y % 4294967296) / 4294967296) / 4294967296 < 18446744073709551616 := by omega
 have bh : x / 4294967296 * (y / 4294967296) + (x / 4294967296 * (y % 4294967296) + x % 4294967296 * (y % 4294967296) / 4294967296) / 4294967296 + ((x / 4294967296 * (y % 4294967296) + x % 4294967296 * (y % 4294967296) / 4294967296) % 4294967296 + x % 4294967296 * (y / 4294967296)) / 4294967296 < 18446744073709551616 := by omega
 go_enter Tryz.func59, Tryz.ntmps59
 go_wp2
 simp only [Mul64.maskN x hx, Mul64.maskN y hy, Mul64.divN, Mul64.mulN, Mul64.addN, Mul64.wrapN _ bd, Mul64.wrapN _ bb', Mul64.wrapN _ bt, Mul64.maskN _ bt, Mul64.wrapN _ bc', Mul64.wrapN _ bw, Mul64.wrapN _ ba', Mul64.wrapN _ bh1, Mul64.wrapN _ bh, Mul64.wrapM (x * y)]
 rw [hhi]
 go_ret2
 exact ⟨rfl, rfl⟩
end Wd
open Go.RowKit Rp Rg Ops Mm Ar Wm
namespace Wd
theorem Add (x y : Nat) (w : World) : Calls Tryz.prog 30 #[.agg (wordA x), .agg (wordA y)] w fun e w' => e = .returned (.agg (wordA (x + y))) ∧ Ext w w' := by
  go_enter Tryz.func30, Tryz.ntmps30
  have s1 := (((St.start w).alloc (wordA x) 36).alloc' (wordA y) 36 (w.heap.size + 1) (by simp)).alloc' (arr 4 fun _ => u64V 0) 36 (w.heap.size + 1 + 1) (by simp)
  go_wp2_with (first
    | refine ldAll aggW rfl _ rfl (by rfl) (s1.at 2 rfl) (by rfl) ?_
    | refine ldAll aggW rfl _ rfl (by rfl) (s1.at 1 rfl) (by rfl) ?_
    | (go_at_call 49
       refine (sum x y _).mono ?_
       rintro e w1 ⟨rfl, hw1⟩
       have s2 := (s1.ext hw1).alloc (arr 4 fun _ => .int .u64 0) 36
       have s3 := s2.setRow 0 rfl (wordA (x + y))
       have s4 := s3.setRow 1 rfl (wordA (x + y)))
    | refine stAll aggW (vs := wordA (x + y)) rfl _ _ rfl (by rfl) (by rfl) (s2.at 0 rfl) (by rfl) (by rfl) (wordA_mem _) ?_
    | refine ldAll aggW rfl _ rfl (by rfl) (s3.at 0 rfl) (by rfl) ?_
    | refine stAll aggW (vs := wordA (x + y)) rfl _ _ rfl (by rfl) (by rfl) (s3.at 1 rfl) (by rfl) (by rfl) (wordA_mem _) ?_)
  go_wp2
  refine bodyPost_ret (v := .agg _) (ret_cell aggW rfl rfl (s4.at 1 rfl) rfl) rfl ⟨rfl, s4.below⟩
theorem Sub (x y : Nat) (w : World) : Calls Tryz.prog 32 #[.agg (wordA x), .agg (wordA y)] w fun e w' => e = .returned (.agg (wordA (dif x y))) ∧ Ext w w' := by
  go_enter Tryz.func32, Tryz.ntmps32
  go_wp2
  have s1 := ((((St.start w).alloc (wordA x) 36).alloc' (wordA y) 36 (w.heap.size + 1) (by simp)).alloc' (arr 4 fun _ => u64V 0) 36 (w.heap.size + 1 + 1) (by simp)).alloc' (arr 4 fun _ => u64V 0) 36 (w.heap.size + 1 + 1 + 1) (by simp)
  go_loopw [6, 8] (fun c i wr => ∃ k : Nat, k ≤ 4 ∧ i = .int .i64 k ∧ c = .int .u64 (borrow x y k : Int) ∧
      St w wr [(w.heap.size + 1 + 1 + 1, 36, arr 4 fun i => u64V (if i < k then limb (dif x y) i else 0)), (w.heap.size + 1 + 1, 36, arr 4 fun _ => u64V 0), (w.heap.size + 1, 36, wordA y), (w.heap.size, 36, wordA x)]) (fun _ i _ => 4 - (intOf i).toNat)
  case atStart => exact ⟨0, by omega, rfl, by rw [borrow_zero]; rfl, s1⟩
  case round =>
    obtain ⟨k, hk, rfl, rfl, st⟩ := hrel
    by_cases hlt : k < 4
    · have a1 := st.cell 3 rfl k (wordA_get x k hlt)
      have a2 := st.cell 2 rfl k (wordA_get y k hlt)
      go_wp2
      refine Rf.region (· ≠ w.heap.size + 1 + 1 + 1) [([0, 1, 2, 3, 4, 5, 6, 7], 8), ([9, 10, 11, 12], 13)] [14] [] (by kernel_rfl) (by kernel_rfl) fun w' hw' => ?_
      have st' := st.ext hw'
      have b1 := Rf.later (F := (· ≠ w.heap.size + 1 + 1 + 1)) (st'.cell 3 rfl k (wordA_get x k hlt)) (by simp; omega)
      have b2 := Rf.later (F := (· ≠ w.heap.size + 1 + 1 + 1)) (st'.cell 2 rfl k (wordA_get y k hlt)) (by simp)
      have c3 := st'.cell 0 rfl k (arr_get 4 _ k hlt)
      have f3 := st'.frozen 0 rfl k
      have hc := Sub64 (limb x k) (limb y k) (borrow x y k) (borrow_le x y k)
      rw [sub_limb x y k hlt, sub_borrow] at hc
      simp only [Rf.walk, Rg.pick, Rg.nth, List.map_cons, List.map_nil]
      repeat (go_big_quiet_step (fail))
      refine wpQuiet_nil ?_
      go_wp2
      refine ⟨Rf.Ext.refl _, ?_⟩
      repeat (go_big_quiet_step (fail))
      refine wpQuiet_nil ?_
      go_wp2
      refine ⟨Rf.Ext.setCell _ _ _ (by simp), ?_⟩
      repeat (go_big_quiet_step (fail))
      refine wpQuiet_nil ?_
      go_wp2
      go_roundw
      case rel =>
        refine ⟨k + 1, by omega, by simp, rfl, ?_⟩
        exact st'.setFn 0 rfl k _ (fun i hi => grow_at (u64V) (limb (dif x y)) 0 k i) rfl
      case measure => simp [intOf]; omega
    · obtain rfl : k = 4 := by omega
      have e : (arr 4 fun i => u64V (if i < 4 then limb (dif x y) i else 0)) = wordA (dif x y) := arr_ext fun i hi => by rw [if_pos hi]
      rw [e] at st
      have s2 := st.setRow 1 rfl (wordA (dif x y))
      go_wp2_with (first
        | refine ldAll aggW rfl _ rfl (by rfl) (st.at 0 rfl) (by rfl) ?_
        | refine stAll aggW (vs := wordA (dif x y)) rfl _ _ rfl (by rfl) (by rfl) (st.at 1 rfl) (by rfl) (by rfl) (wordA_mem _) ?_)
      go_wp2
      refine bodyPost_ret (v := .agg _) (ret_cell aggW rfl rfl (s2.at 1 rfl) rfl) rfl ⟨rfl, s2.below⟩
theorem cmp_step {x y k : Nat} (h : x / m64 ^ (k + 1) = y / m64 ^ (k + 1)) : (limb x k < limb y k ↔ x / m64 ^ k < y / m64 ^ k) ∧ (x / m64 ^ k = y / m64 ^ k ↔ limb x k = limb y k) := by
 unfold limb
 rw [Nat.pow_succ, ← Nat.div_div_eq_div_mul, ← Nat.div_div_eq_div_mul] at h
 generalize x / m64 ^ k = A at *
 generalize y / m64 ^ k = B at *
 have := Nat.div_add_mod A m64
 have := Nat.div_add_mod B m64
 rw [h] at *
 omega
theorem Cmp (x y : Nat) (w : World) : Calls Tryz.prog 35 #[.agg (wordA x), .agg (wordA y)] w fun e w' => e = .returned (.int .i64 (cmp x y)) ∧ Ext w w' := by
  obtain ⟨X, hX, hXe, hXl⟩ : ∃ X, wordA x = wordA X ∧ x % M256 = X ∧ X < M256 := ⟨x % M256, (wordA_mod x).symm, rfl, Nat.mod_lt _ M256_pos⟩
  obtain ⟨Y, hY, hYe, hYl⟩ : ∃ Y, wordA y = wordA Y ∧ y % M256 = Y ∧ Y < M256 := ⟨y % M256, (wordA_mod y).symm, rfl, Nat.mod_lt _ M256_pos⟩
  obtain ⟨c, hc⟩ : ∃ c, c = cmp x y := ⟨_, rfl⟩
  rw [hX, hY, ← hc]
  have clt : X < Y → c = -1 := fun h => by rw [hc, cmp, hXe, hYe, if_pos h]
  have cgt : Y < X → c = 1 := fun h => by rw [hc, cmp, hXe, hYe, if_neg (by omega), if_pos h]
  have ceq : X = Y → c = 0 := fun h => by rw [hc, cmp, hXe, hYe, if_neg (by omega), if_neg (by omega)]
  clear hX hY hXe hYe hc
  go_enter Tryz.func35, Tryz.ntmps35
  have s1 := ((St.start w).alloc (wordA X) 36).alloc' (wordA Y) 36 (w.heap.size + 1) (by simp)
  go_wp2
  go_loopw [5] (fun i wr => ∃ (k : Nat) (z : Int), k ≤ 4 ∧ z = (k : Int) - 1 ∧ i = .int .i64 z ∧ X / m64 ^ k = Y / m64 ^ k ∧
      St w wr [(w.heap.size + 1, 36, wordA Y), (w.heap.size, 36, wordA X)]) (fun i _ => (intOf i + 1).toNat)
  case atStart =>
    refine ⟨4, 3, by omega, rfl, rfl, ?_, s1⟩
    rw [Nat.div_eq_of_lt (by exact hXl), Nat.div_eq_of_lt (by exact hYl)]
  case round =>
    obtain ⟨k, z, hk, hz, rfl, he, st⟩ := hrel
    cases k with
    | zero =>
      have hxy : X = Y := by simpa using he
      obtain rfl : z = -1 := by omega
      clear hz
      go_wp2
      go_ret
      exact ⟨by rw [ceq hxy]; rfl, st.below⟩
    | succ k =>
      have C := Lib.hid (cmp_step he)
      obtain rfl : z = (k : Int) := by omega
      clear hz
      go_wp2
      refine Rg.region [] [0, 1, 2, 3, 4, 5, 6, 7] [] (by kernel_rfl) (by kernel_rfl) fun w' hw' => ?_
      have st' := st.ext hw'
      have b1 := Rg.later (st'.cell 1 rfl k (wordA_get X k (by omega)))
      have b2 := Rg.later (st'.cell 0 rfl k (wordA_get Y k (by omega)))
      simp only [Rg.walk, Rg.pick, Rg.nth, List.map_nil]
      repeat (go_big_quiet_step (fail))
      refine wpQuiet_nil ?_
      by_cases h1 : limb X k < limb Y k
      · have : X < Y := by
          refine Nat.lt_of_not_le fun h => ?_
          have := Nat.div_le_div_right (c := m64 ^ k) h
          have := C.out.1.1 h1
          omega
        have hd : decide (limb X k < limb Y k) = true := by simpa using h1
        go_wp2
        go_ret
        exact ⟨by rw [clt this]; rfl, st'.below⟩
      · have hd : decide (limb X k < limb Y k) = false := by simpa using h1
        go_wp2
        refine Rg.region [] [0, 1, 2, 3, 4, 5, 6, 7] [] (by kernel_rfl) (by kernel_rfl) fun w2 hw2 => ?_
        have st2 := st'.ext hw2
        have b1 := Rg.later (st2.cell 1 rfl k (wordA_get X k (by omega)))
        have b2 := Rg.later (st2.cell 0 rfl k (wordA_get Y k (by omega)))
        simp only [Rg.walk, Rg.pick, Rg.nth, List.map_nil]
        repeat (go_big_quiet_step (fail))
        refine wpQuiet_nil ?_
        by_cases h2 : limb Y k < limb X k
        · have : Y < X := by
            refine Nat.lt_of_not_le fun h => ?_
            have h3 := Nat.div_le_div_right (c := m64 ^ k) h
            have h4 := C.out
            have h5 : X / m64 ^ k ≠ Y / m64 ^ k := fun h => by have := h4.2.1 h; omega
            have := h4.1.2 (by omega)
            omega
          have hd2 : decide (limb Y k < limb X k) = true := by simpa using h2
          go_wp2
          go_ret
          exact ⟨by rw [cgt this]; rfl, st2.below⟩
        · have hd2 : decide (limb Y k < limb X k) = false := by simpa using h2
          go_wp2
          go_roundw
          case rel => exact ⟨k, (k : Int) - 1, by omega, rfl, rfl, C.out.2.2 (by omega), st2⟩
          case measure => simp [intOf]
end Wd
open Go.RowKit Rp Rg Ops Mm Ar Wm
namespace Wd
theorem agg8 : Agg Tryz.prog 86 8 := ⟨⟨.array 8 23, by kernel_rfl, rfl⟩, by kernel_rfl⟩
def wideA (x : Nat) : Array Value := arr 8 fun i => u64V (limb x i)
theorem inner_sum {f : Nat → Nat} {x y k j c P L Q : Nat} (h : val f 8 + c * m64 ^ (k + j) = x % m64 ^ k * y + limb x k * (y % m64 ^ j) * m64 ^ k) (hP : P = limb x k * limb y j + f (k + j) + c)
  (hL : L = P % m64) (hQ : Q = P / m64) (hk : k + j < 8) :
  val (fun i => if i = k + j then L else f i) 8 + Q * m64 ^ (k + (j + 1)) = x % m64 ^ k * y + limb x k * (y % m64 ^ (j + 1)) * m64 ^ k := by
 have h1 := val_set (f := f) (n := 8) (k := k + j) L hk
 have h2 := Nat.mod_add_div P m64
 rw [← hL, ← hQ] at h2
 have e1 : y % m64 ^ (j + 1) = y % m64 ^ j + m64 ^ j * limb y j := by rw [Nat.pow_succ, Nat.mod_mul]; rfl
 have e2 : m64 ^ (k + (j + 1)) = m64 * m64 ^ (k + j) := by rw [← Nat.add_assoc, Nat.pow_succ, Nat.mul_comm]
 have e3 : limb x k * (m64 ^ j * limb y j) * m64 ^ k = limb x k * limb y j * m64 ^ (k + j) := by rw [Nat.pow_add]; ac_rfl
 rw [e1, e2, Nat.mul_add, Nat.add_mul, e3]
 have e4 : P * m64 ^ (k + j) = L * m64 ^ (k + j) + Q * (m64 * m64 ^ (k + j)) := by rw [← h2, Nat.add_mul]; ac_rfl
 rw [hP, Nat.add_mul, Nat.add_mul] at e4
 omega
theorem product (x y : Nat) (hx : x < M256) (hy : y < M256) (w : World) : Calls Tryz.prog 50 #[.agg (wordA x), .agg (wordA y)] w fun e w' => e = .returned (.agg (wideA (x * y))) ∧ Ext w w' := by
  go_enter Tryz.func50, Tryz.ntmps50
  have s1 := ((((St.start w).alloc (wordA x) 36).alloc' (wordA y) 36 (w.heap.size + 1) (by simp)).alloc' (arr 8 fun _ => u64V 0) 86 (w.heap.size + 1 + 1) (by simp)).alloc' (arr 8 fun _ => u64V 0) 86 (w.heap.size + 1 + 1 + 1) (by simp)
  go_wp2_with (first
    | refine ldAll aggW rfl _ rfl (by rfl) (s1.at 3 rfl) (by rfl) ?_)
  go_loopw [15] (fun c wr => ∃ k : Nat, k ≤ 4 ∧ c = .int .i64 k ∧
      St w wr [(w.heap.size + 1 + 1 + 1, 86, arr 8 fun i => u64V (limb (x % m64 ^ k * y) i)), (w.heap.size + 1 + 1, 86, arr 8 fun _ => u64V 0), (w.heap.size + 1, 36, wordA y), (w.heap.size, 36, wordA x)]) (fun i _ => 4 - (intOf i).toNat)
  case atStart =>
    refine ⟨0, by omega, rfl, ?_⟩
    have e : (arr 8 fun i => u64V (limb (x % m64 ^ 0 * y) i)) = arr 8 fun _ => u64V 0 := arr_ext fun i hi => by simp [Nat.mod_one, limb]
    rw [e]; exact s1
  case round =>
    obtain ⟨k, hk, rfl, st⟩ := hrel
    by_cases hlt : k < 4
    · have ak := run_idx (P := Tryz.prog) (t := 36) (e := 23) (n := 4) (d := .int .u64) (by kernel_rfl) (by kernel_rfl) rfl (by kernel_rfl) hlt (wordA_get x k hlt) .i64

      go_wp2_with (first
        | refine ldAll aggW rfl _ rfl (by rfl) (st.at 2 rfl) (by rfl) ?_)
      go_loopw [8, 20] (fun c jv wr => ∃ (j c' : Nat) (f : Nat → Nat), j ≤ 4 ∧ jv = .int .i64 j ∧ c = .int .u64 (c' : Int) ∧ c' < m64 ∧ (∀ i, i < 8 → f i < m64) ∧ (∀ i, k + 4 ≤ i → i < 8 → f i = 0) ∧
        val f 8 + c' * m64 ^ (k + j) = x % m64 ^ k * y + limb x k * (y % m64 ^ j) * m64 ^ k ∧
        St w wr [(w.heap.size + 1 + 1 + 1, 86, arr 8 fun i => u64V (f i)), (w.heap.size + 1 + 1, 86, arr 8 fun _ => u64V 0), (w.heap.size + 1, 36, wordA y), (w.heap.size, 36, wordA x)]) (fun _ i _ => 4 - (intOf i).toNat)
      case atStart => 
        have hV : x % m64 ^ k * y < m64 ^ (k + 4) := by
          rw [Nat.pow_add]
          exact Nat.mul_lt_mul_of_lt_of_lt (Nat.mod_lt _ (pow_pos' k)) hy
        refine ⟨0, 0, limb (x % m64 ^ k * y), by omega, rfl, rfl, m64_pos, fun i _ => limb_lt _ _, fun i h1 h2 => ?_, ?_, st⟩
        · unfold limb
          rw [Nat.div_eq_of_lt (Nat.lt_of_lt_of_le hV (Nat.pow_le_pow_right m64_pos h1))]
          rfl
        · rw [val_limb, Nat.mod_eq_of_lt (Nat.lt_of_lt_of_le hV (Nat.pow_le_pow_right m64_pos (by omega))), Nat.pow_zero, Nat.mod_one]
          simp
      case round =>
        obtain ⟨j, c, f, hj, rfl, rfl, hc, hf, hz, hv, st⟩ := hrel
        by_cases hlj : j < 4
        · have aj := run_idx (P := Tryz.prog) (t := 36) (e := 23) (n := 4) (d := .int .u64) (by kernel_rfl) (by kernel_rfl) rfl (by kernel_rfl) hlj (wordA_get y j hlj) .i64
          have c1 : wr.cell? ⟨w.heap.size + 1 + 1 + 1, k + j, none⟩ = some (.int .u64 (f (k + j) : Int)) := st.cell 0 rfl (k + j) (arr_get 8 _ (k + j) (by omega))
          have f1 := st.frozen 0 rfl (k + j)
          have m1 := Mul64 (limb x k) (limb y j) (limb_lt _ _) (limb_lt _ _)
          have A1 := Lib.hid hv
          clear hv
          have hp := hf (k + j) (by omega)
          have slt := step_lt (limb_lt x k) (limb_lt y j) hp hc
          have slo := step_lo (limb x k) (limb y j) (f (k + j)) c
          have shi := step_hi (limb x k) (limb y j) (f (k + j)) c
          have a1 := Add64 (limb x k * limb y j % m64) (f (k + j)) 0 (by omega)
          have a2 := Add64 ((limb x k * limb y j % m64 + f (k + j)) % m64) c 0 (by omega)
          have e0 : ((0 : Nat) : Int) = 0 := rfl
          simp only [Nat.add_zero, e0] at a1 a2
          clear e0
          obtain ⟨P, hP⟩ : ∃ P, P = limb x k * limb y j + f (k + j) + c := ⟨_, rfl⟩
          rw [← hP] at slt slo shi
          generalize limb x k * limb y j / m64 = H0 at m1 shi
          generalize limb x k * limb y j % m64 = L0 at m1 a1 a2 slo shi
          generalize (L0 + f (k + j)) / m64 = C1 at a1 shi
          generalize (L0 + f (k + j)) % m64 = L1 at a1 a2 slo shi
          generalize (L1 + c) / m64 = C2 at a2 shi
          generalize (L1 + c) % m64 = L2 at a2 slo
          have S := Lib.hid (And.intro slo shi)
          clear slo shi
          go_wp2_with (first
            | (go_at_call 59
               refine (m1 _).mono ?_
               rintro e w1 ⟨rfl, rfl⟩))
          go_roundw
          case rel =>
            have hs := S.out
            have hlt2 : H0 + C1 + C2 < m64 := by rw [hs.2]; exact Nat.div_lt_of_lt_mul slt
            refine ⟨j + 1, H0 + C1 + C2, fun i => if i = k + j then L2 else f i, by omega, by simp, ?_, hlt2, fun i hi => ?_, fun i h1 h2 => ?_, ?_, st.setFn 0 rfl (k + j) _ (fun i hi => ?_) rfl⟩
            · rw [IntKind.wrap_u64, IntKind.wrap_u64]
              unfold m64 at hlt2
              congr 1
              omega
            · simp only
              split
              · rw [hs.1]; exact Nat.mod_lt _ m64_pos
              · exact hf i hi
            · simp only
              rw [if_neg (by omega)]
              exact hz i h1 h2
            · exact inner_sum A1.out hP hs.1 hs.2 (by omega)
            · by_cases h : i = k + j
              · simp [h, u64V]
              · simp [h, u64V]
          case measure => simp [intOf]; omega
        · obtain rfl : j = 4 := by omega
          have c1 : wr.cell? ⟨w.heap.size + 1 + 1 + 1, k + 4, none⟩ = some (.int .u64 (f (k + 4) : Int)) := st.cell 0 rfl (k + 4) (arr_get 8 _ (k + 4) (by omega))
          have f1 := st.frozen 0 rfl (k + 4)
          have A1 := Lib.hid hv
          clear hv
          go_wp2
          go_roundw
          case rel =>
            refine ⟨k + 1, by omega, by simp, ?_⟩
            have hval : val (fun i => if i = k + 4 then c else f i) 8 = x % m64 ^ (k + 1) * y := by
              have h1 := val_set (f := f) (n := 8) (k := k + 4) c (by omega)
              have h2 := A1.out
              rw [hz (k + 4) (by omega) (by omega), Nat.zero_mul, Nat.add_zero] at h1
              rw [h1, h2, Nat.mod_eq_of_lt (show y < m64 ^ 4 from hy), Nat.pow_succ, Nat.mod_mul, Nat.add_mul]
              unfold limb
              ac_rfl
            refine st.setFn 0 rfl (k + 4) _ (fun i hi => ?_) rfl
            have hlt8 : ∀ i, i < 8 → (fun i => if i = k + 4 then c else f i) i < m64 := fun i hi => by
              simp only
              split
              · exact hc
              · exact hf i hi
            rw [← hval, limb_val hlt8 hi]
            by_cases h : i = k + 4
            · simp [h, u64V]
            · simp [h, u64V]
          case measure => simp [intOf]; omega
    · obtain rfl : k = 4 := by omega
      have e : (arr 8 fun i => u64V (limb (x % m64 ^ 4 * y) i)) = wideA (x * y) := by
        rw [Nat.mod_eq_of_lt (show x < m64 ^ 4 from hx)]; rfl
      rw [e] at st
      have s2 := st.setRow 1 rfl (wideA (x * y))
      go_wp2_with (first
        | refine ldAll agg8 rfl _ rfl (by rfl) (st.at 0 rfl) (by rfl) ?_
        | refine stAll agg8 (vs := wideA (x * y)) rfl _ _ rfl (by rfl) (by rfl) (st.at 1 rfl) (by rfl) (by rfl) (arr_mem fun _ _ => rfl) ?_)
      go_wp2
      refine bodyPost_ret (v := .agg _) (ret_cell agg8 rfl rfl (s2.at 1 rfl) rfl) rfl ⟨rfl, s2.below⟩
theorem wide_low (x : Nat) : (wideA x).extract 0 (0 + 4) = wordA x := by
 unfold wideA wordA arr
 simp [List.range_succ_eq_map]
theorem Mul (x y : Nat) (w : World) : Calls Tryz.prog 31 #[.agg (wordA x), .agg (wordA y)] w fun e w' => e = .returned (.agg (wordA (x * y))) ∧ Ext w w' := by
  have hr : wordA (x * y) = wordA (x % M256 * (y % M256)) := wordA_eq (by rw [Nat.mul_mod])
  rw [hr, ← wordA_mod x, ← wordA_mod y]
  have hx := Nat.mod_lt x M256_pos
  have hy := Nat.mod_lt y M256_pos
  generalize x % M256 = X at *
  generalize y % M256 = Y at *
  clear hr
  have hp := product X Y hx hy
  have hlow := Lib.hid (wide_low (X * Y))
  have hat := fun g => run_arrayAt (P := Tryz.prog) (t := 36) (n := 4) (e := 23) (by kernel_rfl) g 0 4 8 (by omega)
  go_enter Tryz.func31, Tryz.ntmps31
  have s1 := (((St.start w).alloc (wordA X) 36).alloc' (wordA Y) 36 (w.heap.size + 1) (by simp)).alloc' (arr 4 fun _ => u64V 0) 36 (w.heap.size + 1 + 1) (by simp)
  go_wp2_with (first
    | refine ldAll aggW rfl _ rfl (by rfl) (s1.at 2 rfl) (by rfl) ?_
    | refine ldAll aggW rfl _ rfl (by rfl) (s1.at 1 rfl) (by rfl) ?_
    | (go_at_call 50
       refine (hp _).mono ?_
       rintro e w1 ⟨rfl, hw1⟩
       have s2 := (s1.ext hw1).alloc (arr 8 fun _ => .int .u64 0) 86
       have s3 := s2.setRow 0 rfl (wideA (X * Y))
       have s4 := s3.setRow 1 rfl (wordA (X * Y)))
    | refine stAll agg8 (vs := wideA (X * Y)) rfl _ _ rfl (by rfl) (by rfl) (s2.at 0 rfl) (by rfl) (by rfl) (arr_mem fun _ _ => rfl) ?_
    | (refine ld aggW rfl _ rfl (by rfl) (s3.at 0 rfl) (by simp [wideA, arr_size]) ?_; rw [hlow.out])
    | refine stAll aggW (vs := wordA (X * Y)) rfl _ _ rfl (by rfl) (by rfl) (s3.at 1 rfl) (by rfl) (by rfl) (wordA_mem _) ?_)
  go_wp2
  refine bodyPost_ret (v := .agg _) (ret_cell aggW rfl rfl (s4.at 1 rfl) rfl) rfl ⟨rfl, s4.below⟩
end Wd
open Go.RowKit Rg Wm Ar
namespace Lf
def limbs (x : Nat) : List Nat := [limb x 0, limb x 1, limb x 2, limb x 3]
abbrev wV (x : Nat) : V := .a ((limbs x).map uK)
theorem limbs_len (x : Nat) : (limbs x).length = 4 := rfl
theorem limbs_get (x : Nat) {k : Nat} (h : k < 4) : (limbs x).getD k default = limb x k := by
 match k, h with
 | 0, _ => rfl
 | 1, _ => rfl
 | 2, _ => rfl
 | 3, _ => rfl
theorem limb_lt64 (x k : Nat) : limb x k < 18446744073709551616 := limb_lt x k
theorem limbs_lt (x k : Nat) : (limbs x).getD k default < 18446744073709551616 := by
 rcases Nat.lt_or_ge k 4 with h | h
 ·rw [limbs_get x h]; exact limb_lt64 x k
 ·rw [List.getD_eq_getElem?_getD, List.getElem?_eq_none (by rw [limbs_len]; exact h)]; exact Nat.zero_lt_succ _
theorem wordA_list (x : Nat) : wordA x = #[.int .u64 (limb x 0 : Int), .int .u64 (limb x 1 : Int), .int .u64 (limb x 2 : Int), .int .u64 (limb x 3 : Int)] := rfl
theorem exact_word (x : Nat) : Exact (wV x) (.agg (wordA x)) := by
 rw [wordA_list]
 refine ⟨fun w g => .a rfl (fun u hu => ?_) (fun j u y hj hy => ?_), fun w g y h => ?_⟩
 ·obtain ⟨a, _, rfl⟩ := List.mem_map.1 hu; rfl
 ·match j with
  | 0 => simp [limbs] at hj hy; subst hj; subst hy; exact .k _
  | 1 => simp [limbs] at hj hy; subst hj; subst hy; exact .k _
  | 2 => simp [limbs] at hj hy; subst hj; subst hy; exact .k _
  | 3 => simp [limbs] at hj hy; subst hj; subst hy; exact .k _
  | j + 4 => simp [limbs] at hj
 ·cases h with
  | @a _ _ vs hl h1 hc =>
   have hs : vs.size = 4 := by simpa [limbs] using hl.symm
   congr 1
   apply Array.ext
   ·simpa using hs
   ·intro i h1 h2
    have hv : vs[i]? = some vs[i] := Array.getElem?_eq_getElem h1
    match i with
    | 0 => exact rep_k (hc 0 _ _ rfl hv)
    | 1 => exact rep_k (hc 1 _ _ rfl hv)
    | 2 => exact rep_k (hc 2 _ _ rfl hv)
    | 3 => exact rep_k (hc 3 _ _ rfl hv)
    | i + 4 => omega
theorem limbs_eq {x y : Nat} (h : x % M256 = y % M256) : limbs x = limbs y := by
 have := wordA_eq h
 rw [wordA_list, wordA_list] at this
 simp only [Array.mk.injEq, List.cons.injEq, Value.int.injEq, true_and, and_true] at this
 obtain ⟨h1, h2, h3, h4⟩ := this
 simp only [limbs, List.cons.injEq, and_true]
 exact ⟨by omega, by omega, by omega, by omega⟩
theorem limbs_inj {x y : Nat} (h : limbs x = limbs y) : x % M256 = y % M256 := by
 refine wordA_inj ?_
 simp only [limbs, List.cons.injEq, and_true] at h
 obtain ⟨h1, h2, h3, h4⟩ := h
 rw [wordA_list, wordA_list, h1, h2, h3, h4]
theorem limbs_iff {x y : Nat} : limbs x = limbs y ↔ x % M256 = y % M256 := ⟨limbs_inj, limbs_eq⟩
theorem limbs_small {n : Nat} (h : n < m64) : limbs n = [n, 0, 0, 0] := by
 have h0 : limb n 0 = n := by unfold limb; rw [Nat.pow_zero, Nat.div_one, Nat.mod_eq_of_lt h]
 have hi : ∀ i, 1 ≤ i → limb n i = 0 := fun i hi => by
  have : m64 ≤ m64 ^ i := by
   have := Nat.pow_le_pow_right (show 0 < m64 from m64_pos) hi
   rwa [Nat.pow_one] at this
  unfold limb; rw [Nat.div_eq_of_lt (by omega), Nat.zero_mod]
 unfold limbs
 rw [h0, hi 1 (by decide), hi 2 (by decide), hi 3 (by decide)]
def numOf (l : List Nat) : Nat := val (fun k => l.getD k 0) 4
theorem limbs_num {l : List Nat} (h : l.length = 4) (hl : ∀ a ∈ l, a < m64) : limbs (numOf l) = l := by
 match l, h with
 | [a, b, c, d], _ =>
  have hk : ∀ k, k < 4 → (fun k => [a, b, c, d].getD k 0) k < m64 := fun k hk => by
   match k, hk with
   | 0, _ => exact hl a (by simp)
   | 1, _ => exact hl b (by simp)
   | 2, _ => exact hl c (by simp)
   | 3, _ => exact hl d (by simp)
  unfold limbs numOf
  rw [limb_val hk (by decide : 0 < 4), limb_val hk (by decide : 1 < 4), limb_val hk (by decide : 2 < 4), limb_val hk (by decide : 3 < 4)]
  rfl
theorem numOf_lt {l : List Nat} (h : l.length = 4) (hl : ∀ a ∈ l, a < m64) : numOf l < M256 := by
 match l, h with
 | [a, b, c, d], _ =>
  refine val_lt fun k hk => ?_
  match k, hk with
  | 0, _ => exact hl a (by simp)
  | 1, _ => exact hl b (by simp)
  | 2, _ => exact hl c (by simp)
  | 3, _ => exact hl d (by simp)
def beB (x : Nat) : Nat → List UInt8
 | 0 => []
 | n + 1 => UInt8.ofNat (x / 256 ^ n % 256) :: beB x n
theorem beB_len (x n : Nat) : (beB x n).length = n := by induction n <;> simp [beB, *]
theorem beB_num (x : Nat) : ∀ n, Ps.beN (beB x n) = x % 256 ^ n
 | 0 => by simp [beB, Ps.beN, Ps.nat8, Ps.pos, Nat.mod_one]
 | n + 1 => by
  have ih := beB_num x n
  have e : Ps.beN (beB x (n + 1)) = x / 256 ^ n % 256 * 256 ^ n + Ps.beN (beB x n) := by
   simp only [beB, Ps.beN, Ps.nat8, List.map_cons, Ps.pos, List.length_map, beB_len, UInt8.toNat_ofNat']
   simp
  rw [e, ih, Nat.pow_succ, Nat.mod_mul, Nat.mul_comm]
  omega
theorem m256_bytes : M256 = 256 ^ 32 := by unfold M256 m64; decide
def wordB (x : Nat) : List UInt8 := beB x 32
theorem wordB_len (x : Nat) : (wordB x).length = 32 := beB_len x 32
theorem wordB_num (x : Nat) : Ps.beN (wordB x) = x % M256 := by rw [m256_bytes]; exact beB_num x 32
def bytesR (x i : Nat) : List UInt8 := (List.range 32).map fun j => if j < i then UInt8.ofNat (x / 256 ^ (31 - j) % 256) else 0
theorem bytesR_len (x i : Nat) : (bytesR x i).length = 32 := by simp [bytesR]
theorem bytesR_full (x : Nat) : bytesR x 32 = wordB x := by
 have e : ∀ n, beB x n = (List.range n).map fun j => UInt8.ofNat (x / 256 ^ (n - 1 - j) % 256) := by
  intro n
  induction n with
  | zero => rfl
  | succ n ih =>
   rw [beB, ih, List.range_succ_eq_map, List.map_cons, List.map_map]
   congr 1
   refine List.map_congr_left fun j hj => ?_
   have := List.mem_range.1 hj
   simp only [Function.comp]
   rw [show n + 1 - 1 - (j + 1) = n - 1 - j by omega]
 unfold wordB bytesR
 rw [e]
 refine List.map_congr_left fun j hj => ?_
 rw [if_pos (List.mem_range.1 hj)]
theorem bytesR_set (x i : Nat) (_hi : i < 32) {b : Nat} (hb : b % 256 = x / 256 ^ (31 - i) % 256) : (bytesR x i).set i (UInt8.ofNat b) = bytesR x (i + 1) := by
 apply List.ext_getElem
 ·simp [bytesR]
 ·intro j h1 h2
  rw [List.getElem_set]
  simp only [bytesR, List.getElem_map, List.getElem_range]
  by_cases h : i = j
  ·subst h
   rw [if_pos rfl, if_pos (by omega)]
   apply UInt8.toNat_inj.1
   rw [UInt8.toNat_ofNat', UInt8.toNat_ofNat']
   omega
  ·rw [if_neg h]
   by_cases h3 : j < i
   ·rw [if_pos h3, if_pos (by omega)]
   ·rw [if_neg h3, if_neg (by omega)]
theorem limb_byte (x k r : Nat) (hr : r < 8) : limb x k / 2 ^ (r * 8) % 256 = x / 256 ^ (8 * k + r) % 256 := by
 unfold limb
 have e1 : (256 : Nat) ^ (8 * k + r) = m64 ^ k * 2 ^ (r * 8) := by
  rw [Nat.pow_add, Nat.pow_mul]
  have h1 : (256 : Nat) ^ 8 = m64 := by unfold m64; decide
  have h2 : (256 : Nat) ^ r = 2 ^ (r * 8) := by rw [Nat.mul_comm, Nat.pow_mul]
  rw [h1, h2]
 rw [e1, ← Nat.div_div_eq_div_mul]
 generalize x / m64 ^ k = y
 have h3 : m64 = 2 ^ (r * 8) * 2 ^ ((8 - r) * 8) := by rw [← Nat.pow_add, show r * 8 + (8 - r) * 8 = 64 from by omega]; unfold m64; decide
 have h4 : (256 : Nat) ∣ 2 ^ ((8 - r) * 8) := by
  refine ⟨2 ^ ((8 - r) * 8 - 8), ?_⟩
  have : (8 - r) * 8 = 8 + ((8 - r) * 8 - 8) := by omega
  rw [this, Nat.pow_add]; simp
 rw [h3, Nat.mod_mul_right_div_self]
 exact Nat.mod_mod_of_dvd _ h4
theorem pow256 (i : Nat) : (256 : Nat) ^ i = m64 ^ (i / 8) * 2 ^ (i % 8 * 8) := by
 have h1 : (256 : Nat) ^ 8 = m64 := by unfold m64; decide
 have h2 : (256 : Nat) ^ (i % 8) = 2 ^ (i % 8 * 8) := by rw [Nat.mul_comm, Nat.pow_mul]
 rw [← h1, ← h2, ← Nat.pow_mul, ← Nat.pow_add, Nat.div_add_mod]
theorem limb_set {V b i : Nat} (hV : V < 256 ^ i) (hb : b < 256) (k : Nat) : limb (V + b * 256 ^ i) k = if k = i / 8 then limb V k ||| (b * 2 ^ (i % 8 * 8) % 2 ^ 64) else limb V k := by
 have hp := pow256 i
 have hm : 2 ^ 64 = m64 := by unfold m64; decide
 have hr : i % 8 < 8 := Nat.mod_lt _ (by decide)
 have h64 : m64 = 2 ^ (i % 8 * 8) * 2 ^ (64 - i % 8 * 8) := by rw [← Nat.pow_add, ← hm, show i % 8 * 8 + (64 - i % 8 * 8) = 64 from by omega]
 have hpos : ∀ j, 0 < m64 ^ j := fun j => pow_pos' j
 have hle : b * 2 ^ (i % 8 * 8) + 2 ^ (i % 8 * 8) ≤ m64 := by
  have h1 : (2 : Nat) ^ 8 ≤ 2 ^ (64 - i % 8 * 8) := Nat.pow_le_pow_right (by decide) (by omega)
  have h2 : (b + 1) * 2 ^ (i % 8 * 8) ≤ 2 ^ (64 - i % 8 * 8) * 2 ^ (i % 8 * 8) := Nat.mul_le_mul_right _ (by omega)
  rw [Nat.mul_comm (2 ^ (64 - i % 8 * 8)), ← h64, Nat.add_mul, Nat.one_mul] at h2
  exact h2
 have hs0 : 0 < 2 ^ (i % 8 * 8) := Nat.two_pow_pos _
 rcases Nat.lt_trichotomy k (i / 8) with h | h | h
 ·rw [if_neg (by omega)]
  obtain ⟨j, hj⟩ : ∃ j, i / 8 = k + 1 + j := ⟨i / 8 - k - 1, by omega⟩
  unfold limb
  rw [hp, hj, show b * (m64 ^ (k + 1 + j) * 2 ^ (i % 8 * 8)) = m64 ^ k * (m64 * (m64 ^ j * (b * 2 ^ (i % 8 * 8)))) from by rw [Nat.pow_add, Nat.pow_add, Nat.pow_one]; ac_rfl, Nat.add_mul_div_left _ _ (hpos k), Nat.add_mul_mod_self_left]
 ·rw [if_pos h]
  subst h
  have hlt : V / m64 ^ (i / 8) < 2 ^ (i % 8 * 8) := Nat.div_lt_of_lt_mul (by rw [← hp]; exact hV)
  unfold limb
  rw [hp, show b * (m64 ^ (i / 8) * 2 ^ (i % 8 * 8)) = m64 ^ (i / 8) * (b * 2 ^ (i % 8 * 8)) from by ac_rfl, Nat.add_mul_div_left _ _ (hpos _)]
  rw [Nat.mod_eq_of_lt (show V / m64 ^ (i / 8) < m64 by omega), hm, Nat.mod_eq_of_lt (show b * 2 ^ (i % 8 * 8) < m64 by omega), Nat.mod_eq_of_lt (by omega)]
  rw [Nat.or_comm, Nat.mul_comm b, ← Nat.two_pow_add_eq_or_of_lt hlt, Nat.add_comm]
 ·rw [if_neg (by omega)]
  have h1 : (256 : Nat) ^ (i + 1) ≤ m64 ^ k := by
   have : (256 : Nat) ^ (i + 1) ≤ 256 ^ (8 * k) := Nat.pow_le_pow_right (by decide) (by omega)
   rw [Nat.pow_mul] at this
   have e : (256 : Nat) ^ 8 = m64 := by unfold m64; decide
   rwa [e] at this
  have h2 : V + b * 256 ^ i < 256 ^ (i + 1) := by
   have h2 := Nat.mul_le_mul_right (256 ^ i) (Nat.succ_le_of_lt hb)
   rw [Nat.pow_succ, Nat.mul_comm (256 ^ i)]
   rw [Nat.succ_mul] at h2
   omega
  unfold limb
  rw [Nat.div_eq_of_lt (by omega), Nat.div_eq_of_lt (by omega)]
def tailN (l : List UInt8) (i : Nat) : Nat := Ps.beN (l.drop (l.length - i))
theorem tailN_zero (l : List UInt8) : tailN l 0 = 0 := by unfold tailN; rw [Nat.sub_zero, List.drop_length]; rfl
theorem tailN_all (l : List UInt8) : tailN l l.length = Ps.beN l := by unfold tailN; rw [Nat.sub_self, List.drop_zero]
theorem tailN_lt (l : List UInt8) {i : Nat} (h : i ≤ l.length) : tailN l i < 256 ^ i := by
 have := Ps.beN_lt (l.drop (l.length - i))
 rwa [List.length_drop, show l.length - (l.length - i) = i by omega] at this
theorem tailN_succ (l : List UInt8) {i : Nat} (h : i < l.length) : tailN l (i + 1) = tailN l i + (l.getD (l.length - 1 - i) default).toNat * 256 ^ i := by
 unfold tailN
 rw [show l.length - (i + 1) = l.length - 1 - i by omega, List.drop_eq_getElem_cons (by omega)]
 have e : l.length - 1 - i + 1 = l.length - i := by omega
 rw [e]
 have e2 : ∀ (a : UInt8) (r : List UInt8), Ps.beN (a :: r) = a.toNat * 256 ^ r.length + Ps.beN r := fun a r => by simp [Ps.beN, Ps.nat8, Ps.pos]
 rw [e2, List.length_drop, show l.length - (l.length - i) = i by omega, Nat.add_comm]
 simp [List.getD_eq_getElem?_getD, List.getElem?_eq_getElem (show l.length - 1 - i < l.length by omega)]
attribute [irreducible] bytesR limbs tailN wordB
end Lf
open Wm Ar
set_option maxRecDepth 20000
namespace My
structure MOp where
 kind : Int
 at_ : Nat
 from_ : Nat
 len : Nat
 word : Nat
 data : List UInt8
structure MOp.ok (o : MOp) : Prop where
 a : o.at_ < M256
 f : o.from_ < M256
 l : o.len < M256
 w : o.word < M256
structure St where
 gen : Nat
 l : List UInt8
def cost (w : Nat) : Nat := if w ≤ 128 then 3 * w + w * w / 64 else 0
def price (L size : Nat) : Nat := if size ≤ L then 0 else cost (size / 32) - cost (L / 32)
def up (n : Nat) : Nat := (n + 31) / 32 * 32
def need (L a n : Nat) : Option Nat := if n = 0 then some L else if 4096 < a ∨ 4096 - a < n then none else some (max L (up (a + n)))
def grow (s : St) (size : Nat) : St := if size ≤ s.l.length then s else ⟨s.gen + 1, s.l ++ List.replicate (size - s.l.length) 0⟩
def view (l : List UInt8) (a n : Nat) : List UInt8 := (l.drop a).take n
def size2 (L a f n : Nat) : Option Nat := match need L a n, need L f n with
 | some x, some y => some (max x y)
 | _, _ => none
def sizeOf (L : Nat) (o : MOp) : Option Nat :=
 if o.kind = 1 ∨ o.kind = 2 then need L o.at_ 32
 else if o.kind = 3 then need L o.at_ 1
 else if o.kind = 4 then size2 L o.at_ o.from_ o.len
 else need L o.at_ o.data.length
def act (o : MOp) (l : List UInt8) : Nat × List UInt8 :=
 if o.kind = 1 then (Ps.beN (view l o.at_ 32), l)
 else if o.kind = 2 then (0, Lf.put l o.at_ (Lf.wordB o.word))
 else if o.kind = 3 then (0, l.set o.at_ (UInt8.ofNat o.word))
 else if o.kind = 4 then (0, if o.len = 0 then l else Lf.put l o.at_ (view l o.from_ o.len))
 else (0, if o.data.length = 0 then l else Lf.put l o.at_ o.data)
structure Good (l : List UInt8) : Prop where
 le : l.length ≤ 4096
 m : l.length % 32 = 0
theorem up_ge (n : Nat) : n ≤ up n := by unfold up; omega
theorem up_le {n : Nat} (h : n ≤ 4096) : up n ≤ 4096 := by unfold up; omega
theorem up_mod (n : Nat) : up n % 32 = 0 := by unfold up; omega
theorem need_spec {L a n m : Nat} (hL : L ≤ 4096) (hm : L % 32 = 0) (h : need L a n = some m) : L ≤ m ∧ m ≤ 4096 ∧ m % 32 = 0 ∧ (0 < n → a + n ≤ m) := by
 unfold need at h
 split at h
 ·cases h; exact ⟨Nat.le_refl _, hL, hm, fun h => by omega⟩
 ·split at h
  ·cases h
  ·rename_i h1 h2
   cases h
   have h3 := up_ge (a + n)
   have h4 := up_le (n := a + n) (by omega)
   have h5 := up_mod (a + n)
   rcases Nat.le_total L (up (a + n)) with h | h
   ·rw [Nat.max_eq_right h]; exact ⟨h, h4, h5, fun _ => h3⟩
   ·rw [Nat.max_eq_left h]; exact ⟨Nat.le_refl _, hL, hm, fun _ => by omega⟩
theorem grow_len {s : St} {m : Nat} (h : s.l.length ≤ m) : (grow s m).l.length = m := by
 unfold grow
 split
 ·omega
 ·simp; omega
theorem cost_lt (w : Nat) : cost w ≤ 640 := by
 unfold cost
 split
 ·rename_i h
  have : w * w ≤ 128 * 128 := Nat.mul_le_mul h h
  omega
 ·omega
theorem cost_mono {a b : Nat} (h : a ≤ b) (hb : b ≤ 128) : cost a ≤ cost b := by
 unfold cost
 rw [if_pos (by omega), if_pos hb]
 have : a * a ≤ b * b := Nat.mul_le_mul h h
 omega
def zero : St := ⟨0, []⟩
theorem zero_good : Good zero.l := ⟨by decide, by decide⟩
end My
open Go.RowKit Rg Wm Ar
namespace Lf
theorem m64_two : m64 = 2 ^ 64 := by unfold m64; decide
theorem M256_two : M256 = 2 ^ 256 := by unfold M256 m64; decide
theorem limb_two (x i : Nat) : limb x i = x / 2 ^ (64 * i) % 2 ^ 64 := by
 unfold limb; rw [m64_two, ← Nat.pow_mul]
theorem bit_limb (x i j : Nat) : (limb x i).testBit j = (decide (j < 64) && x.testBit (64 * i + j)) := by
 rw [limb_two, Nat.testBit_mod_two_pow, Nat.testBit_div_two_pow, Nat.add_comm j]
theorem limb_and (x y i : Nat) : limb (x &&& y) i = limb x i &&& limb y i := by
 simp only [limb_two, Nat.and_div_two_pow, Nat.and_mod_two_pow]
theorem limb_or (x y i : Nat) : limb (x ||| y) i = limb x i ||| limb y i := by
 simp only [limb_two, Nat.or_div_two_pow, Nat.or_mod_two_pow]
theorem limb_xor (x y i : Nat) : limb (x ^^^ y) i = limb x i ^^^ limb y i := by
 simp only [limb_two, Nat.xor_div_two_pow, Nat.xor_mod_two_pow]
def notN (x : Nat) : Nat := 2 ^ 256 - 1 - x % 2 ^ 256
theorem bit_not (x j : Nat) : (notN x).testBit j = (decide (j < 256) && !x.testBit j) := by
 have h : x % 2 ^ 256 < 2 ^ 256 := Nat.mod_lt _ (Nat.two_pow_pos _)
 unfold notN
 rw [Nat.sub_sub, Nat.add_comm 1, Nat.testBit_two_pow_sub_succ h, Nat.testBit_mod_two_pow]
 by_cases hj : j < 256 <;> simp [hj]
theorem not64 {x j : Nat} (h : x < 2 ^ 64) : (18446744073709551615 - x).testBit j = (decide (j < 64) && !x.testBit j) := by
 have e : 18446744073709551615 - x = 2 ^ 64 - (x + 1) := by omega
 rw [e, Nat.testBit_two_pow_sub_succ h]
theorem limb_not (x i : Nat) (hi : i < 4) : limb (notN x) i = 18446744073709551615 - limb x i := by
 refine Nat.eq_of_testBit_eq fun j => ?_
 have hl : limb x i < 2 ^ 64 := by rw [limb_two]; exact Nat.mod_lt _ (Nat.two_pow_pos _)
 rw [not64 hl, bit_limb, bit_limb, bit_not]
 by_cases hj : j < 64
 ·have : 64 * i + j < 256 := by omega
  simp [hj, this]
 ·simp [hj]
theorem limb_shl (a k s i : Nat) (hs : s < 64) : limb (a * 2 ^ (64 * k + s)) i = if i < k then 0 else (limb a (i - k) * 2 ^ s % 2 ^ 64) ||| (if k < i then limb a (i - k - 1) / 2 ^ (64 - s) else 0) := by
  refine Nat.eq_of_testBit_eq fun j => ?_
  rw [bit_limb, Nat.testBit_mul_two_pow]
  by_cases hj : j < 64
  · by_cases hik : i < k
    · have : ¬ (64 * k + s ≤ 64 * i + j) := by omega
      simp [hik, this]
    · rw [if_neg hik, Nat.testBit_or, Nat.testBit_mod_two_pow, Nat.testBit_mul_two_pow, bit_limb]
      by_cases hsj : s ≤ j
      · have h1 : 64 * k + s ≤ 64 * i + j := by omega
        have h2 : j - s < 64 := by omega
        have e : 64 * i + j - (64 * k + s) = 64 * (i - k) + (j - s) := by omega
        have h3 : (if k < i then limb a (i - k - 1) / 2 ^ (64 - s) else 0).testBit j = false := by
          split
          · rw [Nat.testBit_div_two_pow, bit_limb]
            have : ¬ (j + (64 - s) < 64) := by omega
            simp [this]
          · simp
        rw [h3]
        simp [hj, h1, hsj, h2, e]
      · by_cases hki : k < i
        · rw [if_pos hki, Nat.testBit_div_two_pow, bit_limb]
          have h1 : 64 * k + s ≤ 64 * i + j := by omega
          have h2 : j + (64 - s) < 64 := by omega
          have e : 64 * i + j - (64 * k + s) = 64 * (i - k - 1) + (j + (64 - s)) := by omega
          simp [hj, h1, hsj, h2, e]
        · have h1 : ¬ (64 * k + s ≤ 64 * i + j) := by omega
          simp [hki, h1, hsj]
  · have h1 : (if i < k then 0 else (limb a (i - k) * 2 ^ s % 2 ^ 64) ||| (if k < i then limb a (i - k - 1) / 2 ^ (64 - s) else 0)).testBit j = false := by
      split
      · simp
      · rw [Nat.testBit_or, Nat.testBit_mod_two_pow]
        simp only [hj, decide_false, Bool.false_and, Bool.false_or]
        split
        · rw [Nat.testBit_div_two_pow, bit_limb]
          have : ¬ (j + (64 - s) < 64) := by omega
          simp [this]
        · simp
    rw [h1]
    simp [hj]
theorem limb_shr (a k s i : Nat) (hs : s < 64) (ha : a < 2 ^ 256) : limb (a / 2 ^ (64 * k + s)) i = limb a (i + k) / 2 ^ s ||| (if i + k < 3 then limb a (i + k + 1) * 2 ^ (64 - s) % 2 ^ 64 else 0) := by
  refine Nat.eq_of_testBit_eq fun j => ?_
  have hz : ∀ t, 256 ≤ t → a.testBit t = false := fun t ht => Nat.testBit_lt_two_pow (Nat.lt_of_lt_of_le ha (Nat.pow_le_pow_right (by decide) ht))
  rw [bit_limb, Nat.testBit_div_two_pow, Nat.testBit_or, Nat.testBit_div_two_pow, bit_limb]
  by_cases hj : j < 64
  · by_cases hjs : j + s < 64
    · have e : 64 * i + j + (64 * k + s) = 64 * (i + k) + (j + s) := by omega
      have h3 : (if i + k < 3 then limb a (i + k + 1) * 2 ^ (64 - s) % 2 ^ 64 else 0).testBit j = false := by
        split
        · rw [Nat.testBit_mod_two_pow, Nat.testBit_mul_two_pow]
          have : ¬ (64 - s ≤ j) := by omega
          simp [this]
        · simp
      rw [h3]
      simp [hj, hjs, e]
    · have e : 64 * i + j + (64 * k + s) = 64 * (i + k + 1) + (j - (64 - s)) := by omega
      by_cases hik : i + k < 3
      · rw [if_pos hik, Nat.testBit_mod_two_pow, Nat.testBit_mul_two_pow, bit_limb]
        have h1 : 64 - s ≤ j := by omega
        have h2 : j - (64 - s) < 64 := by omega
        simp [hj, hjs, h1, h2, e]
      · rw [if_neg hik, e, hz _ (by omega)]
        simp [hjs]
  · have h3 : (if i + k < 3 then limb a (i + k + 1) * 2 ^ (64 - s) % 2 ^ 64 else 0).testBit j = false := by
      split
      · rw [Nat.testBit_mod_two_pow]
        simp [hj]
      · simp
    have : ¬ (j + s < 64) := by omega
    rw [h3]
    simp [hj, this]
theorem add_bits (a b : Nat) : a + b = (a ^^^ b) + 2 * (a &&& b) := by
 induction a using Nat.strongRecOn generalizing b with
 | _ a ih =>
  by_cases h0 : a = 0
  ·subst h0; simp
  ·have h := ih (a / 2) (by omega) (b / 2)
   have x1 : (a ^^^ b) / 2 = a / 2 ^^^ b / 2 := Nat.xor_div_two
   have x2 : (a &&& b) / 2 = a / 2 &&& b / 2 := Nat.and_div_two
   have x3 : (a ^^^ b) % 2 = (a + b) % 2 := by
    have := @Nat.xor_mod_two_eq_one a b
    omega
   have x4 : (a &&& b) % 2 = 1 ↔ a % 2 = 1 ∧ b % 2 = 1 := Nat.and_mod_two_eq_one
   omega
theorem carry (a b : Nat) : (a + b) % M256 = ((a ^^^ b) + 2 * (a &&& b)) % M256 := by rw [← add_bits]
end Lf
open Go.RowKit Rg Wm Ar
set_option linter.unusedVariables false
set_option maxRecDepth 100000
namespace Lf
namespace Wo
theorem IntW (n : Nat) (h : n < m64) : LF Tryz.prog 29 [uK n] (fun _ => wV n) none := .of_calls (by kernel_rfl) rfl (ex1 (exact_k _)) (exact_word _) fun w => Wd.IntW n h w
theorem Cmp (x y : Nat) : LF Tryz.prog 35 [wV x, wV y] (fun _ => .k (.int .i64 (Wd.cmp x y))) none := .of_calls (by kernel_rfl) rfl (ex2 (exact_word x) (exact_word y)) (exact_k _) fun w => Wd.Cmp x y w
theorem Add (x y : Nat) : LF Tryz.prog 30 [wV x, wV y] (fun _ => wV (x + y)) none := .of_calls (by kernel_rfl) rfl (ex2 (exact_word x) (exact_word y)) (exact_word _) fun w => Wd.Add x y w
theorem Sub (x y : Nat) : LF Tryz.prog 32 [wV x, wV y] (fun _ => wV (dif x y)) none := .of_calls (by kernel_rfl) rfl (ex2 (exact_word x) (exact_word y)) (exact_word _) fun w => Wd.Sub x y w
theorem Mul (x y : Nat) : LF Tryz.prog 31 [wV x, wV y] (fun _ => wV (x * y)) none := .of_calls (by kernel_rfl) rfl (ex2 (exact_word x) (exact_word y)) (exact_word _) fun w => Wd.Mul x y w
end Wo
theorem byte_at (x : Nat) {i : Nat} (h : i < 32) : (limbs x).getD ((31 - i) / 8) default / 2 ^ ((31 - i) % 8 * 8) % 256 = x / 256 ^ (31 - i) % 256 := by
 rw [limbs_get x (by omega), limb_byte _ _ _ (Nat.mod_lt _ (by decide))]
 congr 3
 omega
theorem set_more {i n V b : Nat} (_h : i < n) (hn : i < 32) (hV : V < 256 ^ i) (hb : b < 256) : (limbs V).set (i / 8) ((limbs V).getD (i / 8) default ||| b * 2 ^ (i % 8 * 8) % 2 ^ 64) = limbs (V + b * 256 ^ i) := by
 rw [limbs_get V (by omega)]
 have h : ∀ k, limb (V + b * 256 ^ i) k = _ := limb_set hV hb
 have hq : i / 8 = 0 ∨ i / 8 = 1 ∨ i / 8 = 2 ∨ i / 8 = 3 := by omega
 unfold limbs
 simp only [h]
 rcases hq with e | e | e | e <;> rw [e] <;> rfl
namespace Wo
set_option maxHeartbeats 1000000 in
theorem Bytes (x : Nat) : LF Tryz.prog 14 [wV x] (fun _ => .a ((wordB x).map bK)) none := by
 have hl := limbs_len x
 refine LFx.mk' tt Tryz.func14 rfl rfl rfl (by kernel_rfl) rfl rfl fun F => ?_
 refine wk ?_ trueW trueW
 refine LC.loop2 (fun i L => [(1, .p 1 0), (2, .p 2 0), (3, .p 3 0), (6, .k (.int .i64 ((i : Nat) : Int)))]) (fun i L => [(1, .b ((limbs x).map uK)), (2, .b ((List.replicate 32 0).map bK)), (3, .b (L.map bK))]) (fun i L => i ≤ 32 ∧ L = bytesR x i) ((32 - ·)) (0) ((List.replicate 32 0)) ⟨by omega, by unfold bytesR; rfl⟩ ⟨rfl, rfl, rfl, rfl, trivial⟩ ⟨rfl, rfl, rfl, trivial⟩ rfl rfW rfW ?_
 rintro i L ⟨hi, hL⟩
 have hb := bytesR_len x i
 rw [← hL] at hb
 rcases Nat.lt_or_ge i 32 with h | h
 ·have hok : i + 1 ≤ 32 ∧ L.set i (UInt8.ofNat ((limbs x).getD ((31 - i) / 8) default / 2 ^ ((31 - i) % 8 * 8))) = bytesR x (i + 1) := ⟨h, by rw [hL]; exact bytesR_set x i h (byte_at x h)⟩
  clear hL
  exact wk trueW trueW trueW
 ·obtain rfl : i = 32 := by omega
  have hv1 : V.a (L.map bK) = V.a ((wordB x).map bK) := by rw [hL, bytesR_full]
  clear hL
  exact wk trueW trueW trueW
set_option maxHeartbeats 1000000 in
theorem Read (l : List UInt8) (hn : l.length ≤ 32) : LF Tryz.prog 15 [.s none (l.map bK)] (fun _ => wV (Ps.beN l)) none := by
 have hmin : (if (32 : Int) < ((l.length : Nat) : Int) then (32 : Int) else ((l.length : Nat) : Int)) = ((l.length : Nat) : Int) := if_neg (by omega)
 refine LFx.mk' tt Tryz.func15 rfl rfl rfl (by kernel_rfl) rfl rfl fun F => ?_
 refine wk ?_ trueW trueW
 refine LC.loop2 (fun i L => [(0, .s none (l.map bK)), (2, .p 2 0), (3, .p 3 0), (7, .k (.int .i64 ((l.length : Nat) : Int))), (8, .k (.int .i64 ((i : Nat) : Int)))]) (fun i L => [(2, .b ((List.replicate 4 0).map uK)), (3, .b (L.map uK))]) (fun i L => i ≤ l.length ∧ L = limbs (tailN l i)) ((l.length - ·)) (0) ((List.replicate 4 0)) ⟨by omega, by rw [tailN_zero]; unfold limbs; decide⟩ ⟨rfl, rfl, rfl, rfl, rfl, trivial⟩ ⟨rfl, rfl, trivial⟩ rfl rfW rfW ?_
 rintro i L ⟨hi, hL⟩
 have hb : L.length = 4 := by rw [hL, limbs_len]
 rcases Nat.lt_or_ge i l.length with h | h
 ·have h1 := limbs_lt (tailN l i) (i / 8)
  rw [← hL] at h1
  have hok : i + 1 ≤ l.length ∧ L.set (i / 8) (L.getD (i / 8) default ||| (l.getD (l.length - 1 - i) default).toNat * 2 ^ (i % 8 * 8) % 2 ^ 64) = limbs (tailN l (i + 1)) := ⟨h, by rw [hL, tailN_succ l h]; exact set_more h (by omega) (tailN_lt l hi) (UInt8.toNat_lt _)⟩
  have h2 := (l.getD (l.length - 1 - i) default).toNat_lt
  clear hL
  exact wk trueW trueW trueW
 ·obtain rfl : i = l.length := by omega
  rw [tailN_all] at hL
  subst hL
  exact wk trueW trueW trueW
end Wo
end Lf
end Go.Proofs.YtffaobngpbaklaaGreatDoor

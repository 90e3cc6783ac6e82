/- Walks of package word: DivMod, AddMod, MulMod. -/
import Derived.Test.YtkfjlebchgbfmaaWord3
import Derived.Test.YtkfjlebchgbfmaaEql
namespace Go.Proofs.Ytkfjlebchgbfmaa
open Go.RowKit Rp Rg Ops Mm Ar Wm Eq'
namespace Wd
theorem isZero (y : Nat) (hy : y < M256) (w : World) : (binOp .eql 24 (.agg (wordA y)) (.agg #[.int .u64 0, .int .u64 0, .int .u64 0, .int .u64 0])).run Try.prog w = .ok (.bool (decide (y = 0))) w := by
  rw [zeroW, eqlW, Nat.zero_mod, Nat.mod_eq_of_lt hy]

theorem DivMod_zero (x : Nat) (w : World) : Calls Try.prog 17 #[.agg (wordA x), .agg (wordA 0)] w fun e w' => e = .returned (.tuple #[.agg (wordA 0), .agg (wordA 0)]) ∧ Ext w w' := by
  have hz := isZero 0 M256_pos
  rw [show decide ((0 : Nat) = 0) = true from rfl] at hz
  have e0 : (arr 4 fun _ => u64V 0) = wordA 0 := zeroW
  go_enter Try.func17, Try.ntmps17
  have s1 := ((((St.start w).alloc (wordA x) 24).alloc' (wordA 0) 24 (w.heap.size + 1) (by simp)).alloc' (arr 4 fun _ => u64V 0) 24 (w.heap.size + 1 + 1) (by simp)).alloc' (arr 4 fun _ => u64V 0) 24 (w.heap.size + 1 + 1 + 1) (by simp)
  go_wp2_with (refine ldAll aggW rfl _ rfl (by rfl) (s1.at 2 rfl) (by rfl) ?_)
  go_wp2
  refine Rg.region [([0, 1], 2)] [] [3] (by kernel_rfl) (by kernel_rfl) fun w' hw' => ?_
  have st' := s1.ext hw'
  rw [e0] at st'
  simp only [Rg.walk, Rg.pick, Rg.nth, List.map_cons, List.map_nil]
  refine qldAll aggW rfl _ rfl (by rfl) (st'.at 1 rfl) (by rfl) ?_
  refine qldAll aggW rfl _ rfl (by rfl) (st'.at 0 rfl) (by rfl) ?_
  refine wpQuiet_nil ?_
  have st2 := st'.setRow 1 rfl (wordA 0)
  have st3 := st2.setRow 0 rfl (wordA 0)
  go_wp2_with (refine stAll aggW (vs := wordA 0) rfl _ _ rfl (by rfl) (by rfl) (st'.at 1 rfl) (by rfl) (by rfl) (wordA_mem _) ?_)
  go_wp2
  refine ⟨ext_setRow_same (st'.at 1 rfl), ?_⟩
  refine wpQuiet_nil ?_
  go_wp2_with (refine stAll aggW (vs := wordA 0) rfl _ _ rfl (by rfl) (by rfl) (st2.at 0 rfl) (by rfl) (by rfl) (wordA_mem _) ?_)
  go_wp2
  refine bodyPost_ret (v := .tuple #[.agg (wordA 0), .agg (wordA 0)]) (ret_two rfl (slot_cell aggW rfl (st3.at 1 rfl) (by rfl)) (slot_cell aggW rfl (st3.at 0 rfl) (by rfl))) rfl ⟨rfl, st3.below⟩

theorem DivMod (x y : Nat) (hx : x < M256) (hy : y < M256) (h0 : 0 < y) (w : World) : Calls Try.prog 17 #[.agg (wordA x), .agg (wordA y)] w fun e w' => e = .returned (.tuple #[.agg (wordA (x / y)), .agg (wordA (x % y))]) ∧ Ext w w' := by
  have hz := isZero y hy
  rw [show decide (y = 0) = false from by simp; omega] at hz
  go_enter Try.func17, Try.ntmps17
  have s1 := ((((St.start w).alloc (wordA x) 24).alloc' (wordA y) 24 (w.heap.size + 1) (by simp)).alloc' (arr 4 fun _ => u64V 0) 24 (w.heap.size + 1 + 1) (by simp)).alloc' (arr 4 fun _ => u64V 0) 24 (w.heap.size + 1 + 1 + 1) (by simp)
  go_wp2_with (refine ldAll aggW rfl _ rfl (by rfl) (s1.at 2 rfl) (by rfl) ?_)
  go_wp2
  refine Rg.region [([0, 1], 2)] [3, 4] [5, 6] (by kernel_rfl) (by kernel_rfl) fun w' hw' => ?_
  have st' := s1.ext hw'
  simp only [Rg.walk, Rg.pick, Rg.nth, List.map_cons, List.map_nil]
  repeat (go_big_quiet_step (fail))
  refine qldAll aggW rfl _ rfl (by rfl) (st'.at 2 rfl) (by rfl) ?_
  refine wpQuiet_nil ?_
  have hd := divide x y 4 4 w.heap.size 0 w' (by omega) (by omega) hx h0 hy (fun i hi => by rw [Nat.zero_add]; exact st'.cell 3 rfl i (wordA_get x i hi))
  go_wp2_with (go_at_call 34; refine hd.mono ?_; rintro e w2 ⟨rfl, hw2⟩)
  refine ⟨hw2, ?_⟩
  repeat (go_big_quiet_step (fail))
  refine wpQuiet_nil ?_
  have st2 := st'.ext hw2
  have st3 := st2.setRow 1 rfl (wordA (x / y))
  have st4 := st3.setRow 0 rfl (wordA (x % y))
  go_wp2_with (first
    | refine stAll aggW (vs := wordA (x / y)) rfl _ _ rfl (by rfl) (by rfl) (st2.at 1 rfl) (by rfl) (by rfl) (wordA_mem _) ?_
    | refine stAll aggW (vs := wordA (x % y)) rfl _ _ rfl (by rfl) (by rfl) (st3.at 0 rfl) (by rfl) (by rfl) (wordA_mem _) ?_)
  go_wp2
  refine bodyPost_ret (v := .tuple #[.agg (wordA (x / y)), .agg (wordA (x % y))]) (ret_two rfl (slot_cell aggW rfl (st4.at 1 rfl) (by rfl)) (slot_cell aggW rfl (st4.at 0 rfl) (by rfl))) rfl ⟨rfl, st4.below⟩

theorem MulMod (x y m : Nat) (hx : x < M256) (hy : y < M256) (hm : m < M256) (w : World) : Calls Try.prog 27 #[.agg (wordA x), .agg (wordA y), .agg (wordA m)] w fun e w' => e = .returned (.agg (wordA (if m = 0 then 0 else x * y % m))) ∧ Ext w w' := by
  have hz := isZero m hm
  have e0 : (arr 4 fun _ => u64V 0) = wordA 0 := zeroW
  have hp := product x y hx hy
  by_cases h0 : m = 0
  · subst h0
    rw [if_pos rfl]
    rw [show decide ((0 : Nat) = 0) = true from rfl] at hz
    go_enter Try.func27, Try.ntmps27
    have s1 := ((((St.start w).alloc (wordA x) 24).alloc' (wordA y) 24 (w.heap.size + 1) (by simp)).alloc' (wordA 0) 24 (w.heap.size + 1 + 1) (by simp)).alloc' (arr 4 fun _ => u64V 0) 24 (w.heap.size + 1 + 1 + 1) (by simp)
    have s2 := s1.setRow 0 rfl (arr 4 fun _ => u64V 0)
    go_wp2_with (first
      | refine ldAll aggW rfl _ rfl (by rfl) (s1.at 1 rfl) (by rfl) ?_
      | refine ldAll aggW rfl _ rfl (by rfl) (s1.at 0 rfl) (by rfl) ?_
      | refine stAll aggW (vs := arr 4 fun _ => u64V 0) rfl _ _ rfl (by rfl) (by rfl) (s1.at 0 rfl) (by rfl) (by rfl) (arr_mem fun _ _ => rfl) ?_)
    go_wp2
    refine bodyPost_ret (v := .agg _) (ret_cell aggW rfl rfl (s2.at 0 rfl) rfl) rfl ⟨by rw [e0], s2.below⟩
  · have hd : decide (m = 0) = false := by simpa using h0
    rw [hd] at hz
    rw [if_neg h0]
    have h1 : 0 < m := by omega
    clear h0 hd
    go_enter Try.func27, Try.ntmps27
    have s1 := ((((St.start w).alloc (wordA x) 24).alloc' (wordA y) 24 (w.heap.size + 1) (by simp)).alloc' (wordA m) 24 (w.heap.size + 1 + 1) (by simp)).alloc' (arr 4 fun _ => u64V 0) 24 (w.heap.size + 1 + 1 + 1) (by simp)
    go_wp2_with (first
      | refine ldAll aggW rfl _ rfl (by rfl) (s1.at 1 rfl) (by rfl) ?_
      | refine ldAll aggW rfl _ rfl (by rfl) (s1.at 2 rfl) (by rfl) ?_
      | refine ldAll aggW rfl _ rfl (by rfl) (s1.at 3 rfl) (by rfl) ?_
      | (go_at_call 32
         refine (hp _).mono ?_
         rintro e w1 ⟨rfl, hw1⟩
         have s2 := (s1.ext hw1).alloc (arr 8 fun _ => .int .u64 0) 60
         have s3 := s2.setRow 0 rfl (wideA (x * y)))
      | refine stAll agg8 (vs := wideA (x * y)) rfl _ _ rfl (by rfl) (by rfl) (s2.at 0 rfl) (by rfl) (by rfl) (arr_mem fun _ _ => rfl) ?_)
    go_wp2
    refine Rg.region [([0, 1], 2)] [3, 4, 5] [6] (by kernel_rfl) (by kernel_rfl) fun w' hw' => ?_
    have st' := s3.ext hw'
    simp only [Rg.walk, Rg.pick, Rg.nth, List.map_cons, List.map_nil, Act.put]
    repeat (go_big_quiet_step (fail))
    refine qldAll aggW rfl _ rfl (by rfl) (st'.at 2 rfl) (by rfl) ?_
    refine wpQuiet_nil ?_
    have hd := divide (x * y) m 8 8 w1.heap.size 0 w' (by omega) (by omega) (by rw [show (8 : Nat) = 4 + 4 from rfl, Nat.pow_add]; exact Nat.mul_lt_mul_of_lt_of_lt hx hy) h1 hm (fun i hi => by rw [Nat.zero_add]; exact st'.cell 0 rfl i (arr_get 8 _ i hi))
    go_wp2_with (go_at_call 34; refine hd.mono ?_; rintro e w2 ⟨rfl, hw2⟩)
    refine ⟨hw2, ?_⟩
    repeat (go_big_quiet_step (fail))
    refine wpQuiet_nil ?_
    have st2 := st'.ext hw2
    have st3 := st2.setRow 1 rfl (wordA (x * y % m))
    have st4 := st3.setRow 1 rfl (wordA (x * y % m))
    go_wp2_with (first
      | refine stAll aggW (vs := wordA (x * y % m)) rfl _ _ rfl (by rfl) (by rfl) (st2.at 1 rfl) (by rfl) (by rfl) (wordA_mem _) ?_
      | refine ldAll aggW rfl _ rfl (by rfl) (st3.at 1 rfl) (by rfl) ?_
      | refine stAll aggW (vs := wordA (x * y % m)) rfl _ _ rfl (by rfl) (by rfl) (st3.at 1 rfl) (by rfl) (by rfl) (wordA_mem _) ?_)
    go_wp2
    refine bodyPost_ret (v := .agg _) (ret_cell aggW rfl rfl (st4.at 1 rfl) rfl) rfl ⟨rfl, st4.below⟩

theorem elU : El Try.prog 62 22 1 8 := ⟨by kernel_rfl, by
  obtain ⟨i, h1, h2, h3, h4⟩ := info_parts (P := Try.prog) (e := 22) (z := .int .u64 0) (size := 1) (bytes := 8) (by kernel_rfl)
  exact ⟨i, _, h1, h2, h3, h4, rfl⟩, by omega⟩

theorem AddMod (x y m : Nat) (hx : x < M256) (hy : y < M256) (hm : m < M256) (w : World) : Calls Try.prog 26 #[.agg (wordA x), .agg (wordA y), .agg (wordA m)] w fun e w' => e = .returned (.agg (wordA (if m = 0 then 0 else (x + y) % m))) ∧ Ext w w' := by
  have hz := isZero m hm
  have e0 : (arr 4 fun _ => u64V 0) = wordA 0 := zeroW
  by_cases h0 : m = 0
  · subst h0
    rw [if_pos rfl]
    rw [show decide ((0 : Nat) = 0) = true from rfl] at hz
    go_enter Try.func26, Try.ntmps26
    have s1 := ((((St.start w).alloc (wordA x) 24).alloc' (wordA y) 24 (w.heap.size + 1) (by simp)).alloc' (wordA 0) 24 (w.heap.size + 1 + 1) (by simp)).alloc' (arr 4 fun _ => u64V 0) 24 (w.heap.size + 1 + 1 + 1) (by simp)
    have s2 := s1.setRow 0 rfl (arr 4 fun _ => u64V 0)
    go_wp2_with (first
      | refine ldAll aggW rfl _ rfl (by rfl) (s1.at 1 rfl) (by rfl) ?_
      | refine ldAll aggW rfl _ rfl (by rfl) (s1.at 0 rfl) (by rfl) ?_
      | refine stAll aggW (vs := arr 4 fun _ => u64V 0) rfl _ _ rfl (by rfl) (by rfl) (s1.at 0 rfl) (by rfl) (by rfl) (arr_mem fun _ _ => rfl) ?_)
    go_wp2
    refine bodyPost_ret (v := .agg _) (ret_cell aggW rfl rfl (s2.at 0 rfl) rfl) rfl ⟨by rw [e0], s2.below⟩
  · have hd : decide (m = 0) = false := by simpa using h0
    rw [hd] at hz
    rw [if_neg h0]
    have h1 : 0 < m := by omega
    clear h0 hd
    have hN : x + y < m64 ^ 5 := by
      have : m64 ^ 5 = M256 * m64 := Nat.pow_succ ..
      rw [this]
      have : M256 * 2 ≤ M256 * m64 := Nat.mul_le_mul_left _ (by unfold m64; omega)
      omega
    have hc4 : carry x y 4 = limb (x + y) 4 := by
      unfold carry limb
      rw [Nat.mod_eq_of_lt (show x < m64 ^ 4 from hx), Nat.mod_eq_of_lt (show y < m64 ^ 4 from hy), Nat.mod_eq_of_lt (Nat.div_lt_of_lt_mul (by rw [← Nat.pow_succ]; exact hN))]
    have hsum := sum x y
    rw [hc4] at hsum
    clear hc4
    go_enter Try.func26, Try.ntmps26
    have s1 := ((((St.start w).alloc (wordA x) 24).alloc' (wordA y) 24 (w.heap.size + 1) (by simp)).alloc' (wordA m) 24 (w.heap.size + 1 + 1) (by simp)).alloc' (arr 4 fun _ => u64V 0) 24 (w.heap.size + 1 + 1 + 1) (by simp)
    go_wp2_with (first
      | refine ldAll aggW rfl _ rfl (by rfl) (s1.at 1 rfl) (by rfl) ?_
      | refine ldAll aggW rfl _ rfl (by rfl) (s1.at 2 rfl) (by rfl) ?_
      | refine ldAll aggW rfl _ rfl (by rfl) (s1.at 3 rfl) (by rfl) ?_
      | (go_at_call 31
         refine (hsum _).mono ?_
         rintro e w1 ⟨rfl, hw1⟩
         have s2 := (s1.ext hw1).alloc (arr 4 fun _ => .int .u64 0) 24
         have s3 := s2.setRow 0 rfl (wordA (x + y)))
      | refine stAll aggW (vs := wordA (x + y)) rfl _ _ rfl (by rfl) (by rfl) (s2.at 0 rfl) (by rfl) (by rfl) (wordA_mem _) ?_)
    go_wp2
    refine Rg.region [([0, 1, 4], 2), ([], 3), ([], 5)] [6, 7, 8] [9] (by kernel_rfl) (by kernel_rfl) fun w' hw' => ?_
    have st' := s3.ext hw'
    simp only [Rg.walk, Rg.pick, Rg.nth, List.map_cons, List.map_nil]
    repeat (go_big_quiet_step (fail))
    refine qldAll aggW rfl _ rfl (by rfl) (st'.at 2 rfl) (by rfl) ?_
    refine wpQuiet_nil ?_
    go_wp2
    refine ⟨Below.alloc (Below.refl _ _) (Nat.le_refl _) _, ?_⟩
    refine wpQuiet_nil ?_
    have st2 := st'.alloc #[.int .u64 (limb (x + y) 4 : Int)] 22
    have hS0 : Sl (w'.alloc (.cells #[.int .u64 (limb (x + y) 4 : Int)] 22)) (w'.heap.size + 1) 1 (some ⟨w1.heap.size, 0, none⟩) 4 4 (wordA (x + y)).toList :=
      ⟨by rfl, by omega, by simp [maxLen], (fun h => by cases h), fun _ => ⟨_, 0, rfl, by have := st2.lt 1 rfl; simpa using this, fun j u hj => by
        rw [Nat.zero_add]
        refine st2.cell 1 rfl j ?_
        rw [Array.getElem?_toList] at hj
        exact hj⟩⟩
    go_wp2_with (refine grows elU rfl _ _ rfl (by rfl) hS0 (by rfl) (Sl.lit w' #[.int .u64 (limb (x + y) 4 : Int)] 22 1 1 rfl (by simp [maxLen])) (by simp [Value.oneCell']) (by omega) (by omega) (by omega) (by omega) ?_)
    intro v' w3 hown hx3
    obtain ⟨g, cap, rfl, hn5, hcap, _, _, hcells⟩ := own_pos hown (by omega)
    go_wp2
    refine ⟨hx3, ?_⟩
    refine wpQuiet_nil ?_
    have st3 := st2.ext hx3
    have hd := divide (x + y) m 5 cap g 0 w3 (by omega) (by omega) hN h1 hm (fun i hi => by
      rw [Nat.zero_add]
      refine hcells i _ ?_
      by_cases h4 : i < 4
      · rw [List.getElem?_append_left (by simp [wordA, arr_size]; exact h4), Array.getElem?_toList]; exact wordA_get (x + y) i h4
      · obtain rfl : i = 4 := by omega
        rw [List.getElem?_append_right (by simp [wordA, arr_size])]
        simp [wordA, arr_size])
    go_wp2_with (go_at_call 34; refine hd.mono ?_; rintro e w4 ⟨rfl, hw4⟩)
    refine ⟨hw4, ?_⟩
    repeat (go_big_quiet_step (fail))
    refine wpQuiet_nil ?_
    have st4 := st3.ext hw4
    have st5 := st4.setRow 2 rfl (wordA ((x + y) % m))
    have st6 := st5.setRow 2 rfl (wordA ((x + y) % m))
    go_wp2_with (first
      | refine stAll aggW (vs := wordA ((x + y) % m)) rfl _ _ rfl (by rfl) (by rfl) (st4.at 2 rfl) (by rfl) (by rfl) (wordA_mem _) ?_
      | refine ldAll aggW rfl _ rfl (by rfl) (st5.at 2 rfl) (by rfl) ?_
      | refine stAll aggW (vs := wordA ((x + y) % m)) rfl _ _ rfl (by rfl) (by rfl) (st5.at 2 rfl) (by rfl) (by rfl) (wordA_mem _) ?_)
    go_wp2
    refine bodyPost_ret (v := .agg _) (ret_cell aggW rfl rfl (st6.at 2 rfl) rfl) rfl ⟨rfl, st6.below⟩
end Wd
end Go.Proofs.Ytkfjlebchgbfmaa

/- Walks of package word: Int, sum, Add, Sub, Cmp. -/
import Derived.Test.YtpecjhjpdaifoaaWMath
import Derived.Shelf.Bits.Mul64
import Derived.Test.YtpecjhjpdaifoaaRegionF
namespace Go.Proofs.Ytpecjhjpdaifoaa
open Go.RowKit Rp Rg Ops Mm Ar Wm
namespace Wd
theorem aggW : Agg Try.prog 24 4 := ⟨⟨.array 4 22, by kernel_rfl, rfl⟩, by kernel_rfl⟩

theorem Add64 (x y c : Nat) (hc : c ≤ 1) (w : World) : (callFunc 55 #[.int .u64 (x : Int), .int .u64 (y : Int), .int .u64 (c : Int)]).run Try.prog w =
    .ok (.value (.tuple #[.int .u64 (((x + y + c) % m64 : Nat) : Int), .int .u64 (((x + y + c) / m64 : Nat) : Int)])) w := by
  rw [run_callFunc_extern (e := add64Entry) Try.func55 (by kernel_rfl) (by kernel_rfl) (by kernel_rfl) (by kernel_rfl)]
  rw [run_add64 _ _ _ (by omega) (by omega) (by omega) (by omega)]
  simp [Result.andThen, m64]

/-- Cell k is set: the rest is as it was. -/
theorem grow_at {α : Type} (V : α → Value) (f : Nat → α) (z : α) (k i : Nat) : V (if i < k + 1 then f i else z) = if i = k then V (f k) else V (if i < k then f i else z) := by
  by_cases h : i = k
  · subst h; simp
  · rw [if_neg h]
    by_cases h2 : i < k
    · rw [if_pos h2, if_pos (Nat.lt_succ_of_lt h2)]
    · rw [if_neg h2, if_neg (by omega)]

theorem word_small (n : Nat) (h0 : n < m64) : wordA n = #[.int .u64 (n : Int), .int .u64 0, .int .u64 0, .int .u64 0] := by
  simp only [wordA, arr, List.range_succ_eq_map, List.range_zero, List.map_cons, List.map_nil, u64V]
  have e0 : limb n 0 = n := by simp [limb, Nat.mod_eq_of_lt h0]
  have e : ∀ k, limb n (k + 1) = 0 := fun k => by
    unfold limb
    rw [Nat.div_eq_of_lt (Nat.lt_of_lt_of_le h0 (by rw [Nat.pow_succ]; exact Nat.le_mul_of_pos_left _ (pow_pos' k)))]
    simp
  simp [e0, e]

theorem IntW (n : Nat) (hn : n < m64) (w : World) : Calls Try.prog 25 #[.int .u64 (n : Int)] w fun e w' => e = .returned (.agg (wordA n)) ∧ Ext w w' := by
  have hz := word_small n hn
  have HZ := Lib.hid hz
  clear hz
  have s1 := (St.start w).alloc (arr 4 fun _ => .int .u64 0) 24
  have s2 := s1.setRow 0 rfl #[.int .u64 (n : Int), .int .u64 0, .int .u64 0, .int .u64 0]
  go_enter Try.func25, Try.ntmps25
  go_wp2_with (refine stAll aggW (vs := #[.int .u64 (n : Int), .int .u64 0, .int .u64 0, .int .u64 0]) rfl _ _ rfl (by rfl) (by rfl) (s1.at 0 rfl) (by rfl) (by rfl) (by simp [Value.oneCell']) ?_)
  go_wp2
  refine bodyPost_ret (v := .agg _) (ret_cell aggW rfl rfl (s2.at 0 rfl) rfl) rfl ⟨by rw [HZ.out], s2.below⟩

/-- The sum, and what is carried. -/
theorem sum (x y : Nat) (w : World) : Calls Try.prog 49 #[.agg (wordA x), .agg (wordA y)] w fun e w' => e = .returned (.tuple #[.agg (wordA (x + y)), .int .u64 (carry x y 4 : Int)]) ∧ Ext w w' := by
  have hadd := fun k => Add64 (limb x k) (limb y k) (carry x y k) (carry_le x y k)
  simp only [sum_limb, sum_carry] at hadd
  go_enter Try.func49, Try.ntmps49
  go_wp2
  have s1 := (((St.start w).alloc (wordA x) 24).alloc' (wordA y) 24 (w.heap.size + 1) (by simp)).alloc' (arr 4 fun _ => u64V 0) 24 (w.heap.size + 1 + 1) (by simp)
  go_loopw [5, 7] (fun c i wr => ∃ k : Nat, k ≤ 4 ∧ i = .int .i64 k ∧ c = .int .u64 (carry x y k : Int) ∧
      St w wr [(w.heap.size + 1 + 1, 24, arr 4 fun i => u64V (if i < k then limb (x + y) i else 0)), (w.heap.size + 1, 24, wordA y), (w.heap.size, 24, wordA x)]) (fun _ i _ => 4 - (intOf i).toNat)
  case atStart => exact ⟨0, by omega, rfl, by rw [carry_zero]; rfl, s1⟩
  case round =>
    obtain ⟨k, hk, rfl, rfl, st⟩ := hrel
    by_cases hlt : k < 4
    · have a1 := st.cell 2 rfl k (wordA_get x k hlt)
      have a2 := st.cell 1 rfl k (wordA_get y k hlt)
      go_wp2
      refine Rf.region (· ≠ w.heap.size + 1 + 1) [([0, 1, 2, 3, 4, 5, 6, 7], 8), ([9, 10, 11, 12], 13)] [14] [] (by kernel_rfl) (by kernel_rfl) fun w' hw' => ?_
      have st' := st.ext hw'
      have b1 := Rf.later (F := (· ≠ w.heap.size + 1 + 1)) (st'.cell 2 rfl k (wordA_get x k hlt)) (by simp; omega)
      have b2 := Rf.later (F := (· ≠ w.heap.size + 1 + 1)) (st'.cell 1 rfl k (wordA_get y k hlt)) (by simp)
      have c3 := st'.cell 0 rfl k (arr_get 4 _ k hlt)
      have f3 := st'.frozen 0 rfl k
      have hc := hadd k
      simp only [Rf.walk, Rg.pick, Rg.nth, List.map_cons, List.map_nil]
      repeat (go_big_quiet_step (fail))
      refine wpQuiet_nil ?_
      go_wp2
      refine ⟨Rf.Ext.refl _, ?_⟩
      repeat (go_big_quiet_step (fail))
      refine wpQuiet_nil ?_
      go_wp2
      refine ⟨Rf.Ext.setCell _ _ _ (by simp), ?_⟩
      repeat (go_big_quiet_step (fail))
      refine wpQuiet_nil ?_
      go_wp2
      go_roundw
      case rel =>
        refine ⟨k + 1, by omega, by simp, rfl, ?_⟩
        exact st'.setFn 0 rfl k _ (fun i hi => grow_at (u64V) (limb (x + y)) 0 k i) rfl
      case measure => simp [intOf]; omega
    · obtain rfl : k = 4 := by omega
      have e : (arr 4 fun i => u64V (if i < 4 then limb (x + y) i else 0)) = wordA (x + y) := arr_ext fun i hi => by rw [if_pos hi]
      rw [e] at st
      have s2 := st.setRow 0 rfl (wordA (x + y))
      go_wp2_with (first
        | refine ldAll aggW rfl _ rfl (by rfl) (st.at 0 rfl) (by rfl) ?_
        | refine stAll aggW (vs := wordA (x + y)) rfl _ _ rfl (by rfl) (by rfl) (st.at 0 rfl) (by rfl) (by rfl) (wordA_mem _) ?_)
      go_wp2
      refine bodyPost_ret (v := .tuple #[.agg (wordA (x + y)), .int .u64 (carry x y 4 : Int)]) (ret_two rfl (slot_cell aggW rfl (s2.at 0 rfl) (by rfl)) (slot_tmp rfl)) rfl ⟨rfl, s2.below⟩

def sub64Entry : Array Value → Sem Value := fun args => do
  let (x, y, b) ← Extern.MathBitsCarry.three "Sub64" args
  pure (Extern.MathBitsCarry.pair ((x + Extern.MathBitsCarry.m64 - y - b) % Extern.MathBitsCarry.m64) (if x < y + b then 1 else 0))
theorem run_sub64 {P : Program} (x y c : Nat) (hc : c ≤ 1) (w : World) : (sub64Entry #[.int .u64 x, .int .u64 y, .int .u64 c]).run P w =
    .ok (.tuple #[.int .u64 ((x + m64 - y - c) % m64 : Nat), .int .u64 ((if x < y + c then 1 else 0 : Nat) : Int)]) w := by
  have : c = 0 ∨ c = 1 := by omega
  rcases this with rfl | rfl <;> rfl
theorem Sub64 (x y c : Nat) (hc : c ≤ 1) (w : World) : (callFunc 51 #[.int .u64 (x : Int), .int .u64 (y : Int), .int .u64 (c : Int)]).run Try.prog w =
    .ok (.value (.tuple #[.int .u64 (((x + m64 - y - c) % m64 : Nat) : Int), .int .u64 ((if x < y + c then 1 else 0 : Nat) : Int)])) w := by
  rw [run_callFunc_extern (e := sub64Entry) Try.func51 (by kernel_rfl) (by kernel_rfl) (by kernel_rfl) (by kernel_rfl)]
  rw [run_sub64 _ _ _ hc]
  simp [Result.andThen]

set_option maxHeartbeats 1000000 in
theorem Mul64 (x y : Nat) (hx : x < m64) (hy : y < m64) (w : World) :
    Calls Try.prog 54 #[.int .u64 x, .int .u64 y] w fun e w' => e = .returned (.tuple #[.int .u64 ((x * y / m64 : Nat) : Int), .int .u64 ((x * y % m64 : Nat) : Int)]) ∧ w' = w := by
  unfold m64 at *
  obtain ⟨bd, bt, bw, hhi⟩ := Lib.mul64_hi x y hx hy
  have ba := Lib.half_mul_le (a := x / 4294967296) (b := y / 4294967296) (by omega) (by omega)
  have bb := Lib.half_mul_le (a := x / 4294967296) (b := y % 4294967296) (by omega) (by omega)
  have bc := Lib.half_mul_le (a := x % 4294967296) (b := y / 4294967296) (by omega) (by omega)
  have ba' : x / 4294967296 * (y / 4294967296) < 18446744073709551616 := by omega
  have bb' : x / 4294967296 * (y % 4294967296) < 18446744073709551616 := by omega
  have bc' : x % 4294967296 * (y / 4294967296) < 18446744073709551616 := by omega
  have bh1 : x / 4294967296 * (y / 4294967296) + (x / 4294967296 * (y % 4294967296) + x % 4294967296 * (y % 4294967296) / 4294967296) / 4294967296 < 18446744073709551616 := by omega
  have bh : x / 4294967296 * (y / 4294967296) + (x / 4294967296 * (y % 4294967296) + x % 4294967296 * (y % 4294967296) / 4294967296) / 4294967296 + ((x / 4294967296 * (y % 4294967296) + x % 4294967296 * (y % 4294967296) / 4294967296) % 4294967296 + x % 4294967296 * (y / 4294967296)) / 4294967296 < 18446744073709551616 := by omega
  go_enter Try.func54, Try.ntmps54
  go_wp2
  simp only [Mul64.maskN x hx, Mul64.maskN y hy, Mul64.divN, Mul64.mulN, Mul64.addN, Mul64.wrapN _ bd, Mul64.wrapN _ bb', Mul64.wrapN _ bt, Mul64.maskN _ bt, Mul64.wrapN _ bc', Mul64.wrapN _ bw, Mul64.wrapN _ ba', Mul64.wrapN _ bh1, Mul64.wrapN _ bh, Mul64.wrapM (x * y)]
  rw [hhi]
  go_ret2
  exact ⟨rfl, rfl⟩
end Wd
end Go.Proofs.Ytpecjhjpdaifoaa

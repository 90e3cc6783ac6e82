/- A part of the proof: texts joined. -/
import Derived.Shelf.Bits.Mul64
import Derived.Test.YtpaafpmofhajfaaGreatDoorQ6e3c558
import Derived.Test.YtpaafpmofhajfaaGreatDoorQ7261756
set_option linter.unusedVariables false
set_option linter.unusedSimpArgs false
namespace Go.Proofs.YtpaafpmofhajfaaGreatDoor
open Go.RowKit Rp Rg Ops Mm Ar Wm
namespace Wd
theorem aggW : Agg Tryz.prog 26 4 := ⟨⟨.array 4 24, by kernel_rfl, rfl⟩, by kernel_rfl⟩
theorem Add64 (x y c : Nat) (hc : c ≤ 1) (w : World) : (callFunc 97 #[.int .u64 (x : Int), .int .u64 (y : Int), .int .u64 (c : Int)]).run Tryz.prog w =
  .ok (.value (.tuple #[.int .u64 (((x + y + c) % m64 : Nat) : Int), .int .u64 (((x + y + c) / m64 : Nat) : Int)])) w := by
 rw [run_callFunc_extern (e := add64Entry) Tryz.func97 (by kernel_rfl) (by kernel_rfl) (by kernel_rfl) (by kernel_rfl)]
 rw [run_add64 _ _ _ (by omega) (by omega) (by omega) (by omega)]
 simp [Result.andThen, m64]
theorem grow_at {α : Type} (V : α → Value) (f : Nat → α) (z : α) (k i : Nat) : V (if i < k + 1 then f i else z) = if i = k then V (f k) else V (if i < k then f i else z) := by
 by_cases h : i = k
 ·subst h; simp
 ·rw [if_neg h]
  by_cases h2 : i < k
  ·rw [if_pos h2, if_pos (Nat.lt_succ_of_lt h2)]
  ·rw [if_neg h2, if_neg (by omega)]
theorem word_small (n : Nat) (h0 : n < m64) : wordA n = #[.int .u64 (n : Int), .int .u64 0, .int .u64 0, .int .u64 0] := by
 simp only [wordA, arr, List.range_succ_eq_map, List.range_zero, List.map_cons, List.map_nil, u64V]
 have e0 : limb n 0 = n := by simp [limb, Nat.mod_eq_of_lt h0]
 have e : ∀ k, limb n (k + 1) = 0 := fun k => by
  unfold limb
  rw [Nat.div_eq_of_lt (Nat.lt_of_lt_of_le h0 (by rw [Nat.pow_succ]; exact Nat.le_mul_of_pos_left _ (pow_pos' k)))]
  simp
 simp [e0, e]
theorem IntW (n : Nat) (hn : n < m64) (w : World) : Calls Tryz.prog 17 #[.int .u64 (n : Int)] w fun e w' => e = .returned (.agg (wordA n)) ∧ Ext w w' := by
 have hz := word_small n hn
 have HZ := Lib.hid hz
 clear hz
 have s1 := (St.start w).alloc (arr 4 fun _ => .int .u64 0) 26
 have s2 := s1.setRow 0 rfl #[.int .u64 (n : Int), .int .u64 0, .int .u64 0, .int .u64 0]
 go_enter Tryz.func17, Tryz.ntmps17
 go_wp2_with (refine stAll aggW (vs := #[.int .u64 (n : Int), .int .u64 0, .int .u64 0, .int .u64 0]) rfl _ _ rfl (by rfl) (by rfl) (s1.at 0 rfl) (by rfl) (by rfl) (by simp [Value.oneCell']) ?_)
 go_wp2
 refine bodyPost_ret (v := .agg _) (ret_cell aggW rfl rfl (s2.at 0 rfl) rfl) rfl ⟨by rw [HZ.out], s2.below⟩
theorem sum (x y : Nat) (w : World) : Calls Tryz.prog 104 #[.agg (wordA x), .agg (wordA y)] w fun e w' => e = .returned (.tuple #[.agg (wordA (x + y)), .int .u64 (carry x y 4 : Int)]) ∧ Ext w w' := by
  have hadd := fun k => Add64 (limb x k) (limb y k) (carry x y k) (carry_le x y k)
  simp only [sum_limb, sum_carry] at hadd
  go_enter Tryz.func104, Tryz.ntmps104
  go_wp2
  have s1 := (((St.start w).alloc (wordA x) 26).alloc' (wordA y) 26 (w.heap.size + 1) (by simp)).alloc' (arr 4 fun _ => u64V 0) 26 (w.heap.size + 1 + 1) (by simp)
  go_loopw [5, 7] (fun c i wr => ∃ k : Nat, k ≤ 4 ∧ i = .int .i64 k ∧ c = .int .u64 (carry x y k : Int) ∧
      St w wr [(w.heap.size + 1 + 1, 26, arr 4 fun i => u64V (if i < k then limb (x + y) i else 0)), (w.heap.size + 1, 26, wordA y), (w.heap.size, 26, wordA x)]) (fun _ i _ => 4 - (intOf i).toNat)
  case atStart => exact ⟨0, by omega, rfl, by rw [carry_zero]; rfl, s1⟩
  case round =>
    obtain ⟨k, hk, rfl, rfl, st⟩ := hrel
    by_cases hlt : k < 4
    · have a1 := st.cell 2 rfl k (wordA_get x k hlt)
      have a2 := st.cell 1 rfl k (wordA_get y k hlt)
      go_wp2
      refine Rf.region (· ≠ w.heap.size + 1 + 1) [([0, 1, 2, 3, 4, 5, 6, 7], 8), ([9, 10, 11, 12], 13)] [14] [] (by kernel_rfl) (by kernel_rfl) fun w' hw' => ?_
      have st' := st.ext hw'
      have b1 := Rf.later (F := (· ≠ w.heap.size + 1 + 1)) (st'.cell 2 rfl k (wordA_get x k hlt)) (by simp; omega)
      have b2 := Rf.later (F := (· ≠ w.heap.size + 1 + 1)) (st'.cell 1 rfl k (wordA_get y k hlt)) (by simp)
      have c3 := st'.cell 0 rfl k (arr_get 4 _ k hlt)
      have f3 := st'.frozen 0 rfl k
      have hc := hadd k
      simp only [Rf.walk, Rg.pick, Rg.nth, List.map_cons, List.map_nil]
      repeat (go_big_quiet_step (fail))
      refine wpQuiet_nil ?_
      go_wp2
      refine ⟨Rf.Ext.refl _, ?_⟩
      repeat (go_big_quiet_step (fail))
      refine wpQuiet_nil ?_
      go_wp2
      refine ⟨Rf.Ext.setCell _ _ _ (by simp), ?_⟩
      repeat (go_big_quiet_step (fail))
      refine wpQuiet_nil ?_
      go_wp2
      go_roundw
      case rel =>
        refine ⟨k + 1, by omega, by simp, rfl, ?_⟩
        exact st'.setFn 0 rfl k _ (fun i hi => grow_at (u64V) (limb (x + y)) 0 k i) rfl
      case measure => simp [intOf]; omega
    · obtain rfl : k = 4 := by omega
      have e : (arr 4 fun i => u64V (if i < 4 then limb (x + y) i else 0)) = wordA (x + y) := arr_ext fun i hi => by rw [if_pos hi]
      rw [e] at st
      have s2 := st.setRow 0 rfl (wordA (x + y))
      go_wp2_with (first
        | refine ldAll aggW rfl _ rfl (by rfl) (st.at 0 rfl) (by rfl) ?_
        | refine stAll aggW (vs := wordA (x + y)) rfl _ _ rfl (by rfl) (by rfl) (st.at 0 rfl) (by rfl) (by rfl) (wordA_mem _) ?_)
      go_wp2
      refine bodyPost_ret (v := .tuple #[.agg (wordA (x + y)), .int .u64 (carry x y 4 : Int)]) (ret_two rfl (slot_cell aggW rfl (s2.at 0 rfl) (by rfl)) (slot_tmp rfl)) rfl ⟨rfl, s2.below⟩
def sub64Entry : Array Value → Sem Value := fun args => do
 let (x, y, b) ← Extern.MathBitsCarry.three "Sub64" args
 pure (Extern.MathBitsCarry.pair ((x + Extern.MathBitsCarry.m64 - y - b) % Extern.MathBitsCarry.m64) (if x < y + b then 1 else 0))
theorem run_sub64 {P : Program} (x y c : Nat) (hc : c ≤ 1) (w : World) : (sub64Entry #[.int .u64 x, .int .u64 y, .int .u64 c]).run P w =
  .ok (.tuple #[.int .u64 ((x + m64 - y - c) % m64 : Nat), .int .u64 ((if x < y + c then 1 else 0 : Nat) : Int)]) w := by
 have : c = 0 ∨ c = 1 := by omega
 rcases this with rfl | rfl <;> rfl
theorem Sub64 (x y c : Nat) (hc : c ≤ 1) (w : World) : (callFunc 66 #[.int .u64 (x : Int), .int .u64 (y : Int), .int .u64 (c : Int)]).run Tryz.prog w =
  .ok (.value (.tuple #[.int .u64 (((x + m64 - y - c) % m64 : Nat) : Int), .int .u64 ((if x < y + c then 1 else 0 : Nat) : Int)])) w := by
 rw [run_callFunc_extern (e := sub64Entry) Tryz.func66 (by kernel_rfl) (by kernel_rfl) (by kernel_rfl) (by kernel_rfl)]
 rw [run_sub64 _ _ _ hc]
 simp [Result.andThen]
end Wd
open Go.RowKit Rp Rg Ops Mm Ar Wm
namespace Wd
theorem Sub (x y : Nat) (w : World) : Calls Tryz.prog 40 #[.agg (wordA x), .agg (wordA y)] w fun e w' => e = .returned (.agg (wordA (dif x y))) ∧ Ext w w' := by
  go_enter Tryz.func40, Tryz.ntmps40
  go_wp2
  have s1 := ((((St.start w).alloc (wordA x) 26).alloc' (wordA y) 26 (w.heap.size + 1) (by simp)).alloc' (arr 4 fun _ => u64V 0) 26 (w.heap.size + 1 + 1) (by simp)).alloc' (arr 4 fun _ => u64V 0) 26 (w.heap.size + 1 + 1 + 1) (by simp)
  go_loopw [6, 8] (fun c i wr => ∃ k : Nat, k ≤ 4 ∧ i = .int .i64 k ∧ c = .int .u64 (borrow x y k : Int) ∧
      St w wr [(w.heap.size + 1 + 1 + 1, 26, arr 4 fun i => u64V (if i < k then limb (dif x y) i else 0)), (w.heap.size + 1 + 1, 26, arr 4 fun _ => u64V 0), (w.heap.size + 1, 26, wordA y), (w.heap.size, 26, wordA x)]) (fun _ i _ => 4 - (intOf i).toNat)
  case atStart => exact ⟨0, by omega, rfl, by rw [borrow_zero]; rfl, s1⟩
  case round =>
    obtain ⟨k, hk, rfl, rfl, st⟩ := hrel
    by_cases hlt : k < 4
    · have a1 := st.cell 3 rfl k (wordA_get x k hlt)
      have a2 := st.cell 2 rfl k (wordA_get y k hlt)
      go_wp2
      refine Rf.region (· ≠ w.heap.size + 1 + 1 + 1) [([0, 1, 2, 3, 4, 5, 6, 7], 8), ([9, 10, 11, 12], 13)] [14] [] (by kernel_rfl) (by kernel_rfl) fun w' hw' => ?_
      have st' := st.ext hw'
      have b1 := Rf.later (F := (· ≠ w.heap.size + 1 + 1 + 1)) (st'.cell 3 rfl k (wordA_get x k hlt)) (by simp; omega)
      have b2 := Rf.later (F := (· ≠ w.heap.size + 1 + 1 + 1)) (st'.cell 2 rfl k (wordA_get y k hlt)) (by simp)
      have c3 := st'.cell 0 rfl k (arr_get 4 _ k hlt)
      have f3 := st'.frozen 0 rfl k
      have hc := Sub64 (limb x k) (limb y k) (borrow x y k) (borrow_le x y k)
      rw [sub_limb x y k hlt, sub_borrow] at hc
      simp only [Rf.walk, Rg.pick, Rg.nth, List.map_cons, List.map_nil]
      repeat (go_big_quiet_step (fail))
      refine wpQuiet_nil ?_
      go_wp2
      refine ⟨Rf.Ext.refl _, ?_⟩
      repeat (go_big_quiet_step (fail))
      refine wpQuiet_nil ?_
      go_wp2
      refine ⟨Rf.Ext.setCell _ _ _ (by simp), ?_⟩
      repeat (go_big_quiet_step (fail))
      refine wpQuiet_nil ?_
      go_wp2
      go_roundw
      case rel =>
        refine ⟨k + 1, by omega, by simp, rfl, ?_⟩
        exact st'.setFn 0 rfl k _ (fun i hi => grow_at (u64V) (limb (dif x y)) 0 k i) rfl
      case measure => simp [intOf]; omega
    · obtain rfl : k = 4 := by omega
      have e : (arr 4 fun i => u64V (if i < 4 then limb (dif x y) i else 0)) = wordA (dif x y) := arr_ext fun i hi => by rw [if_pos hi]
      rw [e] at st
      have s2 := st.setRow 1 rfl (wordA (dif x y))
      go_wp2_with (first
        | refine ldAll aggW rfl _ rfl (by rfl) (st.at 0 rfl) (by rfl) ?_
        | refine stAll aggW (vs := wordA (dif x y)) rfl _ _ rfl (by rfl) (by rfl) (st.at 1 rfl) (by rfl) (by rfl) (wordA_mem _) ?_)
      go_wp2
      refine bodyPost_ret (v := .agg _) (ret_cell aggW rfl rfl (s2.at 1 rfl) rfl) rfl ⟨rfl, s2.below⟩
end Wd
namespace Wd
end Wd
open Go.RowKit Rg Wm Ar
namespace Lf
def limbs (x : Nat) : List Nat := [limb x 0, limb x 1, limb x 2, limb x 3]
abbrev wV (x : Nat) : V := .a ((limbs x).map uK)
theorem limbs_len (x : Nat) : (limbs x).length = 4 := rfl
theorem limbs_get (x : Nat) {k : Nat} (h : k < 4) : (limbs x).getD k default = limb x k := by
 match k, h with
 | 0, _ => rfl
 | 1, _ => rfl
 | 2, _ => rfl
 | 3, _ => rfl
theorem limb_lt64 (x k : Nat) : limb x k < 18446744073709551616 := limb_lt x k
theorem limbs_lt (x k : Nat) : (limbs x).getD k default < 18446744073709551616 := by
 rcases Nat.lt_or_ge k 4 with h | h
 ·rw [limbs_get x h]; exact limb_lt64 x k
 ·rw [List.getD_eq_getElem?_getD, List.getElem?_eq_none (by rw [limbs_len]; exact h)]; exact Nat.zero_lt_succ _
theorem wordA_list (x : Nat) : wordA x = #[.int .u64 (limb x 0 : Int), .int .u64 (limb x 1 : Int), .int .u64 (limb x 2 : Int), .int .u64 (limb x 3 : Int)] := rfl
theorem exact_word (x : Nat) : Exact (wV x) (.agg (wordA x)) := by
 rw [wordA_list]
 refine ⟨fun w g => .a rfl (fun u hu => ?_) (fun j u y hj hy => ?_), fun w g y h => ?_⟩
 ·obtain ⟨a, _, rfl⟩ := List.mem_map.1 hu; rfl
 ·match j with
  | 0 => simp [limbs] at hj hy; subst hj; subst hy; exact .k _
  | 1 => simp [limbs] at hj hy; subst hj; subst hy; exact .k _
  | 2 => simp [limbs] at hj hy; subst hj; subst hy; exact .k _
  | 3 => simp [limbs] at hj hy; subst hj; subst hy; exact .k _
  | j + 4 => simp [limbs] at hj
 ·cases h with
  | @a _ _ vs hl h1 hc =>
   have hs : vs.size = 4 := by simpa [limbs] using hl.symm
   congr 1
   apply Array.ext
   ·simpa using hs
   ·intro i h1 h2
    have hv : vs[i]? = some vs[i] := Array.getElem?_eq_getElem h1
    match i with
    | 0 => exact rep_k (hc 0 _ _ rfl hv)
    | 1 => exact rep_k (hc 1 _ _ rfl hv)
    | 2 => exact rep_k (hc 2 _ _ rfl hv)
    | 3 => exact rep_k (hc 3 _ _ rfl hv)
    | i + 4 => omega
theorem limbs_small {n : Nat} (h : n < m64) : limbs n = [n, 0, 0, 0] := by
 have h0 : limb n 0 = n := by unfold limb; rw [Nat.pow_zero, Nat.div_one, Nat.mod_eq_of_lt h]
 have hi : ∀ i, 1 ≤ i → limb n i = 0 := fun i hi => by
  have : m64 ≤ m64 ^ i := by
   have := Nat.pow_le_pow_right (show 0 < m64 from m64_pos) hi
   rwa [Nat.pow_one] at this
  unfold limb; rw [Nat.div_eq_of_lt (by omega), Nat.zero_mod]
 unfold limbs
 rw [h0, hi 1 (by decide), hi 2 (by decide), hi 3 (by decide)]
def beB (x : Nat) : Nat → List UInt8
 | 0 => []
 | n + 1 => UInt8.ofNat (x / 256 ^ n % 256) :: beB x n
theorem beB_len (x n : Nat) : (beB x n).length = n := by induction n <;> simp [beB, *]
theorem beB_num (x : Nat) : ∀ n, Ps.beN (beB x n) = x % 256 ^ n
 | 0 => by simp [beB, Ps.beN, Ps.nat8, Ps.pos, Nat.mod_one]
 | n + 1 => by
  have ih := beB_num x n
  have e : Ps.beN (beB x (n + 1)) = x / 256 ^ n % 256 * 256 ^ n + Ps.beN (beB x n) := by
   simp only [beB, Ps.beN, Ps.nat8, List.map_cons, Ps.pos, List.length_map, beB_len, UInt8.toNat_ofNat']
   simp
  rw [e, ih, Nat.pow_succ, Nat.mod_mul, Nat.mul_comm]
  omega
theorem m256_bytes : M256 = 256 ^ 32 := by unfold M256 m64; decide
def wordB (x : Nat) : List UInt8 := beB x 32
theorem wordB_len (x : Nat) : (wordB x).length = 32 := beB_len x 32
theorem wordB_num (x : Nat) : Ps.beN (wordB x) = x % M256 := by rw [m256_bytes]; exact beB_num x 32
def bytesR (x i : Nat) : List UInt8 := (List.range 32).map fun j => if j < i then UInt8.ofNat (x / 256 ^ (31 - j) % 256) else 0
theorem bytesR_len (x i : Nat) : (bytesR x i).length = 32 := by simp [bytesR]
theorem bytesR_full (x : Nat) : bytesR x 32 = wordB x := by
 have e : ∀ n, beB x n = (List.range n).map fun j => UInt8.ofNat (x / 256 ^ (n - 1 - j) % 256) := by
  intro n
  induction n with
  | zero => rfl
  | succ n ih =>
   rw [beB, ih, List.range_succ_eq_map, List.map_cons, List.map_map]
   congr 1
   refine List.map_congr_left fun j hj => ?_
   have := List.mem_range.1 hj
   simp only [Function.comp]
   rw [show n + 1 - 1 - (j + 1) = n - 1 - j by omega]
 unfold wordB bytesR
 rw [e]
 refine List.map_congr_left fun j hj => ?_
 rw [if_pos (List.mem_range.1 hj)]
theorem bytesR_set (x i : Nat) (_hi : i < 32) {b : Nat} (hb : b % 256 = x / 256 ^ (31 - i) % 256) : (bytesR x i).set i (UInt8.ofNat b) = bytesR x (i + 1) := by
 apply List.ext_getElem
 ·simp [bytesR]
 ·intro j h1 h2
  rw [List.getElem_set]
  simp only [bytesR, List.getElem_map, List.getElem_range]
  by_cases h : i = j
  ·subst h
   rw [if_pos rfl, if_pos (by omega)]
   apply UInt8.toNat_inj.1
   rw [UInt8.toNat_ofNat', UInt8.toNat_ofNat']
   omega
  ·rw [if_neg h]
   by_cases h3 : j < i
   ·rw [if_pos h3, if_pos (by omega)]
   ·rw [if_neg h3, if_neg (by omega)]
theorem limb_byte (x k r : Nat) (hr : r < 8) : limb x k / 2 ^ (r * 8) % 256 = x / 256 ^ (8 * k + r) % 256 := by
 unfold limb
 have e1 : (256 : Nat) ^ (8 * k + r) = m64 ^ k * 2 ^ (r * 8) := by
  rw [Nat.pow_add, Nat.pow_mul]
  have h1 : (256 : Nat) ^ 8 = m64 := by unfold m64; decide
  have h2 : (256 : Nat) ^ r = 2 ^ (r * 8) := by rw [Nat.mul_comm, Nat.pow_mul]
  rw [h1, h2]
 rw [e1, ← Nat.div_div_eq_div_mul]
 generalize x / m64 ^ k = y
 have h3 : m64 = 2 ^ (r * 8) * 2 ^ ((8 - r) * 8) := by rw [← Nat.pow_add, show r * 8 + (8 - r) * 8 = 64 from by omega]; unfold m64; decide
 have h4 : (256 : Nat) ∣ 2 ^ ((8 - r) * 8) := by
  refine ⟨2 ^ ((8 - r) * 8 - 8), ?_⟩
  have : (8 - r) * 8 = 8 + ((8 - r) * 8 - 8) := by omega
  rw [this, Nat.pow_add]; simp
 rw [h3, Nat.mod_mul_right_div_self]
 exact Nat.mod_mod_of_dvd _ h4
theorem pow256 (i : Nat) : (256 : Nat) ^ i = m64 ^ (i / 8) * 2 ^ (i % 8 * 8) := by
 have h1 : (256 : Nat) ^ 8 = m64 := by unfold m64; decide
 have h2 : (256 : Nat) ^ (i % 8) = 2 ^ (i % 8 * 8) := by rw [Nat.mul_comm, Nat.pow_mul]
 rw [← h1, ← h2, ← Nat.pow_mul, ← Nat.pow_add, Nat.div_add_mod]
theorem limb_set {V b i : Nat} (hV : V < 256 ^ i) (hb : b < 256) (k : Nat) : limb (V + b * 256 ^ i) k = if k = i / 8 then limb V k ||| (b * 2 ^ (i % 8 * 8) % 2 ^ 64) else limb V k := by
 have hp := pow256 i
 have hm : 2 ^ 64 = m64 := by unfold m64; decide
 have hr : i % 8 < 8 := Nat.mod_lt _ (by decide)
 have h64 : m64 = 2 ^ (i % 8 * 8) * 2 ^ (64 - i % 8 * 8) := by rw [← Nat.pow_add, ← hm, show i % 8 * 8 + (64 - i % 8 * 8) = 64 from by omega]
 have hpos : ∀ j, 0 < m64 ^ j := fun j => pow_pos' j
 have hle : b * 2 ^ (i % 8 * 8) + 2 ^ (i % 8 * 8) ≤ m64 := by
  have h1 : (2 : Nat) ^ 8 ≤ 2 ^ (64 - i % 8 * 8) := Nat.pow_le_pow_right (by decide) (by omega)
  have h2 : (b + 1) * 2 ^ (i % 8 * 8) ≤ 2 ^ (64 - i % 8 * 8) * 2 ^ (i % 8 * 8) := Nat.mul_le_mul_right _ (by omega)
  rw [Nat.mul_comm (2 ^ (64 - i % 8 * 8)), ← h64, Nat.add_mul, Nat.one_mul] at h2
  exact h2
 have hs0 : 0 < 2 ^ (i % 8 * 8) := Nat.two_pow_pos _
 rcases Nat.lt_trichotomy k (i / 8) with h | h | h
 ·rw [if_neg (by omega)]
  obtain ⟨j, hj⟩ : ∃ j, i / 8 = k + 1 + j := ⟨i / 8 - k - 1, by omega⟩
  unfold limb
  rw [hp, hj, show b * (m64 ^ (k + 1 + j) * 2 ^ (i % 8 * 8)) = m64 ^ k * (m64 * (m64 ^ j * (b * 2 ^ (i % 8 * 8)))) from by rw [Nat.pow_add, Nat.pow_add, Nat.pow_one]; ac_rfl, Nat.add_mul_div_left _ _ (hpos k), Nat.add_mul_mod_self_left]
 ·rw [if_pos h]
  subst h
  have hlt : V / m64 ^ (i / 8) < 2 ^ (i % 8 * 8) := Nat.div_lt_of_lt_mul (by rw [← hp]; exact hV)
  unfold limb
  rw [hp, show b * (m64 ^ (i / 8) * 2 ^ (i % 8 * 8)) = m64 ^ (i / 8) * (b * 2 ^ (i % 8 * 8)) from by ac_rfl, Nat.add_mul_div_left _ _ (hpos _)]
  rw [Nat.mod_eq_of_lt (show V / m64 ^ (i / 8) < m64 by omega), hm, Nat.mod_eq_of_lt (show b * 2 ^ (i % 8 * 8) < m64 by omega), Nat.mod_eq_of_lt (by omega)]
  rw [Nat.or_comm, Nat.mul_comm b, ← Nat.two_pow_add_eq_or_of_lt hlt, Nat.add_comm]
 ·rw [if_neg (by omega)]
  have h1 : (256 : Nat) ^ (i + 1) ≤ m64 ^ k := by
   have : (256 : Nat) ^ (i + 1) ≤ 256 ^ (8 * k) := Nat.pow_le_pow_right (by decide) (by omega)
   rw [Nat.pow_mul] at this
   have e : (256 : Nat) ^ 8 = m64 := by unfold m64; decide
   rwa [e] at this
  have h2 : V + b * 256 ^ i < 256 ^ (i + 1) := by
   have h2 := Nat.mul_le_mul_right (256 ^ i) (Nat.succ_le_of_lt hb)
   rw [Nat.pow_succ, Nat.mul_comm (256 ^ i)]
   rw [Nat.succ_mul] at h2
   omega
  unfold limb
  rw [Nat.div_eq_of_lt (by omega), Nat.div_eq_of_lt (by omega)]
def tailN (l : List UInt8) (i : Nat) : Nat := Ps.beN (l.drop (l.length - i))
theorem tailN_zero (l : List UInt8) : tailN l 0 = 0 := by unfold tailN; rw [Nat.sub_zero, List.drop_length]; rfl
theorem tailN_all (l : List UInt8) : tailN l l.length = Ps.beN l := by unfold tailN; rw [Nat.sub_self, List.drop_zero]
theorem tailN_lt (l : List UInt8) {i : Nat} (h : i ≤ l.length) : tailN l i < 256 ^ i := by
 have := Ps.beN_lt (l.drop (l.length - i))
 rwa [List.length_drop, show l.length - (l.length - i) = i by omega] at this
theorem tailN_succ (l : List UInt8) {i : Nat} (h : i < l.length) : tailN l (i + 1) = tailN l i + (l.getD (l.length - 1 - i) default).toNat * 256 ^ i := by
 unfold tailN
 rw [show l.length - (i + 1) = l.length - 1 - i by omega, List.drop_eq_getElem_cons (by omega)]
 have e : l.length - 1 - i + 1 = l.length - i := by omega
 rw [e]
 have e2 : ∀ (a : UInt8) (r : List UInt8), Ps.beN (a :: r) = a.toNat * 256 ^ r.length + Ps.beN r := fun a r => by simp [Ps.beN, Ps.nat8, Ps.pos]
 rw [e2, List.length_drop, show l.length - (l.length - i) = i by omega, Nat.add_comm]
 simp [List.getD_eq_getElem?_getD, List.getElem?_eq_getElem (show l.length - 1 - i < l.length by omega)]
attribute [irreducible] bytesR limbs tailN wordB
end Lf
open Go.RowKit Rg Wm Ar
set_option linter.unusedVariables false
set_option maxRecDepth 100000
namespace Lf
namespace Wo
theorem IntW (n : Nat) (h : n < m64) : LF Tryz.prog 17 [uK n] (fun _ => wV n) none := .of_calls (by kernel_rfl) rfl (ex1 (exact_k _)) (exact_word _) fun w => Wd.IntW n h w
theorem Sub (x y : Nat) : LF Tryz.prog 40 [wV x, wV y] (fun _ => wV (dif x y)) none := .of_calls (by kernel_rfl) rfl (ex2 (exact_word x) (exact_word y)) (exact_word _) fun w => Wd.Sub x y w
end Wo
theorem byte_at (x : Nat) {i : Nat} (h : i < 32) : (limbs x).getD ((31 - i) / 8) default / 2 ^ ((31 - i) % 8 * 8) % 256 = x / 256 ^ (31 - i) % 256 := by
 rw [limbs_get x (by omega), limb_byte _ _ _ (Nat.mod_lt _ (by decide))]
 congr 3
 omega
theorem set_more {i n V b : Nat} (_h : i < n) (hn : i < 32) (hV : V < 256 ^ i) (hb : b < 256) : (limbs V).set (i / 8) ((limbs V).getD (i / 8) default ||| b * 2 ^ (i % 8 * 8) % 2 ^ 64) = limbs (V + b * 256 ^ i) := by
 rw [limbs_get V (by omega)]
 have h : ∀ k, limb (V + b * 256 ^ i) k = _ := limb_set hV hb
 have hq : i / 8 = 0 ∨ i / 8 = 1 ∨ i / 8 = 2 ∨ i / 8 = 3 := by omega
 unfold limbs
 simp only [h]
 rcases hq with e | e | e | e <;> rw [e] <;> rfl
namespace Wo
set_option maxHeartbeats 1000000 in
theorem Bytes (x : Nat) : LF Tryz.prog 49 [wV x] (fun _ => .a ((wordB x).map bK)) none := by
 have hl := limbs_len x
 refine LFx.mk' tt Tryz.func49 rfl rfl rfl (by kernel_rfl) rfl rfl fun F => ?_
 refine wk ?_ trueW trueW
 refine LC.loop2 (fun i L => [(1, .p 1 0), (2, .p 2 0), (3, .p 3 0), (6, .k (.int .i64 ((i : Nat) : Int)))]) (fun i L => [(1, .b ((limbs x).map uK)), (2, .b ((List.replicate 32 0).map bK)), (3, .b (L.map bK))]) (fun i L => i ≤ 32 ∧ L = bytesR x i) ((32 - ·)) (0) ((List.replicate 32 0)) ⟨by omega, by unfold bytesR; rfl⟩ ⟨rfl, rfl, rfl, rfl, trivial⟩ ⟨rfl, rfl, rfl, trivial⟩ rfl rfW rfW ?_
 rintro i L ⟨hi, hL⟩
 have hb := bytesR_len x i
 rw [← hL] at hb
 rcases Nat.lt_or_ge i 32 with h | h
 ·have hok : i + 1 ≤ 32 ∧ L.set i (UInt8.ofNat ((limbs x).getD ((31 - i) / 8) default / 2 ^ ((31 - i) % 8 * 8))) = bytesR x (i + 1) := ⟨h, by rw [hL]; exact bytesR_set x i h (byte_at x h)⟩
  clear hL
  exact wk trueW trueW trueW
 ·obtain rfl : i = 32 := by omega
  have hv1 : V.a (L.map bK) = V.a ((wordB x).map bK) := by rw [hL, bytesR_full]
  clear hL
  exact wk trueW trueW trueW
set_option maxHeartbeats 1000000 in
theorem Read (l : List UInt8) (hn : l.length ≤ 32) : LF Tryz.prog 47 [.s none (l.map bK)] (fun _ => wV (Ps.beN l)) none := by
 have hmin : (if (32 : Int) < ((l.length : Nat) : Int) then (32 : Int) else ((l.length : Nat) : Int)) = ((l.length : Nat) : Int) := if_neg (by omega)
 refine LFx.mk' tt Tryz.func47 rfl rfl rfl (by kernel_rfl) rfl rfl fun F => ?_
 refine wk ?_ trueW trueW
 refine LC.loop2 (fun i L => [(0, .s none (l.map bK)), (2, .p 2 0), (3, .p 3 0), (7, .k (.int .i64 ((l.length : Nat) : Int))), (8, .k (.int .i64 ((i : Nat) : Int)))]) (fun i L => [(2, .b ((List.replicate 4 0).map uK)), (3, .b (L.map uK))]) (fun i L => i ≤ l.length ∧ L = limbs (tailN l i)) ((l.length - ·)) (0) ((List.replicate 4 0)) ⟨by omega, by rw [tailN_zero]; unfold limbs; decide⟩ ⟨rfl, rfl, rfl, rfl, rfl, trivial⟩ ⟨rfl, rfl, trivial⟩ rfl rfW rfW ?_
 rintro i L ⟨hi, hL⟩
 have hb : L.length = 4 := by rw [hL, limbs_len]
 rcases Nat.lt_or_ge i l.length with h | h
 ·have h1 := limbs_lt (tailN l i) (i / 8)
  rw [← hL] at h1
  have hok : i + 1 ≤ l.length ∧ L.set (i / 8) (L.getD (i / 8) default ||| (l.getD (l.length - 1 - i) default).toNat * 2 ^ (i % 8 * 8) % 2 ^ 64) = limbs (tailN l (i + 1)) := ⟨h, by rw [hL, tailN_succ l h]; exact set_more h (by omega) (tailN_lt l hi) (UInt8.toNat_lt _)⟩
  have h2 := (l.getD (l.length - 1 - i) default).toNat_lt
  clear hL
  exact wk trueW trueW trueW
 ·obtain rfl : i = l.length := by omega
  rw [tailN_all] at hL
  subst hL
  exact wk trueW trueW trueW
end Wo
end Lf
end Go.Proofs.YtpaafpmofhajfaaGreatDoor

/- Walks of package word: Exp. -/
import Derived.Test.YtpecjhjpdaifoaaWord4
namespace Go.Proofs.Ytpecjhjpdaifoaa
open Go.RowKit Rp Rg Ops Mm Ar Wm Eq'
namespace Wd
theorem bit_and (y t : Nat) : bits BinOp.and IntKind.u64 ((limb y (t / 64) : Int) / 2 ^ (t % 64)) 1 = ((y / 2 ^ t % 2 : Nat) : Int) := by
  have e2 : (limb y (t / 64) : Int) / 2 ^ (t % 64) = ((limb y (t / 64) / 2 ^ (t % 64) : Nat) : Int) := by simp
  have h1 := limb_lt y (t / 64)
  have h4 := Nat.div_le_self (limb y (t / 64)) (2 ^ (t % 64))
  have e3 := bits_and_u64_nat (limb y (t / 64) / 2 ^ (t % 64)) 1 (by unfold m64 at h1; omega) (by omega)
  rw [Nat.and_one_is_mod, limb_bit] at e3
  rw [e2]
  exact e3

set_option maxRecDepth 4000 in
set_option maxHeartbeats 4000000 in
theorem Exp (x y : Nat) (hy : y < M256) (w : World) : Calls Try.prog 24 #[.agg (wordA x), .agg (wordA y)] w fun e w' => e = .returned (.agg (wordA (x ^ y))) ∧ Ext w w' := by
  go_enter Try.func24, Try.ntmps24
  have s1 := (((St.start w).alloc (wordA x) 24).alloc' (wordA y) 24 (w.heap.size + 1) (by simp)).alloc' (arr 4 fun _ => u64V 0) 24 (w.heap.size + 1 + 1) (by simp)
  go_wp2_with (first
    | (go_at_call 25
       refine (IntW 1 (by unfold m64; omega) _).mono ?_
       rintro e w1 ⟨rfl, hw1⟩
       have s2 := (s1.ext hw1).alloc (arr 4 fun _ => .int .u64 0) 24
       have s3 := s2.setRow 0 rfl (wordA 1))
    | refine stAll aggW (vs := wordA 1) rfl _ _ rfl (by rfl) (by rfl) (s2.at 0 rfl) (by rfl) (by rfl) (wordA_mem _) ?_)
  go_wp2
  obtain ⟨G, hG⟩ : ∃ G, G = w1.heap.size := ⟨_, rfl⟩
  go_loopw [6] (fun i wr => ∃ (t : Nat) (z : Int), t ≤ 256 ∧ z = (t : Int) - 1 ∧ i = .int .i64 z ∧
      St w wr [(w1.heap.size, 24, wordA (x ^ (y / 2 ^ t))), (w.heap.size + 1 + 1, 24, arr 4 fun _ => u64V 0), (w.heap.size + 1, 24, wordA y), (w.heap.size, 24, wordA x)]) (fun i _ => (intOf i + 1).toNat)
  case atStart =>
    refine ⟨256, 255, by omega, rfl, rfl, ?_⟩
    have e : M256 = 2 ^ 256 := by unfold M256; rw [show m64 = 2 ^ 64 from rfl, ← Nat.pow_mul]
    rw [e] at hy
    rw [Nat.div_eq_of_lt hy, Nat.pow_zero]
    exact s3
  case round =>
    obtain ⟨t, z, ht, hz, rfl, st⟩ := hrel
    cases t with
    | zero =>
      obtain rfl : z = -1 := by omega
      clear hz
      simp only [Nat.pow_zero, Nat.div_one] at st
      have s2 := st.setRow 1 rfl (wordA (x ^ y))
      go_wp2_with (first
        | refine ldAll aggW rfl _ rfl (by rfl) (st.at 0 rfl) (by rfl) ?_
        | refine stAll aggW (vs := wordA (x ^ y)) rfl _ _ rfl (by rfl) (by rfl) (st.at 1 rfl) (by rfl) (by rfl) (wordA_mem _) ?_)
      go_wp2
      refine bodyPost_ret (v := .agg _) (ret_cell aggW rfl rfl (s2.at 1 rfl) rfl) rfl ⟨rfl, s2.below⟩
    | succ t =>
      obtain rfl : z = (t : Int) := by omega
      clear hz
      obtain ⟨X, hX⟩ : ∃ X, X = x ^ (y / 2 ^ (t + 1)) := ⟨_, rfl⟩
      rw [← hX] at st
      have hb := bit_and y t
      have hh := half_step y t
      have HX := Lib.hid (And.intro hX hh)
      clear hX hh
      by_cases hbit : y / 2 ^ t % 2 = 1
      · rw [hbit] at hb
        have hb' : (bits BinOp.and IntKind.u64 ((limb y (t / 64) : Int) / 2 ^ (t % 64)) 1 == 1) = true := by rw [hb]; rfl
        have HB := Lib.hid hbit
        clear hb hbit
        go_wp2_with (first
          | refine ldAll aggW rfl _ rfl (by rfl) (st.at 0 rfl) (by rfl) ?_
          | (go_at_call 27
             refine (Mul _ _ _).mono ?_
             rintro e w2 ⟨rfl, hw2⟩
             have st2 := st.ext hw2
             have st3 := st2.setRow 0 rfl (wordA (X * X))
             have c3 : (w2.setRow w1.heap.size (wordA (X * X))).cell? ⟨w.heap.size + 1, t / 64, none⟩ = some (.int .u64 (limb y (t / 64) : Int)) := st3.cell 2 rfl (t / 64) (wordA_get y _ (by omega)))
          | refine stAll aggW (vs := wordA (X * X)) rfl _ _ rfl (by rfl) (by rfl) (st2.at 0 rfl) (by rfl) (by rfl) (wordA_mem _) ?_
          | refine ldAll aggW rfl _ rfl (by rfl) (st3.at 0 rfl) (by rfl) ?_
          | refine ldAll aggW rfl _ rfl (by rfl) (st3.at 3 rfl) (by rfl) ?_
          | (go_at_call 27
             refine (Mul _ _ _).mono ?_
             rintro e w4 ⟨rfl, hw4⟩
             have st4 := st3.ext hw4
             have st5 := st4.setRow 0 rfl (wordA (X * X * x)))
          | refine stAll aggW (vs := wordA (X * X * x)) rfl _ _ rfl (by rfl) (by rfl) (st4.at 0 rfl) (by rfl) (by rfl) (wordA_mem _) ?_)
        go_wp2
        go_roundw
        case rel =>
          refine ⟨t, (t : Int) - 1, by omega, rfl, by simp, ?_⟩
          obtain ⟨h1, h2⟩ := HX.out
          rw [HB.out] at h2
          rw [show x ^ (y / 2 ^ t) = X * X * x from by rw [h2, h1, Nat.pow_add, Nat.two_mul, Nat.pow_add, Nat.pow_one]]
          exact st5
        case measure => simp [intOf]
      · have hbit : y / 2 ^ t % 2 = 0 := by omega
        rw [hbit] at hb
        have hb' : (bits BinOp.and IntKind.u64 ((limb y (t / 64) : Int) / 2 ^ (t % 64)) 1 == 1) = false := by rw [hb]; rfl
        have HB := Lib.hid hbit
        clear hb hbit
        go_wp2_with (first
          | refine ldAll aggW rfl _ rfl (by rfl) (st.at 0 rfl) (by rfl) ?_
          | (go_at_call 27
             refine (Mul _ _ _).mono ?_
             rintro e w2 ⟨rfl, hw2⟩
             have st2 := st.ext hw2
             have st3 := st2.setRow 0 rfl (wordA (X * X))
             have c3 : (w2.setRow w1.heap.size (wordA (X * X))).cell? ⟨w.heap.size + 1, t / 64, none⟩ = some (.int .u64 (limb y (t / 64) : Int)) := st3.cell 2 rfl (t / 64) (wordA_get y _ (by omega)))
          | refine stAll aggW (vs := wordA (X * X)) rfl _ _ rfl (by rfl) (by rfl) (st2.at 0 rfl) (by rfl) (by rfl) (wordA_mem _) ?_
          | refine ldAll aggW rfl _ rfl (by rfl) (st3.at 0 rfl) (by rfl) ?_
          | refine ldAll aggW rfl _ rfl (by rfl) (st3.at 3 rfl) (by rfl) ?_
          | (go_at_call 27
             refine (Mul _ _ _).mono ?_
             rintro e w4 ⟨rfl, hw4⟩
             have st4 := st3.ext hw4
             have st5 := st4.setRow 0 rfl (wordA (X * X * x)))
          | refine stAll aggW (vs := wordA (X * X * x)) rfl _ _ rfl (by rfl) (by rfl) (st4.at 0 rfl) (by rfl) (by rfl) (wordA_mem _) ?_)
        go_wp2
        go_roundw
        case rel =>
          refine ⟨t, (t : Int) - 1, by omega, rfl, by simp, ?_⟩
          obtain ⟨h1, h2⟩ := HX.out
          rw [HB.out] at h2
          rw [show x ^ (y / 2 ^ t) = X * X from by rw [h2, h1, Nat.add_zero, Nat.two_mul, Nat.pow_add]]
          exact st3
        case measure => simp [intOf]
end Wd
end Go.Proofs.Ytpecjhjpdaifoaa

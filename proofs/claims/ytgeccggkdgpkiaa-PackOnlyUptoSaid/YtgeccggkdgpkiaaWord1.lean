/- Walks of package word: Add, Sub, Cmp. -/
import Derived.Test.YtgeccggkdgpkiaaWord
namespace Go.Proofs.Ytgeccggkdgpkiaa
open Go.RowKit Rp Rg Ops Mm Ar Wm
namespace Wd
theorem cmp_step {x y k : Nat} (h : x / m64 ^ (k + 1) = y / m64 ^ (k + 1)) : (limb x k < limb y k ↔ x / m64 ^ k < y / m64 ^ k) ∧ (x / m64 ^ k = y / m64 ^ k ↔ limb x k = limb y k) := by
  unfold limb
  rw [Nat.pow_succ, ← Nat.div_div_eq_div_mul, ← Nat.div_div_eq_div_mul] at h
  generalize x / m64 ^ k = A at *
  generalize y / m64 ^ k = B at *
  have := Nat.div_add_mod A m64
  have := Nat.div_add_mod B m64
  rw [h] at *
  omega

theorem Cmp (x y : Nat) (w : World) : Calls Try.prog 37 #[.agg (wordA x), .agg (wordA y)] w fun e w' => e = .returned (.int .i64 (cmp x y)) ∧ Ext w w' := by
  obtain ⟨X, hX, hXe, hXl⟩ : ∃ X, wordA x = wordA X ∧ x % M256 = X ∧ X < M256 := ⟨x % M256, (wordA_mod x).symm, rfl, Nat.mod_lt _ M256_pos⟩
  obtain ⟨Y, hY, hYe, hYl⟩ : ∃ Y, wordA y = wordA Y ∧ y % M256 = Y ∧ Y < M256 := ⟨y % M256, (wordA_mod y).symm, rfl, Nat.mod_lt _ M256_pos⟩
  obtain ⟨c, hc⟩ : ∃ c, c = cmp x y := ⟨_, rfl⟩
  rw [hX, hY, ← hc]
  have clt : X < Y → c = -1 := fun h => by rw [hc, cmp, hXe, hYe, if_pos h]
  have cgt : Y < X → c = 1 := fun h => by rw [hc, cmp, hXe, hYe, if_neg (by omega), if_pos h]
  have ceq : X = Y → c = 0 := fun h => by rw [hc, cmp, hXe, hYe, if_neg (by omega), if_neg (by omega)]
  clear hX hY hXe hYe hc
  go_enter Try.func37, Try.ntmps37
  have s1 := ((St.start w).alloc (wordA X) 61).alloc' (wordA Y) 61 (w.heap.size + 1) (by simp)
  go_wp2
  go_loopw [5] (fun i wr => ∃ (k : Nat) (z : Int), k ≤ 4 ∧ z = (k : Int) - 1 ∧ i = .int .i64 z ∧ X / m64 ^ k = Y / m64 ^ k ∧
      St w wr [(w.heap.size + 1, 61, wordA Y), (w.heap.size, 61, wordA X)]) (fun i _ => (intOf i + 1).toNat)
  case atStart =>
    refine ⟨4, 3, by omega, rfl, rfl, ?_, s1⟩
    rw [Nat.div_eq_of_lt (by exact hXl), Nat.div_eq_of_lt (by exact hYl)]
  case round =>
    obtain ⟨k, z, hk, hz, rfl, he, st⟩ := hrel
    cases k with
    | zero =>
      have hxy : X = Y := by simpa using he
      obtain rfl : z = -1 := by omega
      clear hz
      go_wp2
      go_ret
      exact ⟨by rw [ceq hxy]; rfl, st.below⟩
    | succ k =>
      have C := Lib.hid (cmp_step he)
      obtain rfl : z = (k : Int) := by omega
      clear hz
      go_wp2
      refine Rg.region [] [0, 1, 2, 3, 4, 5, 6, 7] [] (by kernel_rfl) (by kernel_rfl) fun w' hw' => ?_
      have st' := st.ext hw'
      have b1 := Rg.later (st'.cell 1 rfl k (wordA_get X k (by omega)))
      have b2 := Rg.later (st'.cell 0 rfl k (wordA_get Y k (by omega)))
      simp only [Rg.walk, Rg.pick, Rg.nth, List.map_nil]
      repeat (go_big_quiet_step (fail))
      refine wpQuiet_nil ?_
      by_cases h1 : limb X k < limb Y k
      · have : X < Y := by
          refine Nat.lt_of_not_le fun h => ?_
          have := Nat.div_le_div_right (c := m64 ^ k) h
          have := C.out.1.1 h1
          omega
        have hd : decide (limb X k < limb Y k) = true := by simpa using h1
        go_wp2
        go_ret
        exact ⟨by rw [clt this]; rfl, st'.below⟩
      · have hd : decide (limb X k < limb Y k) = false := by simpa using h1
        go_wp2
        refine Rg.region [] [0, 1, 2, 3, 4, 5, 6, 7] [] (by kernel_rfl) (by kernel_rfl) fun w2 hw2 => ?_
        have st2 := st'.ext hw2
        have b1 := Rg.later (st2.cell 1 rfl k (wordA_get X k (by omega)))
        have b2 := Rg.later (st2.cell 0 rfl k (wordA_get Y k (by omega)))
        simp only [Rg.walk, Rg.pick, Rg.nth, List.map_nil]
        repeat (go_big_quiet_step (fail))
        refine wpQuiet_nil ?_
        by_cases h2 : limb Y k < limb X k
        · have : Y < X := by
            refine Nat.lt_of_not_le fun h => ?_
            have h3 := Nat.div_le_div_right (c := m64 ^ k) h
            have h4 := C.out
            have h5 : X / m64 ^ k ≠ Y / m64 ^ k := fun h => by have := h4.2.1 h; omega
            have := h4.1.2 (by omega)
            omega
          have hd2 : decide (limb Y k < limb X k) = true := by simpa using h2
          go_wp2
          go_ret
          exact ⟨by rw [cgt this]; rfl, st2.below⟩
        · have hd2 : decide (limb Y k < limb X k) = false := by simpa using h2
          go_wp2
          go_roundw
          case rel => exact ⟨k, (k : Int) - 1, by omega, rfl, rfl, C.out.2.2 (by omega), st2⟩
          case measure => simp [intOf]
end Wd
end Go.Proofs.Ytgeccggkdgpkiaa

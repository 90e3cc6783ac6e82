/- A part of the proof: texts joined. -/
import Derived.Test.YtffaobngpbaklaaGreatDoorQ98703d5
set_option linter.unusedVariables false
set_option linter.unusedSimpArgs false
namespace Go.Proofs.YtffaobngpbaklaaGreatDoor
open Go.RowKit Rp Rg Ops Mm Ar Wm
namespace Wd
theorem wrapN (a : Nat) : IntKind.u64.wrap (a : Int) = ((a % m64 : Nat) : Int) := by rw [IntKind.wrap_u64]; unfold m64; omega
theorem shl_or (R k : Nat) (hk : 0 < k) : bits BinOp.or IntKind.u64 (IntKind.u64.wrap ((limb R k : Int) * 2)) ((limb R (k - 1) : Int) / 9223372036854775808) = ((limb (2 * R) k : Nat) : Int) := by
 have e1 : IntKind.u64.wrap ((limb R k : Int) * 2) = ((limb R k * 2 % m64 : Nat) : Int) := by rw [← wrapN]; simp
 have e2 : (limb R (k - 1) : Int) / 9223372036854775808 = ((limb R (k - 1) / 9223372036854775808 : Nat) : Int) := by simp
 have h1 := limb_lt R (k - 1)
 have h2 : limb R (k - 1) / 9223372036854775808 < 2 := Nat.div_lt_of_lt_mul (by unfold m64 at h1; omega)
 have h3 := Nat.mod_lt (limb R k * 2) m64_pos
 rw [e1, e2, bits_or_u64_nat _ _ (by unfold m64 at h3; exact h3) (by omega), or_bit _ _ h2, shl_limb R k hk]
theorem low_or (R N t : Nat) : bits BinOp.or IntKind.u64 (IntKind.u64.wrap ((limb R 0 : Int) * 2)) (bits BinOp.and IntKind.u64 ((limb N (t / 64) : Int) / 2 ^ (t % 64)) 1) = ((limb (2 * R + N / 2 ^ t % 2) 0 : Nat) : Int) := by
 have e1 : IntKind.u64.wrap ((limb R 0 : Int) * 2) = ((limb R 0 * 2 % m64 : Nat) : Int) := by rw [← wrapN]; simp
 have e2 : (limb N (t / 64) : Int) / 2 ^ (t % 64) = ((limb N (t / 64) / 2 ^ (t % 64) : Nat) : Int) := by simp
 have h1 := limb_lt N (t / 64)
 have h3 := Nat.mod_lt (limb R 0 * 2) m64_pos
 have h4 := Nat.div_le_self (limb N (t / 64)) (2 ^ (t % 64))
 have e3 := bits_and_u64_nat (limb N (t / 64) / 2 ^ (t % 64)) 1 (by unfold m64 at h1; omega) (by omega)
 rw [Nat.and_one_is_mod, limb_bit] at e3
 have h2 : N / 2 ^ t % 2 < 2 := Nat.mod_lt _ (by omega)
 rw [e1, e2, show (1 : Int) = ((1 : Nat) : Int) from rfl, e3, bits_or_u64_nat _ _ (by unfold m64 at h3; exact h3) (by omega), or_bit _ _ h2, shl_zero _ _ h2]
theorem set_or (Q t : Nat) : bits BinOp.or IntKind.u64 ((limb (Q * 2 ^ (t + 1)) (t / 64) : Nat) : Int) ((2 ^ (t % 64) : Nat) : Int) = ((limb ((2 * Q + 1) * 2 ^ t) (t / 64) : Nat) : Int) := by
 have h1 := limb_lt (Q * 2 ^ (t + 1)) (t / 64)
 have h2 : 2 ^ (t % 64) < 18446744073709551616 := Nat.pow_lt_pow_right (n := 64) (by omega) (by omega)
 have e : limb (Q * 2 ^ (t + 1)) (t / 64) = Q * 2 ^ (t % 64 + 1) % m64 := by
  rw [show Q * 2 ^ (t + 1) = (2 * Q) * 2 ^ t from by rw [Nat.pow_succ]; ac_rfl, limb_shl_at, Nat.pow_succ]; congr 1; ac_rfl
 rw [bits_or_u64_nat _ _ (by unfold m64 at h1; exact h1) h2, limb_setbit, if_pos rfl, e, or_two_pow _ _ (by omega)]
theorem big_shift (A t : Nat) (h : 256 ≤ t) : wordA (A * 2 ^ t) = wordA 0 := by
 refine wordA_eq ?_
 obtain ⟨j, rfl⟩ : ∃ j, t = 256 + j := ⟨t - 256, by omega⟩
 have e : M256 = 2 ^ 256 := by unfold M256; rw [show m64 = 2 ^ 64 from rfl, ← Nat.pow_mul]
 rw [e, Nat.pow_add, Nat.mul_left_comm, Nat.mul_mod_right, Nat.zero_mod]
theorem dif_sub {x y : Nat} (h : y ≤ x) (hy : y < M256) : wordA (dif x y) = wordA (x - y) := by
 refine wordA_eq ?_
 unfold dif
 rw [Nat.mod_eq_of_lt hy, show x + (M256 - y) = x - y + M256 from by omega, Nat.add_mod_right]
set_option maxHeartbeats 8000000 in
set_option maxRecDepth 8000 in
theorem divide (N m n cap g o : Nat) (w : World) (hn : 0 < n) (hn8 : n ≤ 8) (hN : N < m64 ^ n) (hm : 0 < m) (hm2 : m < M256)
    (hcell : ∀ i, i < n → w.cell? ⟨g, o + i, none⟩ = some (.int .u64 (limb N i : Int))) :
    Calls Tryz.prog 25 #[.slice (some ⟨g, o, none⟩) n cap, .agg (wordA m)] w fun e w' => e = .returned (.tuple #[.agg (wordA (N / m)), .agg (wordA (N % m))]) ∧ Ext w w' := by
  go_enter Tryz.func25, Tryz.ntmps25
  have s1 := (((St.start w).alloc (wordA m) 36).alloc' (arr 4 fun _ => u64V 0) 36 (w.heap.size + 1) (by simp)).alloc' (arr 4 fun _ => u64V 0) 36 (w.heap.size + 1 + 1) (by simp)
  go_wp2
  go_loopw [6] (fun i wr => ∃ (t : Nat) (z : Int), t ≤ 64 * n ∧ z = (t : Int) - 1 ∧ i = .int .i64 z ∧
      St w wr [(w.heap.size + 1 + 1, 36, wordA (N / 2 ^ t % m)), (w.heap.size + 1, 36, wordA (N / 2 ^ t / m * 2 ^ t)), (w.heap.size, 36, wordA m)]) (fun i _ => (intOf i + 1).toNat)
  case atStart =>
    refine ⟨64 * n, (n : Int) * 64 - 1, by omega, by omega, by simp, ?_⟩
    have h0 : N / 2 ^ (64 * n) = 0 := Nat.div_eq_of_lt (by rw [Nat.pow_mul]; exact hN)
    rw [h0, Nat.zero_mod, Nat.zero_div, Nat.zero_mul]
    have e : wordA 0 = arr 4 fun _ => u64V 0 := arr_ext fun i hi => by simp [limb]
    rw [e]; exact s1
  case round =>
    obtain ⟨t, z, ht, hz, rfl, st⟩ := hrel
    cases t with
    | zero =>
      obtain rfl : z = -1 := by omega
      clear hz
      simp only [Nat.pow_zero, Nat.div_one, Nat.mul_one] at st
      go_wp2
      refine Rg.region [([0, 1], 2)] [] [3] (by kernel_rfl) (by kernel_rfl) fun w' hw' => ?_
      have st' := st.ext hw'
      simp only [Rg.walk, Rg.pick, Rg.nth, List.map_cons, List.map_nil]
      refine qldAll aggW rfl _ rfl (by rfl) (st'.at 1 rfl) (by rfl) ?_
      refine qldAll aggW rfl _ rfl (by rfl) (st'.at 0 rfl) (by rfl) ?_
      refine wpQuiet_nil ?_
      have st2 := st'.setRow 1 rfl (wordA (N / m))
      have st3 := st2.setRow 0 rfl (wordA (N % m))
      go_wp2_with (refine stAll aggW (vs := wordA (N / m)) rfl _ _ rfl (by rfl) (by rfl) (st'.at 1 rfl) (by rfl) (by rfl) (wordA_mem _) ?_)
      go_wp2
      refine ⟨ext_setRow_same (st'.at 1 rfl), ?_⟩
      refine wpQuiet_nil ?_
      go_wp2_with (refine stAll aggW (vs := wordA (N % m)) rfl _ _ rfl (by rfl) (by rfl) (st2.at 0 rfl) (by rfl) (by rfl) (wordA_mem _) ?_)
      go_wp2
      refine bodyPost_ret (v := .tuple #[.agg (wordA (N / m)), .agg (wordA (N % m))]) (ret_two rfl (slot_cell aggW rfl (st3.at 1 rfl) (by rfl)) (slot_cell aggW rfl (st3.at 0 rfl) (by rfl))) rfl ⟨rfl, st3.below⟩
    | succ t =>
      obtain rfl : z = (t : Int) := by omega
      clear hz
      have a3 : wr.cell? ⟨w.heap.size + 1 + 1, 3, none⟩ = some (.int .u64 (limb (N / 2 ^ (t + 1) % m) 3 : Int)) := st.cell 0 rfl 3 (arr_get 4 _ 3 (by omega))
      obtain ⟨R, hR⟩ : ∃ R, R = N / 2 ^ (t + 1) % m := ⟨_, rfl⟩
      obtain ⟨Q, hQ⟩ : ∃ Q, Q = N / 2 ^ (t + 1) / m := ⟨_, rfl⟩
      rw [← hR, ← hQ] at st
      rw [← hR] at a3
      have hR' := Lib.hid hR
      have hQ' := Lib.hid hQ
      clear hR hQ
      go_wp2
      go_loopw [8] (fun i wr => ∃ k : Nat, k ≤ 3 ∧ i = .int .i64 k ∧
          St w wr [(w.heap.size + 1 + 1, 36, arr 4 fun i => u64V (if k < i then limb (2 * R) i else limb R i)), (w.heap.size + 1, 36, wordA (Q * 2 ^ (t + 1))), (w.heap.size, 36, wordA m)]) (fun i _ => (intOf i).toNat)
      case atStart =>
        refine ⟨3, by omega, rfl, ?_⟩
        have e : (arr 4 fun i => u64V (if 3 < i then limb (2 * R) i else limb R i)) = wordA R := arr_ext fun i hi => by rw [if_neg (by omega)]
        rw [e]; exact st
      case round =>
        obtain ⟨k, hk, rfl, st⟩ := hrel
        cases k with
        | zero =>
          have c1 : wr.cell? ⟨w.heap.size + 1 + 1, 0, none⟩ = some (.int .u64 (limb R 0 : Int)) := st.cell 0 rfl 0 (arr_get 4 _ 0 (by omega))
          have hc := hcell (t / 64) (by omega)
          have c2 : wr.cell? ⟨g, o + t / 64, none⟩ = some (.int .u64 (limb N (t / 64) : Int)) := by
            rw [st.below.cell (World.block_lt_of_cell? w _ hc)]; exact hc
          have f1 := st.frozen 0 rfl 0
          have i1 : ((t : Int) / 64) < (n : Int) := by omega
          go_wp2
          refine Rg.region [] [0, 1, 2, 3, 4, 5, 6, 7, 8, 9, 10, 11, 12, 13] [14] (by kernel_rfl) (by kernel_rfl) fun w' hw' => ?_
          have st' := st.ext hw'
          have d1 := Rg.later (hw'.cell c1)
          have d2 := Rg.later (hw'.cell c2)
          simp only [Rg.walk, Rg.pick, Rg.nth, List.map_nil]
          repeat (go_big_quiet_step (fail))
          refine wpQuiet_nil ?_
          have f2 := st'.frozen 0 rfl 0
          have c3 := hw'.cell c1
          obtain ⟨b, hb⟩ : ∃ b, b = N / 2 ^ t % 2 := ⟨_, rfl⟩
          have hb2 : b < 2 := by rw [hb]; exact Nat.mod_lt _ (by omega)
          have st3 : St w (w'.setCell ⟨w.heap.size + 1 + 1, 0, none⟩ (.int .u64 ((limb (2 * R + b) 0 : Nat) : Int))) [(w.heap.size + 1 + 1, 36, wordA (2 * R + b)), (w.heap.size + 1, 36, wordA (Q * 2 ^ (t + 1))), (w.heap.size, 36, wordA m)] :=
            st'.setFn 0 rfl 0 _ (fun i hi => by
              by_cases h : i = 0
              · subst h; simp [u64V]
              · rw [if_neg h, if_pos (by omega), limb_step R b i hb2 (by omega)]) rfl
          have hlow := low_or R N t
          rw [← hb] at hlow
          rw [← hlow] at st3
          clear hlow
          have HB := Lib.hid hb
          clear hb
          have hRm : R < m := by rw [hR'.out]; exact Nat.mod_lt _ hm
          have htop := top_bit (R := R) (by omega)
          have hcm : ∀ v, Calls Tryz.prog 35 #[.agg (wordA (2 * R + b)), .agg (wordA m)] v fun e w' => e = .returned (.int .i64 (cmp (2 * R + b) m)) ∧ Ext v w' := fun v => Cmp _ _ v
          obtain ⟨c, hc⟩ : ∃ c, c = cmp (2 * R + b) m := ⟨_, rfl⟩
          rw [← hc] at hcm
          obtain ⟨r1, r2⟩ := And.intro (round_lt (H := N / 2 ^ (t + 1)) (m := m) hb2) (round_ge (H := N / 2 ^ (t + 1)) (m := m) hb2 hm)
          have hhalf := half_step N t
          rw [← HB.out] at hhalf
          rw [← hhalf, ← hR'.out, ← hQ'.out] at r1 r2
          have HR1 := Lib.hid r1
          have HR2 := Lib.hid r2
          clear r1 r2 hhalf
          by_cases hT : limb R 3 / 9223372036854775808 = 0
          · have hT' : ((limb R 3 : Int) / 9223372036854775808 == 0) = true := by
              rw [beq_iff_eq]; omega
            have hsm : 2 * R + b < M256 := by
              rw [hT] at htop
              have := (Nat.div_eq_zero_iff).1 htop.symm
              have := M256_pos
              have : M256 % 2 = 0 := by unfold M256 m64; rfl
              omega
            have hcv : c = if 2 * R + b < m then -1 else if m < 2 * R + b then 1 else 0 := by
              rw [hc, cmp, Nat.mod_eq_of_lt hsm, Nat.mod_eq_of_lt hm2]
            clear hc htop
            by_cases hlt : 2 * R + b < m
            · obtain rfl : c = -1 := by rw [hcv, if_pos hlt]
              clear hcv
              go_wp2_with (first
                | refine ldAllW aggW (by rfl) _ rfl (by rfl) (st3.at 0 rfl) (by rfl) ?_
                | refine ldAllW aggW (by rfl) _ rfl (by rfl) (st3.at 2 rfl) (by rfl) ?_
                | (go_at_call 35
                   refine (hcm _).mono ?_
                   rintro e w4 ⟨rfl, hw4⟩
                   have st4 := st3.ext hw4))
              go_roundw
              case rel =>
                refine ⟨t, (t : Int) - 1, by omega, rfl, by simp, ?_⟩
                obtain ⟨h1, h2⟩ := HR1.out hlt
                rw [h1, h2, show 2 * Q * 2 ^ t = Q * 2 ^ (t + 1) from by rw [Nat.pow_succ]; ac_rfl]
                exact st4
              case measure => simp [intOf]
            · have hcn : decide (c < 0) = false := by
                rw [hcv, if_neg hlt]; split <;> rfl
              clear hcv
              have hge : m ≤ 2 * R + b := by omega
              by_cases h256 : t < 256
              · go_wp2_with (first
                  | refine ldAllW aggW (by rfl) _ rfl (by rfl) (st3.at 0 rfl) (by rfl) ?_
                  | refine ldAllW aggW (by rfl) _ rfl (by rfl) (st3.at 2 rfl) (by rfl) ?_
                  | (go_at_call 35
                     refine (hcm _).mono ?_
                     rintro e w4 ⟨rfl, hw4⟩
                     have st4 := st3.ext hw4)
                  | refine ldAll aggW rfl _ rfl (by rfl) (st4.at 0 rfl) (by rfl) ?_
                  | refine ldAll aggW rfl _ rfl (by rfl) (st4.at 2 rfl) (by rfl) ?_
                  | (go_at_call 32
                     refine (Sub _ _ _).mono ?_
                     rintro e w5 ⟨rfl, hw5⟩
                     have st5 := st4.ext hw5
                     have st6 := st5.setRow 0 rfl (wordA (dif (2 * R + b) m)))
                  | refine stAll aggW (vs := wordA (dif (2 * R + b) m)) rfl _ _ rfl (by rfl) (by rfl) (st5.at 0 rfl) (by rfl) (by rfl) (wordA_mem _) ?_)

                have q1 : w5.setRow (w.heap.size + 1 + 1) (wordA (dif (2 * R + b) m)) = w5.setRow (w.heap.size + 1 + 1) (wordA (dif (2 * R + b) m)) := rfl
                have c6 : (w5.setRow (w.heap.size + 1 + 1) (wordA (dif (2 * R + b) m))).cell? ⟨w.heap.size + 1, t / 64, none⟩ = some (.int .u64 (limb (Q * 2 ^ (t + 1)) (t / 64) : Int)) := st6.cell 1 rfl (t / 64) (arr_get 4 _ _ (by omega))
                have i4 : ((t : Int) / 64) < 4 := by omega
                refine Rg.region [] [0, 1, 2, 3, 4, 5, 6, 7, 8] [9] (by kernel_rfl) (by kernel_rfl) fun w7 hw7 => ?_
                have st7 := st6.ext hw7
                have d6 := Rg.later (hw7.cell c6)
                have c7 := hw7.cell c6
                have f7 := st7.frozen 1 rfl (t / 64)
                simp only [Rg.walk, Rg.pick, Rg.nth, List.map_nil]
                repeat (go_big_quiet_step (fail))
                refine wpQuiet_nil ?_
                go_wp2
                go_roundw
                case rel =>
                  refine ⟨t, (t : Int) - 1, by omega, rfl, by simp, ?_⟩
                  obtain ⟨h1, h2⟩ := HR2.out hge
                  rw [h1, h2]
                  have ew : IntKind.u64.wrap ((2 : Int) ^ (t % 64)) = ((2 ^ (t % 64) : Nat) : Int) := by
                    have h3 : 2 ^ (t % 64) < m64 := Nat.pow_lt_pow_right (n := 64) (by omega) (by omega)
                    have h4 := wrapN (2 ^ (t % 64))
                    rw [Nat.mod_eq_of_lt h3] at h4
                    rw [← h4]; simp
                  rw [ew, set_or]
                  have := st7.setFn (f := fun i => u64V (limb (Q * 2 ^ (t + 1)) i)) 1 rfl (t / 64) (u64V (limb ((2 * Q + 1) * 2 ^ t) (t / 64))) (f' := fun i => u64V (limb ((2 * Q + 1) * 2 ^ t) i)) (fun i hi => by
                    by_cases h : i = t / 64
                    · rw [if_pos h, h]
                    · rw [if_neg h, limb_setbit, if_neg h]) rfl
                  rw [← dif_sub hge hm2]
                  exact this
                case measure => simp [intOf]
              · go_wp2_with (first
                  | refine ldAllW aggW (by rfl) _ rfl (by rfl) (st3.at 0 rfl) (by rfl) ?_
                  | refine ldAllW aggW (by rfl) _ rfl (by rfl) (st3.at 2 rfl) (by rfl) ?_
                  | (go_at_call 35
                     refine (hcm _).mono ?_
                     rintro e w4 ⟨rfl, hw4⟩
                     have st4 := st3.ext hw4)
                  | refine ldAll aggW rfl _ rfl (by rfl) (st4.at 0 rfl) (by rfl) ?_
                  | refine ldAll aggW rfl _ rfl (by rfl) (st4.at 2 rfl) (by rfl) ?_
                  | (go_at_call 32
                     refine (Sub _ _ _).mono ?_
                     rintro e w5 ⟨rfl, hw5⟩
                     have st5 := st4.ext hw5
                     have st6 := st5.setRow 0 rfl (wordA (dif (2 * R + b) m)))
                  | refine stAll aggW (vs := wordA (dif (2 * R + b) m)) rfl _ _ rfl (by rfl) (by rfl) (st5.at 0 rfl) (by rfl) (by rfl) (wordA_mem _) ?_)

                go_roundw
                case rel =>
                  refine ⟨t, (t : Int) - 1, by omega, rfl, by simp, ?_⟩
                  obtain ⟨h1, h2⟩ := HR2.out hge
                  rw [h1, h2, big_shift (2 * Q + 1) t (by omega), ← big_shift Q (t + 1) (by omega), ← dif_sub hge hm2]
                  exact st6
                case measure => simp [intOf]
          · have hT' : ((limb R 3 : Int) / 9223372036854775808 == 0) = false := by
              rw [beq_eq_false_iff_ne]; omega
            have hge : m ≤ 2 * R + b := by
              refine Nat.le_of_not_lt fun h => hT ?_
              rw [htop]
              exact Nat.div_eq_of_lt (by omega)
            clear hc htop
            by_cases h256 : t < 256
            · go_wp2_with (first
                | refine ldAllW aggW (by rfl) _ rfl (by rfl) (st3.at 0 rfl) (by rfl) ?_
                | refine ldAllW aggW (by rfl) _ rfl (by rfl) (st3.at 2 rfl) (by rfl) ?_
                | (go_at_call 35
                   refine (hcm _).mono ?_
                   rintro e w4 ⟨rfl, hw4⟩
                   have st4 := st3.ext hw4)
                | refine ldAll aggW rfl _ rfl (by rfl) (st3.at 0 rfl) (by rfl) ?_
                | refine ldAll aggW rfl _ rfl (by rfl) (st3.at 2 rfl) (by rfl) ?_
                | (go_at_call 32
                   refine (Sub _ _ _).mono ?_
                   rintro e w5 ⟨rfl, hw5⟩
                   have st5 := st3.ext hw5
                   have st6 := st5.setRow 0 rfl (wordA (dif (2 * R + b) m)))
                | refine stAll aggW (vs := wordA (dif (2 * R + b) m)) rfl _ _ rfl (by rfl) (by rfl) (st5.at 0 rfl) (by rfl) (by rfl) (wordA_mem _) ?_)

              have q1 : w5.setRow (w.heap.size + 1 + 1) (wordA (dif (2 * R + b) m)) = w5.setRow (w.heap.size + 1 + 1) (wordA (dif (2 * R + b) m)) := rfl
              have c6 : (w5.setRow (w.heap.size + 1 + 1) (wordA (dif (2 * R + b) m))).cell? ⟨w.heap.size + 1, t / 64, none⟩ = some (.int .u64 (limb (Q * 2 ^ (t + 1)) (t / 64) : Int)) := st6.cell 1 rfl (t / 64) (arr_get 4 _ _ (by omega))
              have i4 : ((t : Int) / 64) < 4 := by omega
              refine Rg.region [] [0, 1, 2, 3, 4, 5, 6, 7, 8] [9] (by kernel_rfl) (by kernel_rfl) fun w7 hw7 => ?_
              have st7 := st6.ext hw7
              have d6 := Rg.later (hw7.cell c6)
              have c7 := hw7.cell c6
              have f7 := st7.frozen 1 rfl (t / 64)
              simp only [Rg.walk, Rg.pick, Rg.nth, List.map_nil]
              repeat (go_big_quiet_step (fail))
              refine wpQuiet_nil ?_
              go_wp2
              go_roundw
              case rel =>
                refine ⟨t, (t : Int) - 1, by omega, rfl, by simp, ?_⟩
                obtain ⟨h1, h2⟩ := HR2.out hge
                rw [h1, h2]
                have ew : IntKind.u64.wrap ((2 : Int) ^ (t % 64)) = ((2 ^ (t % 64) : Nat) : Int) := by
                  have h3 : 2 ^ (t % 64) < m64 := Nat.pow_lt_pow_right (n := 64) (by omega) (by omega)
                  have h4 := wrapN (2 ^ (t % 64))
                  rw [Nat.mod_eq_of_lt h3] at h4
                  rw [← h4]; simp
                rw [ew, set_or]
                have := st7.setFn (f := fun i => u64V (limb (Q * 2 ^ (t + 1)) i)) 1 rfl (t / 64) (u64V (limb ((2 * Q + 1) * 2 ^ t) (t / 64))) (f' := fun i => u64V (limb ((2 * Q + 1) * 2 ^ t) i)) (fun i hi => by
                  by_cases h : i = t / 64
                  · rw [if_pos h, h]
                  · rw [if_neg h, limb_setbit, if_neg h]) rfl
                rw [← dif_sub hge hm2]
                exact this
              case measure => simp [intOf]
            · go_wp2_with (first
                | refine ldAllW aggW (by rfl) _ rfl (by rfl) (st3.at 0 rfl) (by rfl) ?_
                | refine ldAllW aggW (by rfl) _ rfl (by rfl) (st3.at 2 rfl) (by rfl) ?_
                | (go_at_call 35
                   refine (hcm _).mono ?_
                   rintro e w4 ⟨rfl, hw4⟩
                   have st4 := st3.ext hw4)
                | refine ldAll aggW rfl _ rfl (by rfl) (st3.at 0 rfl) (by rfl) ?_
                | refine ldAll aggW rfl _ rfl (by rfl) (st3.at 2 rfl) (by rfl) ?_
                | (go_at_call 32
                   refine (Sub _ _ _).mono ?_
                   rintro e w5 ⟨rfl, hw5⟩
                   have st5 := st3.ext hw5
                   have st6 := st5.setRow 0 rfl (wordA (dif (2 * R + b) m)))
                | refine stAll aggW (vs := wordA (dif (2 * R + b) m)) rfl _ _ rfl (by rfl) (by rfl) (st5.at 0 rfl) (by rfl) (by rfl) (wordA_mem _) ?_)

              go_roundw
              case rel =>
                refine ⟨t, (t : Int) - 1, by omega, rfl, by simp, ?_⟩
                obtain ⟨h1, h2⟩ := HR2.out hge
                rw [h1, h2, big_shift (2 * Q + 1) t (by omega), ← big_shift Q (t + 1) (by omega), ← dif_sub hge hm2]
                exact st6
              case measure => simp [intOf]
        | succ k =>
          have c1 : wr.cell? ⟨w.heap.size + 1 + 1, k + 1, none⟩ = some (.int .u64 (limb R (k + 1) : Int)) := by
            have := st.cell 0 rfl (k + 1) (arr_get 4 _ (k + 1) (by omega))
            simpa [u64V] using this
          have c2 : wr.cell? ⟨w.heap.size + 1 + 1, k, none⟩ = some (.int .u64 (limb R k : Int)) := by
            have := st.cell 0 rfl k (arr_get 4 _ k (by omega))
            rw [if_neg (by omega)] at this
            exact this
          have f1 := st.frozen 0 rfl (k + 1)
          go_wp2
          refine Rg.region [] [0, 1, 2, 3, 4, 5, 6, 7, 8, 9, 10, 11] [12] (by kernel_rfl) (by kernel_rfl) fun w' hw' => ?_
          have st' := st.ext hw'
          have d1 := Rg.later (hw'.cell c1)
          have d2 := Rg.later (hw'.cell c2)
          simp only [Rg.walk, Rg.pick, Rg.nth, List.map_nil]
          repeat (go_big_quiet_step (fail))
          refine wpQuiet_nil ?_
          have f2 := st'.frozen 0 rfl (k + 1)
          have c3 := hw'.cell c1
          go_wp2
          go_roundw
          case rel =>
            refine ⟨k, by omega, by simp, ?_⟩
            have e := shl_or R (k + 1) (by omega)
            simp only [Nat.add_sub_cancel] at e
            rw [e]
            refine st'.setFn 0 rfl (k + 1) _ (fun i hi => ?_) rfl
            by_cases h : i = k + 1
            · subst h; simp [u64V]
            · rw [if_neg h]
              by_cases h2 : k + 1 < i
              · rw [if_pos h2, if_pos (by omega)]
              · rw [if_neg h2, if_neg (by omega)]
          case measure => simp [intOf]
end Wd
open Go.RowKit Rp Rg Ops Mm Ar Wm Eq'
namespace Wd
theorem isZero (y : Nat) (hy : y < M256) (w : World) : (binOp .eql 36 (.agg (wordA y)) (.agg #[.int .u64 0, .int .u64 0, .int .u64 0, .int .u64 0])).run Tryz.prog w = .ok (.bool (decide (y = 0))) w := by
 rw [zeroW, eqlW, Nat.zero_mod, Nat.mod_eq_of_lt hy]
theorem DivMod_zero (x : Nat) (w : World) : Calls Tryz.prog 17 #[.agg (wordA x), .agg (wordA 0)] w fun e w' => e = .returned (.tuple #[.agg (wordA 0), .agg (wordA 0)]) ∧ Ext w w' := by
 have hz := isZero 0 M256_pos
 rw [show decide ((0 : Nat) = 0) = true from rfl] at hz
 have e0 : (arr 4 fun _ => u64V 0) = wordA 0 := zeroW
 go_enter Tryz.func17, Tryz.ntmps17
 have s1 := ((((St.start w).alloc (wordA x) 36).alloc' (wordA 0) 36 (w.heap.size + 1) (by simp)).alloc' (arr 4 fun _ => u64V 0) 36 (w.heap.size + 1 + 1) (by simp)).alloc' (arr 4 fun _ => u64V 0) 36 (w.heap.size + 1 + 1 + 1) (by simp)
 go_wp2_with (refine ldAll aggW rfl _ rfl (by rfl) (s1.at 2 rfl) (by rfl) ?_)
 go_wp2
 refine Rg.region [([0, 1], 2)] [] [3] (by kernel_rfl) (by kernel_rfl) fun w' hw' => ?_
 have st' := s1.ext hw'
 rw [e0] at st'
 simp only [Rg.walk, Rg.pick, Rg.nth, List.map_cons, List.map_nil]
 refine qldAll aggW rfl _ rfl (by rfl) (st'.at 1 rfl) (by rfl) ?_
 refine qldAll aggW rfl _ rfl (by rfl) (st'.at 0 rfl) (by rfl) ?_
 refine wpQuiet_nil ?_
 have st2 := st'.setRow 1 rfl (wordA 0)
 have st3 := st2.setRow 0 rfl (wordA 0)
 go_wp2_with (refine stAll aggW (vs := wordA 0) rfl _ _ rfl (by rfl) (by rfl) (st'.at 1 rfl) (by rfl) (by rfl) (wordA_mem _) ?_)
 go_wp2
 refine ⟨ext_setRow_same (st'.at 1 rfl), ?_⟩
 refine wpQuiet_nil ?_
 go_wp2_with (refine stAll aggW (vs := wordA 0) rfl _ _ rfl (by rfl) (by rfl) (st2.at 0 rfl) (by rfl) (by rfl) (wordA_mem _) ?_)
 go_wp2
 refine bodyPost_ret (v := .tuple #[.agg (wordA 0), .agg (wordA 0)]) (ret_two rfl (slot_cell aggW rfl (st3.at 1 rfl) (by rfl)) (slot_cell aggW rfl (st3.at 0 rfl) (by rfl))) rfl ⟨rfl, st3.below⟩
theorem DivMod (x y : Nat) (hx : x < M256) (hy : y < M256) (h0 : 0 < y) (w : World) : Calls Tryz.prog 17 #[.agg (wordA x), .agg (wordA y)] w fun e w' => e = .returned (.tuple #[.agg (wordA (x / y)), .agg (wordA (x % y))]) ∧ Ext w w' := by
 have hz := isZero y hy
 rw [show decide (y = 0) = false from by simp; omega] at hz
 go_enter Tryz.func17, Tryz.ntmps17
 have s1 := ((((St.start w).alloc (wordA x) 36).alloc' (wordA y) 36 (w.heap.size + 1) (by simp)).alloc' (arr 4 fun _ => u64V 0) 36 (w.heap.size + 1 + 1) (by simp)).alloc' (arr 4 fun _ => u64V 0) 36 (w.heap.size + 1 + 1 + 1) (by simp)
 go_wp2_with (refine ldAll aggW rfl _ rfl (by rfl) (s1.at 2 rfl) (by rfl) ?_)
 go_wp2
 refine Rg.region [([0, 1], 2)] [3, 4] [5, 6] (by kernel_rfl) (by kernel_rfl) fun w' hw' => ?_
 have st' := s1.ext hw'
 simp only [Rg.walk, Rg.pick, Rg.nth, List.map_cons, List.map_nil]
 repeat (go_big_quiet_step (fail))
 refine qldAll aggW rfl _ rfl (by rfl) (st'.at 2 rfl) (by rfl) ?_
 refine wpQuiet_nil ?_
 have hd := divide x y 4 4 w.heap.size 0 w' (by omega) (by omega) hx h0 hy (fun i hi => by rw [Nat.zero_add]; exact st'.cell 3 rfl i (wordA_get x i hi))
 go_wp2_with (go_at_call 25; refine hd.mono ?_; rintro e w2 ⟨rfl, hw2⟩)
 refine ⟨hw2, ?_⟩
 repeat (go_big_quiet_step (fail))
 refine wpQuiet_nil ?_
 have st2 := st'.ext hw2
 have st3 := st2.setRow 1 rfl (wordA (x / y))
 have st4 := st3.setRow 0 rfl (wordA (x % y))
 go_wp2_with (first
  | refine stAll aggW (vs := wordA (x / y)) rfl _ _ rfl (by rfl) (by rfl) (st2.at 1 rfl) (by rfl) (by rfl) (wordA_mem _) ?_
  | refine stAll aggW (vs := wordA (x % y)) rfl _ _ rfl (by rfl) (by rfl) (st3.at 0 rfl) (by rfl) (by rfl) (wordA_mem _) ?_)
 go_wp2
 refine bodyPost_ret (v := .tuple #[.agg (wordA (x / y)), .agg (wordA (x % y))]) (ret_two rfl (slot_cell aggW rfl (st4.at 1 rfl) (by rfl)) (slot_cell aggW rfl (st4.at 0 rfl) (by rfl))) rfl ⟨rfl, st4.below⟩
theorem MulMod (x y m : Nat) (hx : x < M256) (hy : y < M256) (hm : m < M256) (w : World) : Calls Tryz.prog 83 #[.agg (wordA x), .agg (wordA y), .agg (wordA m)] w fun e w' => e = .returned (.agg (wordA (if m = 0 then 0 else x * y % m))) ∧ Ext w w' := by
  have hz := isZero m hm
  have e0 : (arr 4 fun _ => u64V 0) = wordA 0 := zeroW
  have hp := product x y hx hy
  by_cases h0 : m = 0
  · subst h0
    rw [if_pos rfl]
    rw [show decide ((0 : Nat) = 0) = true from rfl] at hz
    go_enter Tryz.func83, Tryz.ntmps83
    have s1 := ((((St.start w).alloc (wordA x) 36).alloc' (wordA y) 36 (w.heap.size + 1) (by simp)).alloc' (wordA 0) 36 (w.heap.size + 1 + 1) (by simp)).alloc' (arr 4 fun _ => u64V 0) 36 (w.heap.size + 1 + 1 + 1) (by simp)
    have s2 := s1.setRow 0 rfl (arr 4 fun _ => u64V 0)
    go_wp2_with (first
      | refine ldAll aggW rfl _ rfl (by rfl) (s1.at 1 rfl) (by rfl) ?_
      | refine ldAll aggW rfl _ rfl (by rfl) (s1.at 0 rfl) (by rfl) ?_
      | refine stAll aggW (vs := arr 4 fun _ => u64V 0) rfl _ _ rfl (by rfl) (by rfl) (s1.at 0 rfl) (by rfl) (by rfl) (arr_mem fun _ _ => rfl) ?_)
    go_wp2
    refine bodyPost_ret (v := .agg _) (ret_cell aggW rfl rfl (s2.at 0 rfl) rfl) rfl ⟨by rw [e0], s2.below⟩
  · have hd : decide (m = 0) = false := by simpa using h0
    rw [hd] at hz
    rw [if_neg h0]
    have h1 : 0 < m := by omega
    clear h0 hd
    go_enter Tryz.func83, Tryz.ntmps83
    have s1 := ((((St.start w).alloc (wordA x) 36).alloc' (wordA y) 36 (w.heap.size + 1) (by simp)).alloc' (wordA m) 36 (w.heap.size + 1 + 1) (by simp)).alloc' (arr 4 fun _ => u64V 0) 36 (w.heap.size + 1 + 1 + 1) (by simp)
    go_wp2_with (first
      | refine ldAll aggW rfl _ rfl (by rfl) (s1.at 1 rfl) (by rfl) ?_
      | refine ldAll aggW rfl _ rfl (by rfl) (s1.at 2 rfl) (by rfl) ?_
      | refine ldAll aggW rfl _ rfl (by rfl) (s1.at 3 rfl) (by rfl) ?_
      | (go_at_call 50
         refine (hp _).mono ?_
         rintro e w1 ⟨rfl, hw1⟩
         have s2 := (s1.ext hw1).alloc (arr 8 fun _ => .int .u64 0) 86
         have s3 := s2.setRow 0 rfl (wideA (x * y)))
      | refine stAll agg8 (vs := wideA (x * y)) rfl _ _ rfl (by rfl) (by rfl) (s2.at 0 rfl) (by rfl) (by rfl) (arr_mem fun _ _ => rfl) ?_)
    go_wp2
    refine Rg.region [([0, 1], 2)] [3, 4, 5] [6] (by kernel_rfl) (by kernel_rfl) fun w' hw' => ?_
    have st' := s3.ext hw'
    simp only [Rg.walk, Rg.pick, Rg.nth, List.map_cons, List.map_nil, Act.put]
    repeat (go_big_quiet_step (fail))
    refine qldAll aggW rfl _ rfl (by rfl) (st'.at 2 rfl) (by rfl) ?_
    refine wpQuiet_nil ?_
    have hd := divide (x * y) m 8 8 w1.heap.size 0 w' (by omega) (by omega) (by rw [show (8 : Nat) = 4 + 4 from rfl, Nat.pow_add]; exact Nat.mul_lt_mul_of_lt_of_lt hx hy) h1 hm (fun i hi => by rw [Nat.zero_add]; exact st'.cell 0 rfl i (arr_get 8 _ i hi))
    go_wp2_with (go_at_call 25; refine hd.mono ?_; rintro e w2 ⟨rfl, hw2⟩)
    refine ⟨hw2, ?_⟩
    repeat (go_big_quiet_step (fail))
    refine wpQuiet_nil ?_
    have st2 := st'.ext hw2
    have st3 := st2.setRow 1 rfl (wordA (x * y % m))
    have st4 := st3.setRow 1 rfl (wordA (x * y % m))
    go_wp2_with (first
      | refine stAll aggW (vs := wordA (x * y % m)) rfl _ _ rfl (by rfl) (by rfl) (st2.at 1 rfl) (by rfl) (by rfl) (wordA_mem _) ?_
      | refine ldAll aggW rfl _ rfl (by rfl) (st3.at 1 rfl) (by rfl) ?_
      | refine stAll aggW (vs := wordA (x * y % m)) rfl _ _ rfl (by rfl) (by rfl) (st3.at 1 rfl) (by rfl) (by rfl) (wordA_mem _) ?_)
    go_wp2
    refine bodyPost_ret (v := .agg _) (ret_cell aggW rfl rfl (st4.at 1 rfl) rfl) rfl ⟨rfl, st4.below⟩
theorem elU : El Tryz.prog 67 23 1 8 := ⟨by kernel_rfl, by
 obtain ⟨i, h1, h2, h3, h4⟩ := info_parts (P := Tryz.prog) (e := 23) (z := .int .u64 0) (size := 1) (bytes := 8) (by kernel_rfl)
 exact ⟨i, _, h1, h2, h3, h4, rfl⟩, by omega⟩
theorem AddMod (x y m : Nat) (hx : x < M256) (hy : y < M256) (hm : m < M256) (w : World) : Calls Tryz.prog 82 #[.agg (wordA x), .agg (wordA y), .agg (wordA m)] w fun e w' => e = .returned (.agg (wordA (if m = 0 then 0 else (x + y) % m))) ∧ Ext w w' := by
  have hz := isZero m hm
  have e0 : (arr 4 fun _ => u64V 0) = wordA 0 := zeroW
  by_cases h0 : m = 0
  · subst h0
    rw [if_pos rfl]
    rw [show decide ((0 : Nat) = 0) = true from rfl] at hz
    go_enter Tryz.func82, Tryz.ntmps82
    have s1 := ((((St.start w).alloc (wordA x) 36).alloc' (wordA y) 36 (w.heap.size + 1) (by simp)).alloc' (wordA 0) 36 (w.heap.size + 1 + 1) (by simp)).alloc' (arr 4 fun _ => u64V 0) 36 (w.heap.size + 1 + 1 + 1) (by simp)
    have s2 := s1.setRow 0 rfl (arr 4 fun _ => u64V 0)
    go_wp2_with (first
      | refine ldAll aggW rfl _ rfl (by rfl) (s1.at 1 rfl) (by rfl) ?_
      | refine ldAll aggW rfl _ rfl (by rfl) (s1.at 0 rfl) (by rfl) ?_
      | refine stAll aggW (vs := arr 4 fun _ => u64V 0) rfl _ _ rfl (by rfl) (by rfl) (s1.at 0 rfl) (by rfl) (by rfl) (arr_mem fun _ _ => rfl) ?_)
    go_wp2
    refine bodyPost_ret (v := .agg _) (ret_cell aggW rfl rfl (s2.at 0 rfl) rfl) rfl ⟨by rw [e0], s2.below⟩
  · have hd : decide (m = 0) = false := by simpa using h0
    rw [hd] at hz
    rw [if_neg h0]
    have h1 : 0 < m := by omega
    clear h0 hd
    have hN : x + y < m64 ^ 5 := by
      have : m64 ^ 5 = M256 * m64 := Nat.pow_succ ..
      rw [this]
      have : M256 * 2 ≤ M256 * m64 := Nat.mul_le_mul_left _ (by unfold m64; omega)
      omega
    have hc4 : carry x y 4 = limb (x + y) 4 := by
      unfold carry limb
      rw [Nat.mod_eq_of_lt (show x < m64 ^ 4 from hx), Nat.mod_eq_of_lt (show y < m64 ^ 4 from hy), Nat.mod_eq_of_lt (Nat.div_lt_of_lt_mul (by rw [← Nat.pow_succ]; exact hN))]
    have hsum := sum x y
    rw [hc4] at hsum
    clear hc4
    go_enter Tryz.func82, Tryz.ntmps82
    have s1 := ((((St.start w).alloc (wordA x) 36).alloc' (wordA y) 36 (w.heap.size + 1) (by simp)).alloc' (wordA m) 36 (w.heap.size + 1 + 1) (by simp)).alloc' (arr 4 fun _ => u64V 0) 36 (w.heap.size + 1 + 1 + 1) (by simp)
    go_wp2_with (first
      | refine ldAll aggW rfl _ rfl (by rfl) (s1.at 1 rfl) (by rfl) ?_
      | refine ldAll aggW rfl _ rfl (by rfl) (s1.at 2 rfl) (by rfl) ?_
      | refine ldAll aggW rfl _ rfl (by rfl) (s1.at 3 rfl) (by rfl) ?_
      | (go_at_call 49
         refine (hsum _).mono ?_
         rintro e w1 ⟨rfl, hw1⟩
         have s2 := (s1.ext hw1).alloc (arr 4 fun _ => .int .u64 0) 36
         have s3 := s2.setRow 0 rfl (wordA (x + y)))
      | refine stAll aggW (vs := wordA (x + y)) rfl _ _ rfl (by rfl) (by rfl) (s2.at 0 rfl) (by rfl) (by rfl) (wordA_mem _) ?_)
    go_wp2
    refine Rg.region [([0, 1, 4], 2), ([], 3), ([], 5)] [6, 7, 8] [9] (by kernel_rfl) (by kernel_rfl) fun w' hw' => ?_
    have st' := s3.ext hw'
    simp only [Rg.walk, Rg.pick, Rg.nth, List.map_cons, List.map_nil]
    repeat (go_big_quiet_step (fail))
    refine qldAll aggW rfl _ rfl (by rfl) (st'.at 2 rfl) (by rfl) ?_
    refine wpQuiet_nil ?_
    go_wp2
    refine ⟨Below.alloc (Below.refl _ _) (Nat.le_refl _) _, ?_⟩
    refine wpQuiet_nil ?_
    have st2 := st'.alloc #[.int .u64 (limb (x + y) 4 : Int)] 23
    have hS0 : Sl (w'.alloc (.cells #[.int .u64 (limb (x + y) 4 : Int)] 23)) (w'.heap.size + 1) 1 (some ⟨w1.heap.size, 0, none⟩) 4 4 (wordA (x + y)).toList :=
      ⟨by rfl, by omega, by simp [maxLen], (fun h => by cases h), fun _ => ⟨_, 0, rfl, by have := st2.lt 1 rfl; simpa using this, fun j u hj => by
        rw [Nat.zero_add]
        refine st2.cell 1 rfl j ?_
        rw [Array.getElem?_toList] at hj
        exact hj⟩⟩
    go_wp2_with (refine grows elU rfl _ _ rfl (by rfl) hS0 (by rfl) (Sl.lit w' #[.int .u64 (limb (x + y) 4 : Int)] 23 1 1 rfl (by simp [maxLen])) (by simp [Value.oneCell']) (by omega) (by omega) (by omega) (by omega) ?_)
    intro v' w3 hown hx3
    obtain ⟨g, cap, rfl, hn5, hcap, _, _, hcells⟩ := own_pos hown (by omega)
    go_wp2
    refine ⟨hx3, ?_⟩
    refine wpQuiet_nil ?_
    have st3 := st2.ext hx3
    have hd := divide (x + y) m 5 cap g 0 w3 (by omega) (by omega) hN h1 hm (fun i hi => by
      rw [Nat.zero_add]
      refine hcells i _ ?_
      by_cases h4 : i < 4
      · rw [List.getElem?_append_left (by simp [wordA, arr_size]; exact h4), Array.getElem?_toList]; exact wordA_get (x + y) i h4
      · obtain rfl : i = 4 := by omega
        rw [List.getElem?_append_right (by simp [wordA, arr_size])]
        simp [wordA, arr_size])
    go_wp2_with (go_at_call 25; refine hd.mono ?_; rintro e w4 ⟨rfl, hw4⟩)
    refine ⟨hw4, ?_⟩
    repeat (go_big_quiet_step (fail))
    refine wpQuiet_nil ?_
    have st4 := st3.ext hw4
    have st5 := st4.setRow 2 rfl (wordA ((x + y) % m))
    have st6 := st5.setRow 2 rfl (wordA ((x + y) % m))
    go_wp2_with (first
      | refine stAll aggW (vs := wordA ((x + y) % m)) rfl _ _ rfl (by rfl) (by rfl) (st4.at 2 rfl) (by rfl) (by rfl) (wordA_mem _) ?_
      | refine ldAll aggW rfl _ rfl (by rfl) (st5.at 2 rfl) (by rfl) ?_
      | refine stAll aggW (vs := wordA ((x + y) % m)) rfl _ _ rfl (by rfl) (by rfl) (st5.at 2 rfl) (by rfl) (by rfl) (wordA_mem _) ?_)
    go_wp2
    refine bodyPost_ret (v := .agg _) (ret_cell aggW rfl rfl (st6.at 2 rfl) rfl) rfl ⟨rfl, st6.below⟩
end Wd
open Go.RowKit Rp Rg Ops Mm Ar Wm Eq'
namespace Wd
theorem bit_and (y t : Nat) : bits BinOp.and IntKind.u64 ((limb y (t / 64) : Int) / 2 ^ (t % 64)) 1 = ((y / 2 ^ t % 2 : Nat) : Int) := by
 have e2 : (limb y (t / 64) : Int) / 2 ^ (t % 64) = ((limb y (t / 64) / 2 ^ (t % 64) : Nat) : Int) := by simp
 have h1 := limb_lt y (t / 64)
 have h4 := Nat.div_le_self (limb y (t / 64)) (2 ^ (t % 64))
 have e3 := bits_and_u64_nat (limb y (t / 64) / 2 ^ (t % 64)) 1 (by unfold m64 at h1; omega) (by omega)
 rw [Nat.and_one_is_mod, limb_bit] at e3
 rw [e2]
 exact e3
set_option maxRecDepth 4000 in
set_option maxHeartbeats 4000000 in
theorem Exp (x y : Nat) (hy : y < M256) (w : World) : Calls Tryz.prog 33 #[.agg (wordA x), .agg (wordA y)] w fun e w' => e = .returned (.agg (wordA (x ^ y))) ∧ Ext w w' := by
  go_enter Tryz.func33, Tryz.ntmps33
  have s1 := (((St.start w).alloc (wordA x) 36).alloc' (wordA y) 36 (w.heap.size + 1) (by simp)).alloc' (arr 4 fun _ => u64V 0) 36 (w.heap.size + 1 + 1) (by simp)
  go_wp2_with (first
    | (go_at_call 29
       refine (IntW 1 (by unfold m64; omega) _).mono ?_
       rintro e w1 ⟨rfl, hw1⟩
       have s2 := (s1.ext hw1).alloc (arr 4 fun _ => .int .u64 0) 36
       have s3 := s2.setRow 0 rfl (wordA 1))
    | refine stAll aggW (vs := wordA 1) rfl _ _ rfl (by rfl) (by rfl) (s2.at 0 rfl) (by rfl) (by rfl) (wordA_mem _) ?_)
  go_wp2
  obtain ⟨G, hG⟩ : ∃ G, G = w1.heap.size := ⟨_, rfl⟩
  go_loopw [6] (fun i wr => ∃ (t : Nat) (z : Int), t ≤ 256 ∧ z = (t : Int) - 1 ∧ i = .int .i64 z ∧
      St w wr [(w1.heap.size, 36, wordA (x ^ (y / 2 ^ t))), (w.heap.size + 1 + 1, 36, arr 4 fun _ => u64V 0), (w.heap.size + 1, 36, wordA y), (w.heap.size, 36, wordA x)]) (fun i _ => (intOf i + 1).toNat)
  case atStart =>
    refine ⟨256, 255, by omega, rfl, rfl, ?_⟩
    have e : M256 = 2 ^ 256 := by unfold M256; rw [show m64 = 2 ^ 64 from rfl, ← Nat.pow_mul]
    rw [e] at hy
    rw [Nat.div_eq_of_lt hy, Nat.pow_zero]
    exact s3
  case round =>
    obtain ⟨t, z, ht, hz, rfl, st⟩ := hrel
    cases t with
    | zero =>
      obtain rfl : z = -1 := by omega
      clear hz
      simp only [Nat.pow_zero, Nat.div_one] at st
      have s2 := st.setRow 1 rfl (wordA (x ^ y))
      go_wp2_with (first
        | refine ldAll aggW rfl _ rfl (by rfl) (st.at 0 rfl) (by rfl) ?_
        | refine stAll aggW (vs := wordA (x ^ y)) rfl _ _ rfl (by rfl) (by rfl) (st.at 1 rfl) (by rfl) (by rfl) (wordA_mem _) ?_)
      go_wp2
      refine bodyPost_ret (v := .agg _) (ret_cell aggW rfl rfl (s2.at 1 rfl) rfl) rfl ⟨rfl, s2.below⟩
    | succ t =>
      obtain rfl : z = (t : Int) := by omega
      clear hz
      obtain ⟨X, hX⟩ : ∃ X, X = x ^ (y / 2 ^ (t + 1)) := ⟨_, rfl⟩
      rw [← hX] at st
      have hb := bit_and y t
      have hh := half_step y t
      have HX := Lib.hid (And.intro hX hh)
      clear hX hh
      by_cases hbit : y / 2 ^ t % 2 = 1
      · rw [hbit] at hb
        have hb' : (bits BinOp.and IntKind.u64 ((limb y (t / 64) : Int) / 2 ^ (t % 64)) 1 == 1) = true := by rw [hb]; rfl
        have HB := Lib.hid hbit
        clear hb hbit
        go_wp2_with (first
          | refine ldAll aggW rfl _ rfl (by rfl) (st.at 0 rfl) (by rfl) ?_
          | (go_at_call 31
             refine (Mul _ _ _).mono ?_
             rintro e w2 ⟨rfl, hw2⟩
             have st2 := st.ext hw2
             have st3 := st2.setRow 0 rfl (wordA (X * X))
             have c3 : (w2.setRow w1.heap.size (wordA (X * X))).cell? ⟨w.heap.size + 1, t / 64, none⟩ = some (.int .u64 (limb y (t / 64) : Int)) := st3.cell 2 rfl (t / 64) (wordA_get y _ (by omega)))
          | refine stAll aggW (vs := wordA (X * X)) rfl _ _ rfl (by rfl) (by rfl) (st2.at 0 rfl) (by rfl) (by rfl) (wordA_mem _) ?_
          | refine ldAll aggW rfl _ rfl (by rfl) (st3.at 0 rfl) (by rfl) ?_
          | refine ldAll aggW rfl _ rfl (by rfl) (st3.at 3 rfl) (by rfl) ?_
          | (go_at_call 31
             refine (Mul _ _ _).mono ?_
             rintro e w4 ⟨rfl, hw4⟩
             have st4 := st3.ext hw4
             have st5 := st4.setRow 0 rfl (wordA (X * X * x)))
          | refine stAll aggW (vs := wordA (X * X * x)) rfl _ _ rfl (by rfl) (by rfl) (st4.at 0 rfl) (by rfl) (by rfl) (wordA_mem _) ?_)
        go_wp2
        go_roundw
        case rel =>
          refine ⟨t, (t : Int) - 1, by omega, rfl, by simp, ?_⟩
          obtain ⟨h1, h2⟩ := HX.out
          rw [HB.out] at h2
          rw [show x ^ (y / 2 ^ t) = X * X * x from by rw [h2, h1, Nat.pow_add, Nat.two_mul, Nat.pow_add, Nat.pow_one]]
          exact st5
        case measure => simp [intOf]
      · have hbit : y / 2 ^ t % 2 = 0 := by omega
        rw [hbit] at hb
        have hb' : (bits BinOp.and IntKind.u64 ((limb y (t / 64) : Int) / 2 ^ (t % 64)) 1 == 1) = false := by rw [hb]; rfl
        have HB := Lib.hid hbit
        clear hb hbit
        go_wp2_with (first
          | refine ldAll aggW rfl _ rfl (by rfl) (st.at 0 rfl) (by rfl) ?_
          | (go_at_call 31
             refine (Mul _ _ _).mono ?_
             rintro e w2 ⟨rfl, hw2⟩
             have st2 := st.ext hw2
             have st3 := st2.setRow 0 rfl (wordA (X * X))
             have c3 : (w2.setRow w1.heap.size (wordA (X * X))).cell? ⟨w.heap.size + 1, t / 64, none⟩ = some (.int .u64 (limb y (t / 64) : Int)) := st3.cell 2 rfl (t / 64) (wordA_get y _ (by omega)))
          | refine stAll aggW (vs := wordA (X * X)) rfl _ _ rfl (by rfl) (by rfl) (st2.at 0 rfl) (by rfl) (by rfl) (wordA_mem _) ?_
          | refine ldAll aggW rfl _ rfl (by rfl) (st3.at 0 rfl) (by rfl) ?_
          | refine ldAll aggW rfl _ rfl (by rfl) (st3.at 3 rfl) (by rfl) ?_
          | (go_at_call 31
             refine (Mul _ _ _).mono ?_
             rintro e w4 ⟨rfl, hw4⟩
             have st4 := st3.ext hw4
             have st5 := st4.setRow 0 rfl (wordA (X * X * x)))
          | refine stAll aggW (vs := wordA (X * X * x)) rfl _ _ rfl (by rfl) (by rfl) (st4.at 0 rfl) (by rfl) (by rfl) (wordA_mem _) ?_)
        go_wp2
        go_roundw
        case rel =>
          refine ⟨t, (t : Int) - 1, by omega, rfl, by simp, ?_⟩
          obtain ⟨h1, h2⟩ := HX.out
          rw [HB.out] at h2
          rw [show x ^ (y / 2 ^ t) = X * X from by rw [h2, h1, Nat.add_zero, Nat.two_mul, Nat.pow_add]]
          exact st3
        case measure => simp [intOf]
end Wd
open Go.RowKit Rg Wm Ar
namespace Lf
theorem wV_eq {x y : Nat} (h : x % M256 = y % M256) : wV x = wV y := congrArg (fun l => V.a (l.map uK)) (limbs_eq h)
theorem mlt (x : Nat) : x % M256 < M256 := Nat.mod_lt _ M256_pos
theorem wV_mod (x : Nat) : wV (x % M256) = wV x := wV_eq (Nat.mod_mod _ _)
def qW (x y : Nat) : Nat := if y % M256 = 0 then 0 else x % M256 / (y % M256)
def rW (x y : Nat) : Nat := if y % M256 = 0 then 0 else x % M256 % (y % M256)
def amW (x y m : Nat) : Nat := if m % M256 = 0 then 0 else (x % M256 + y % M256) % (m % M256)
def mmW (x y m : Nat) : Nat := if m % M256 = 0 then 0 else x % M256 * (y % M256) % (m % M256)
theorem cmp_lt {x y : Nat} : Wd.cmp x y < 0 ↔ x % M256 < y % M256 := by
 unfold Wd.cmp
 split
 ·exact ⟨fun _ => by assumption, fun _ => by omega⟩
 ·split <;> exact ⟨fun h => by omega, fun h => by omega⟩
theorem cmp_gt {x y : Nat} : Wd.cmp x y > 0 ↔ y % M256 < x % M256 := by
 unfold Wd.cmp
 split
 ·exact ⟨fun h => by omega, fun h => by omega⟩
 ·split
  ·exact ⟨fun _ => by assumption, fun _ => by omega⟩
  ·exact ⟨fun h => by omega, fun h => by omega⟩
theorem exact_w3 (a b c : Nat) : ∀ (j : Nat) u z, [wV a, wV b, wV c][j]? = some u → [Value.agg (wordA a), .agg (wordA b), .agg (wordA c)][j]? = some z → Exact u z := ex3 (exact_word a) (exact_word b) (exact_word c)
namespace Wo
theorem Exp (x y : Nat) : LF Tryz.prog 33 [wV x, wV y] (fun _ => wV (x ^ (y % M256))) none := by
 rw [← wV_mod y]
 exact .of_calls (by kernel_rfl) rfl (ex2 (exact_word x) (exact_word _)) (exact_word _) fun w => Wd.Exp x (y % M256) (mlt y) w
theorem DivMod (x y : Nat) : LF Tryz.prog 17 [wV x, wV y] (fun _ => .t [wV (qW x y), wV (rW x y)]) none := by
 rw [← wV_mod x, ← wV_mod y]
 by_cases h : y % M256 = 0
 ·rw [h]
  have e1 : qW x y = 0 := by simp [qW, h]
  have e2 : rW x y = 0 := by simp [rW, h]
  rw [e1, e2]
  exact .of_calls (by kernel_rfl) rfl (ex2 (exact_word _) (exact_word _)) (exact_pair (exact_word _) (exact_word _)) fun w => Wd.DivMod_zero _ w
 ·have e1 : qW x y = x % M256 / (y % M256) := by simp [qW, h]
  have e2 : rW x y = x % M256 % (y % M256) := by simp [rW, h]
  rw [e1, e2]
  exact .of_calls (by kernel_rfl) rfl (ex2 (exact_word _) (exact_word _)) (exact_pair (exact_word _) (exact_word _)) fun w => Wd.DivMod _ _ (mlt x) (mlt y) (Nat.pos_of_ne_zero h) w
theorem AddMod (x y m : Nat) : LF Tryz.prog 82 [wV x, wV y, wV m] (fun _ => wV (amW x y m)) none := by
 rw [← wV_mod x, ← wV_mod y, ← wV_mod m]
 exact .of_calls (by kernel_rfl) rfl (exact_w3 _ _ _) (exact_word _) fun w => Wd.AddMod _ _ _ (mlt x) (mlt y) (mlt m) w
theorem MulMod (x y m : Nat) : LF Tryz.prog 83 [wV x, wV y, wV m] (fun _ => wV (mmW x y m)) none := by
 rw [← wV_mod x, ← wV_mod y, ← wV_mod m]
 exact .of_calls (by kernel_rfl) rfl (exact_w3 _ _ _) (exact_word _) fun w => Wd.MulMod _ _ _ (mlt x) (mlt y) (mlt m) w
end Wo
end Lf
open Go.RowKit Rg Wm Ar
namespace Lf
theorem parts (x : Nat) : x % M256 = limb x 0 + limb x 1 * 18446744073709551616 + limb x 2 * 340282366920938463463374607431768211456 + limb x 3 * 6277101735386680763835789423207666416102355444464034512896 := by
 have h := val_limb x 4
 have h1 : m64 ^ 1 = 18446744073709551616 := by unfold m64; decide
 have h2 : m64 ^ 2 = 340282366920938463463374607431768211456 := by unfold m64; decide
 have h3 : m64 ^ 3 = 6277101735386680763835789423207666416102355444464034512896 := by unfold m64; decide
 simp only [val, h1, h2, h3, Nat.pow_zero, Nat.mul_one, Nat.zero_add] at h
 exact h.symm
theorem far_iff (n : Nat) : 256 ≤ n % M256 ↔ 256 ≤ limb n 0 ∨ (limb n 1 ||| limb n 2 ||| limb n 3) ≠ 0 := by
 have hp := parts n
 have h0 := limb_lt64 n 0
 constructor
 ·intro h
  rcases Nat.lt_or_ge (limb n 0) 256 with h1 | h1
  ·refine .inr fun h2 => ?_
   rw [Nat.or_eq_zero_iff, Nat.or_eq_zero_iff] at h2
   omega
  ·exact .inl h1
 ·rintro (h | h)
  ·omega
  ·by_cases h1 : limb n 1 = 0
   ·by_cases h2 : limb n 2 = 0
    ·by_cases h3 : limb n 3 = 0
     ·exact absurd (by rw [h1, h2, h3]; rfl) h
     ·omega
    ·omega
   ·omega
theorem near_eq {n : Nat} (h : n % M256 < 256) : limb n 0 = n % M256 := by
 have hp := parts n
 omega
theorem minus_iff (x : Nat) : 2 ^ 255 ≤ x % M256 ↔ 9223372036854775808 ≤ limb x 3 := by
 have hp := parts x
 have h0 := limb_lt64 x 0
 have h1 := limb_lt64 x 1
 have h2 := limb_lt64 x 2
 have h3 := limb_lt64 x 3
 have e : (2 : Nat) ^ 255 = 57896044618658097711785492504343953926634992332820282019728792003956564819968 := by decide
 rw [e]
 omega
theorem limb_over {a i : Nat} (ha : a < 2 ^ 256) (hi : 4 ≤ i) : limb a i = 0 := by
 rw [limb_two, Nat.div_eq_of_lt (Nat.lt_of_lt_of_le ha (Nat.pow_le_pow_right (by decide) (by omega)))]
theorem shl_far {a n : Nat} (h : 256 ≤ n) : a * 2 ^ n % M256 = 0 % M256 := by
 obtain ⟨m, rfl⟩ : ∃ m, n = 256 + m := ⟨n - 256, by omega⟩
 rw [M256_two, Nat.pow_add, Nat.mul_left_comm, Nat.mul_mod_right, Nat.zero_mod]
theorem shr_far {a n : Nat} (h : 256 ≤ n) : a % M256 / 2 ^ n = 0 := by
 refine Nat.div_eq_of_lt (Nat.lt_of_lt_of_le (mlt a) ?_)
 rw [M256_two]; exact Nat.pow_le_pow_right (by decide) h
def sgn (x : Nat) : Bool := decide (2 ^ 255 ≤ x % M256)
def sarW (n a : Nat) : Nat := if 2 ^ 255 ≤ a % M256 then (if 256 ≤ n % M256 then notN 0 else (a % M256 / 2 ^ (n % M256)) ||| (notN 0 * 2 ^ (dif 256 n % M256))) else a % M256 / 2 ^ (n % M256)
def sizeW (x : Nat) : Nat := if 2 ^ 255 ≤ x % M256 then dif 0 x else x
def sqW (a b : Nat) : Nat := if sgn a = sgn b then qW (sizeW a) (sizeW b) else dif 0 (qW (sizeW a) (sizeW b))
def srW (a b : Nat) : Nat := if 2 ^ 255 ≤ a % M256 then dif 0 (rW (sizeW a) (sizeW b)) else rW (sizeW a) (sizeW b)
def scmp (a b : Nat) : Int := if sgn a = sgn b then Wd.cmp a b else Wd.cmp b a
def extW (k a : Nat) : Nat := if 31 ≤ k % M256 then a else sarW (8 * (31 - k % M256)) (a * 2 ^ (8 * (31 - k % M256) % M256))
def byteW (i a : Nat) : Nat := if 31 < i % M256 then 0 else ((wordB a).getD (i % M256) default).toNat
def bit4 (f : Nat → Nat) (i : Nat) : List Nat := (List.range 4).map fun j => if j < i then f j else 0
theorem bit4_len (f : Nat → Nat) (i : Nat) : (bit4 f i).length = 4 := by simp [bit4]
theorem bit4_full (x : Nat) : bit4 (limb x) 4 = limbs x := by simp [bit4, limbs, List.range, List.range.loop]
theorem bit4_set {f : Nat → Nat} {i b : Nat} (hb : b = f i) : (bit4 f i).set i b = bit4 f (i + 1) := by
 subst hb
 refine List.ext_getElem (by simp [bit4]) fun j h1 h2 => ?_
 simp only [bit4, List.getElem_set, List.getElem_map, List.getElem_range]
 by_cases h : i = j
 ·subst h; simp
 ·rw [if_neg h]
  by_cases h3 : j < i
  ·rw [if_pos h3, if_pos (by omega)]
  ·rw [if_neg h3, if_neg (by omega)]
theorem bit4_start {f : Nat → Nat} {k : Nat} (h : ∀ j, j < k → f j = 0) : bit4 f k = List.replicate 4 0 := by
 refine List.ext_getElem (by simp [bit4]) fun j h1 h2 => ?_
 simp only [bit4, List.getElem_map, List.getElem_range, List.getElem_replicate]
 split
 ·exact h j (by assumption)
 ·rfl
theorem bit4_end {f : Nat → Nat} {k : Nat} (h : ∀ j, k ≤ j → j < 4 → f j = 0) (hk : k ≤ 4) : bit4 f k = bit4 f 4 := by
 refine List.ext_getElem (by simp [bit4]) fun j h1 h2 => ?_
 simp only [bit4, List.getElem_map, List.getElem_range]
 have h3 : j < 4 := by simpa [bit4] using h1
 rw [if_pos h3]
 split
 ·rfl
 ·exact (h j (by omega) h3).symm
theorem bit4_lt {f : Nat → Nat} (hf : ∀ j, f j < 18446744073709551616) (i j : Nat) : (bit4 f i).getD j default < 18446744073709551616 := by
 rw [List.getD_eq_getElem?_getD]
 cases h : (bit4 f i)[j]? with
 | none => exact Nat.zero_lt_succ _
 | some x =>
  obtain ⟨k, _, rfl⟩ := List.mem_map.1 (List.mem_of_getElem? h)
  simp only [Option.getD_some]
  split
  ·exact hf k
  ·omega
theorem split64 {n : Nat} (h : n % M256 < 256) : n % M256 = 64 * ((limbs n).getD 0 default / 64) + (limbs n).getD 0 default % 64 ∧ (limbs n).getD 0 default / 64 < 4 := by
 rw [limbs_get n (by decide), near_eq h]
 omega
theorem tgetD_set {l : List Nat} {i b : Nat} (h : i < l.length) : (l.set i b).getD i default = b := by
 rw [List.getD_eq_getElem?_getD, List.getElem?_set_self h]; rfl
theorem shl_at (a k s i : Nat) (hs : s < 64) (hk : k ≤ i) (hi : i < 4) (L : List Nat) (hL : L = bit4 (limb (a * 2 ^ (64 * k + s))) i) : L.set i ((limbs a).getD (i - k) default * 2 ^ s % 2 ^ 64) = if k = i then bit4 (limb (a * 2 ^ (64 * k + s))) (i + 1) else L.set i ((limbs a).getD (i - k) default * 2 ^ s % 2 ^ 64) := by
 split
 ·rename_i e
  rw [hL]
  refine bit4_set ?_
  rw [limb_shl a k s i hs, if_neg (by omega), if_neg (by omega), limbs_get a (by omega), Nat.or_zero]
 ·rfl
theorem shl_or (a k s i : Nat) (hs : s < 64) (hk : k < i) (hi : i < 4) (L : List Nat) (hL : L = bit4 (limb (a * 2 ^ (64 * k + s))) i) (X : Nat) (hX : X = (limbs a).getD (i - k) default * 2 ^ s % 2 ^ 64) : (L.set i X).set i (X ||| (limbs a).getD (i - k - 1) default / 2 ^ (64 - s)) = bit4 (limb (a * 2 ^ (64 * k + s))) (i + 1) := by
 rw [List.set_set, hL, hX]
 refine bit4_set ?_
 rw [limb_shl a k s i hs, if_neg (by omega), if_pos hk, limbs_get a (by omega), limbs_get a (by omega)]
theorem shr_one (a k s i : Nat) (hs : s < 64) (ha : a < 2 ^ 256) (hi : i + k < 4) (h3 : ¬ i + k < 3) (L : List Nat) (hL : L = bit4 (limb (a / 2 ^ (64 * k + s))) i) : L.set i ((limbs a).getD (i + k) default / 2 ^ s) = bit4 (limb (a / 2 ^ (64 * k + s))) (i + 1) := by
 rw [hL]
 refine bit4_set ?_
 rw [limb_shr a k s i hs ha, if_neg h3, limbs_get a (by omega), Nat.or_zero]
theorem shr_or (a k s i : Nat) (hs : s < 64) (ha : a < 2 ^ 256) (h3 : i + k < 3) (L : List Nat) (hL : L = bit4 (limb (a / 2 ^ (64 * k + s))) i) (X : Nat) (hX : X = (limbs a).getD (i + k) default / 2 ^ s) : (L.set i X).set i (X ||| (limbs a).getD (i + k + 1) default * 2 ^ (64 - s) % 2 ^ 64) = bit4 (limb (a / 2 ^ (64 * k + s))) (i + 1) := by
 rw [List.set_set, hL, hX]
 refine bit4_set ?_
 rw [limb_shr a k s i hs ha, if_pos h3, limbs_get a (by omega), limbs_get a (by omega)]
theorem shr_end (a k s : Nat) (hs : s < 64) (ha : a < 2 ^ 256) (hk : k < 4) : bit4 (limb (a / 2 ^ (64 * k + s))) (4 - k) = limbs (a / 2 ^ (64 * k + s)) := by
 rw [← bit4_full]
 refine bit4_end (fun j h1 h2 => ?_) (by omega)
 rw [limb_shr a k s j hs ha, if_neg (by omega), limb_over ha (by omega), Nat.zero_div, Nat.or_zero]
theorem shl_start (a k s : Nat) (hs : s < 64) : List.replicate 4 0 = bit4 (limb (a * 2 ^ (64 * k + s))) k :=
 (bit4_start fun j hj => by rw [limb_shl a k s j hs, if_pos hj]).symm
end Lf
open Go.RowKit Rg
set_option maxRecDepth 100000
namespace Lf
def NE (a b : Int) : Prop := ¬ a = b
end Lf
namespace Cn
def digs : List UInt8 := [48, 49, 50, 51, 52, 53, 54, 55, 56, 57, 97, 98, 99, 100, 101, 102, 103, 104, 105, 106, 107, 108, 109, 110, 111, 112, 113, 114, 115, 116, 117, 118, 119, 120, 121, 122]
def digs2 : List UInt8 := [48, 48, 48, 49, 48, 50, 48, 51, 48, 52, 48, 53, 48, 54, 48, 55, 48, 56, 48, 57, 49, 48, 49, 49, 49, 50, 49, 51, 49, 52, 49, 53, 49, 54, 49, 55, 49, 56, 49, 57, 50, 48, 50, 49, 50, 50, 50, 51, 50, 52, 50, 53, 50, 54, 50, 55, 50, 56, 50, 57, 51, 48, 51, 49, 51, 50, 51, 51, 51, 52, 51, 53, 51, 54, 51, 55, 51, 56, 51, 57, 52, 48, 52, 49, 52, 50, 52, 51, 52, 52, 52, 53, 52, 54, 52, 55, 52, 56, 52, 57, 53, 48, 53, 49, 53, 50, 53, 51, 53, 52, 53, 53, 53, 54, 53, 55, 53, 56, 53, 57, 54, 48, 54, 49, 54, 50, 54, 51, 54, 52, 54, 53, 54, 54, 54, 55, 54, 56, 54, 57, 55, 48, 55, 49, 55, 50, 55, 51, 55, 52, 55, 53, 55, 54, 55, 55, 55, 56, 55, 57, 56, 48, 56, 49, 56, 50, 56, 51, 56, 52, 56, 53, 56, 54, 56, 55, 56, 56, 56, 57, 57, 48, 57, 49, 57, 50, 57, 51, 57, 52, 57, 53, 57, 54, 57, 55, 57, 56, 57, 57]
def itoa (n : Nat) : List UInt8 := if n < 10 then (digs.drop n).take (n + 1 - n) else (digs2.drop (n * 2)).take (n * 2 + 2 - n * 2)
theorem itoa_len {n : Nat} (h : n < 100) : (itoa n).length ≤ 2 ∧ 0 < (itoa n).length := by
 have h1 : digs.length = 36 := by decide
 have h2 : digs2.length = 200 := by decide
 unfold itoa
 split <;> simp only [List.length_take, List.length_drop] <;> omega
def rkN (n : Nat) : List UInt8 := if n = 0 then [115, 116, 111, 112] else if n = 1 then [97, 100, 100] else if n = 2 then [109, 117, 108] else if n = 3 then [115, 117, 98] else if n = 4 then [100, 105, 118] else if n = 5 then [115, 100, 105, 118] else if n = 6 then [109, 111, 100] else if n = 7 then [115, 109, 111, 100] else if n = 8 then [97, 100, 100, 109, 111, 100] else if n = 9 then [109, 117, 108, 109, 111, 100] else if n = 10 then [101, 120, 112] else if n = 11 then [101, 120, 116, 101, 110, 100] else if n = 16 then [108, 116] else if n = 17 then [103, 116] else if n = 18 then [115, 108, 116] else if n = 19 then [115, 103, 116] else if n = 20 then [101, 113] else if n = 21 then [122, 101, 114, 111] else if n = 22 then [97, 110, 100] else if n = 23 then [111, 114] else if n = 24 then [120, 111, 114] else if n = 25 then [110, 111, 116] else if n = 26 then [98, 121, 116, 101] else if n = 27 then [115, 104, 108] else if n = 28 then [115, 104, 114] else if n = 29 then [115, 97, 114] else []
def otN (n : Nat) : List UInt8 := if n = 32 then [115, 117, 109] else if n = 48 then [115, 101, 108, 102] else if n = 49 then [109, 111, 110, 101, 121] else if n = 50 then [99, 97, 108, 108, 101, 114] else if n = 51 then [118, 97, 108, 117, 101] else if n = 52 then [105, 110, 119, 111, 114, 100] else if n = 53 then [105, 110, 115, 105, 122, 101] else if n = 54 then [105, 110, 99, 111, 112, 121] else if n = 55 then [99, 111, 100, 101, 115, 105, 122, 101] else if n = 56 then [98, 97, 99, 107, 115, 105, 122, 101] else if n = 57 then [98, 97, 99, 107, 99, 111, 112, 121] else if n = 64 then [116, 105, 109, 101] else if n = 65 then [110, 117, 109, 98, 101, 114] else if n = 66 then [107, 101, 101, 112, 101, 114] else if n = 80 then [112, 111, 112] else if n = 81 then [108, 111, 97, 100] else if n = 82 then [115, 116, 111, 114, 101] else if n = 83 then [115, 116, 111, 114, 101, 56] else if n = 84 then [115, 108, 111, 116] else if n = 85 then [107, 101, 101, 112] else if n = 86 then [106, 117, 109, 112] else if n = 87 then [98, 114, 97, 110, 99, 104] else if n = 88 then [112, 99] else if n = 89 then [115, 105, 122, 101] else if n = 90 then [103, 97, 115] else if n = 91 then [108, 97, 110, 100] else if n = 240 then [109, 97, 107, 101] else if n = 241 then [99, 97, 108, 108] else if n = 242 then [114, 101, 116, 117, 114, 110] else if n = 243 then [108, 111, 111, 107] else if n = 244 then [108, 101, 110, 100] else if n = 253 then [114, 101, 118, 101, 114, 116] else []
def pushed (n : Nat) : Nat := if 96 ≤ n ∧ n < 128 then n - 95 else 0
def name (n : Nat) : List UInt8 := if 96 ≤ n ∧ n < 128 then [112, 117, 115, 104] ++ itoa (n - 96 + 1) else if 128 ≤ n ∧ n < 144 then [100, 117, 112] ++ itoa (n - 128 + 1) else if 144 ≤ n ∧ n < 160 then [115, 119, 97, 112] ++ itoa (n - 144 + 1) else if 160 ≤ n ∧ n ≤ 162 then [108, 111, 103] ++ itoa (n - 160) else if n < 32 then rkN n else otN n
end Cn
open Wm Ar
set_option maxRecDepth 20000
namespace Hx
def ud (c : Nat) : UInt8 := if 48 ≤ c ∧ c ≤ 57 then UInt8.ofNat (c - 48) else if 97 ≤ c ∧ c ≤ 102 then UInt8.ofNat (c - 87) else 16
def hv : List UInt8 → List UInt8
 | [] => []
 | x :: l => UInt8.ofNat (x.toNat / 16) :: UInt8.ofNat (x.toNat % 16) :: hv l
def digs : List UInt8 → Option (List UInt8)
 | [] => some []
 | c :: l => if (ud c.toNat).toNat ≤ 15 then (digs l).map (ud c.toNat :: ·) else none
end Hx
open Wm Ar
set_option maxRecDepth 100000
namespace Co
abbrev psh (b : UInt8) : Nat := Cn.pushed b.toNat
theorem psh_le (b : UInt8) : psh b ≤ 32 := by
 unfold psh Cn.pushed
 split <;> omega
def nxt (c : List UInt8) (p : Nat) : Nat := min (p + 1 + psh (c.getD p default)) c.length
theorem nxt_gt {c : List UInt8} {p : Nat} (h : p < c.length) : p < nxt c p := by
 unfold nxt
 omega
theorem nxt_le (c : List UInt8) (p : Nat) : nxt c p ≤ c.length := Nat.min_le_right _ _
def pcs (c : List UInt8) : Nat → Nat → List Nat
 | 0, _ => []
 | k + 1, p => if p < c.length then p :: pcs c k (nxt c p) else []
theorem pcs_fuel (c : List UInt8) : ∀ k p, c.length - p ≤ k → pcs c k p = pcs c (c.length - p) p
 | 0, p, h => by rw [show c.length - p = 0 by omega]
 | k + 1, p, h => by
  by_cases hp : p < c.length
  ·have hg := nxt_gt hp
   obtain ⟨j, hj⟩ : ∃ j, c.length - p = j + 1 := ⟨c.length - p - 1, by omega⟩
   rw [hj]
   simp only [pcs, if_pos hp]
   rw [pcs_fuel c k (nxt c p) (by omega), pcs_fuel c j (nxt c p) (by omega)]
  ·rw [show c.length - p = 0 by omega]
   simp only [pcs, if_neg hp]
def plc (c : List UInt8) (p : Nat) : List Nat := pcs c (c.length - p) p
theorem plc_at {c : List UInt8} {p : Nat} (h : p < c.length) : plc c p = p :: plc c (nxt c p) := by
 have hg := nxt_gt h
 obtain ⟨j, hj⟩ : ∃ j, c.length - p = j + 1 := ⟨c.length - p - 1, by omega⟩
 unfold plc
 rw [hj]
 simp only [pcs, if_pos h]
 rw [pcs_fuel c j (nxt c p) (by omega)]
theorem plc_end {c : List UInt8} {p : Nat} (h : c.length ≤ p) : plc c p = [] := by
 unfold plc
 rw [show c.length - p = 0 by omega]
 rfl
theorem plc_ind {c : List UInt8} {P : Nat → Prop} (h0 : ∀ p, c.length ≤ p → P p) (h1 : ∀ p, p < c.length → P (nxt c p) → P p) (p : Nat) : P p := by
 have : ∀ k p, c.length - p ≤ k → P p := by
  intro k
  induction k with
  | zero => exact fun p h => h0 p (by omega)
  | succ k ih =>
   intro p h
   by_cases hp : p < c.length
   ·have hg := nxt_gt hp
    exact h1 p hp (ih _ (by omega))
   ·exact h0 p (by omega)
 exact this _ p (Nat.le_refl _)
theorem plc_mem {c : List UInt8} : ∀ p, ∀ x ∈ plc c p, p ≤ x ∧ x < c.length := plc_ind (fun p h x hx => by rw [plc_end h] at hx; cases hx) (fun p h ih x hx => by
 rw [plc_at h] at hx
 rcases List.mem_cons.1 hx with rfl | hx
 ·exact ⟨Nat.le_refl _, h⟩
 ·have hg := nxt_gt h
  have := ih x hx
  omega)
theorem plc_lt {c : List UInt8} : ∀ p, List.Pairwise (· < ·) (plc c p) := plc_ind (fun p h => by rw [plc_end h]; exact .nil) (fun p h ih => by
 rw [plc_at h]
 refine .cons (fun x hx => ?_) ih
 have := plc_mem _ x hx
 have hg := nxt_gt h
 omega)
def lands (c : List UInt8) : List Nat := (plc c 0).filter fun p => c.getD p default == 91
end Co
end Go.Proofs.YtffaobngpbaklaaGreatDoor

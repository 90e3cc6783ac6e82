/- Walks of package word: divide, DivMod. -/
import Derived.Test.YtpecjhjpdaifoaaWord2
namespace Go.Proofs.Ytpecjhjpdaifoaa
open Go.RowKit Rp Rg Ops Mm Ar Wm
namespace Wd
theorem wrapN (a : Nat) : IntKind.u64.wrap (a : Int) = ((a % m64 : Nat) : Int) := by rw [IntKind.wrap_u64]; unfold m64; omega
theorem shl_or (R k : Nat) (hk : 0 < k) : bits BinOp.or IntKind.u64 (IntKind.u64.wrap ((limb R k : Int) * 2)) ((limb R (k - 1) : Int) / 9223372036854775808) = ((limb (2 * R) k : Nat) : Int) := by
  have e1 : IntKind.u64.wrap ((limb R k : Int) * 2) = ((limb R k * 2 % m64 : Nat) : Int) := by rw [← wrapN]; simp
  have e2 : (limb R (k - 1) : Int) / 9223372036854775808 = ((limb R (k - 1) / 9223372036854775808 : Nat) : Int) := by simp
  have h1 := limb_lt R (k - 1)
  have h2 : limb R (k - 1) / 9223372036854775808 < 2 := Nat.div_lt_of_lt_mul (by unfold m64 at h1; omega)
  have h3 := Nat.mod_lt (limb R k * 2) m64_pos
  rw [e1, e2, bits_or_u64_nat _ _ (by unfold m64 at h3; exact h3) (by omega), or_bit _ _ h2, shl_limb R k hk]

theorem low_or (R N t : Nat) : bits BinOp.or IntKind.u64 (IntKind.u64.wrap ((limb R 0 : Int) * 2)) (bits BinOp.and IntKind.u64 ((limb N (t / 64) : Int) / 2 ^ (t % 64)) 1) = ((limb (2 * R + N / 2 ^ t % 2) 0 : Nat) : Int) := by
  have e1 : IntKind.u64.wrap ((limb R 0 : Int) * 2) = ((limb R 0 * 2 % m64 : Nat) : Int) := by rw [← wrapN]; simp
  have e2 : (limb N (t / 64) : Int) / 2 ^ (t % 64) = ((limb N (t / 64) / 2 ^ (t % 64) : Nat) : Int) := by simp
  have h1 := limb_lt N (t / 64)
  have h3 := Nat.mod_lt (limb R 0 * 2) m64_pos
  have h4 := Nat.div_le_self (limb N (t / 64)) (2 ^ (t % 64))
  have e3 := bits_and_u64_nat (limb N (t / 64) / 2 ^ (t % 64)) 1 (by unfold m64 at h1; omega) (by omega)
  rw [Nat.and_one_is_mod, limb_bit] at e3
  have h2 : N / 2 ^ t % 2 < 2 := Nat.mod_lt _ (by omega)
  rw [e1, e2, show (1 : Int) = ((1 : Nat) : Int) from rfl, e3, bits_or_u64_nat _ _ (by unfold m64 at h3; exact h3) (by omega), or_bit _ _ h2, shl_zero _ _ h2]
theorem set_or (Q t : Nat) : bits BinOp.or IntKind.u64 ((limb (Q * 2 ^ (t + 1)) (t / 64) : Nat) : Int) ((2 ^ (t % 64) : Nat) : Int) = ((limb ((2 * Q + 1) * 2 ^ t) (t / 64) : Nat) : Int) := by
  have h1 := limb_lt (Q * 2 ^ (t + 1)) (t / 64)
  have h2 : 2 ^ (t % 64) < 18446744073709551616 := Nat.pow_lt_pow_right (n := 64) (by omega) (by omega)
  have e : limb (Q * 2 ^ (t + 1)) (t / 64) = Q * 2 ^ (t % 64 + 1) % m64 := by
    rw [show Q * 2 ^ (t + 1) = (2 * Q) * 2 ^ t from by rw [Nat.pow_succ]; ac_rfl, limb_shl_at, Nat.pow_succ]; congr 1; ac_rfl
  rw [bits_or_u64_nat _ _ (by unfold m64 at h1; exact h1) h2, limb_setbit, if_pos rfl, e, or_two_pow _ _ (by omega)]

theorem big_shift (A t : Nat) (h : 256 ≤ t) : wordA (A * 2 ^ t) = wordA 0 := by
  refine wordA_eq ?_
  obtain ⟨j, rfl⟩ : ∃ j, t = 256 + j := ⟨t - 256, by omega⟩
  have e : M256 = 2 ^ 256 := by unfold M256; rw [show m64 = 2 ^ 64 from rfl, ← Nat.pow_mul]
  rw [e, Nat.pow_add, Nat.mul_left_comm, Nat.mul_mod_right, Nat.zero_mod]
theorem dif_sub {x y : Nat} (h : y ≤ x) (hy : y < M256) : wordA (dif x y) = wordA (x - y) := by
  refine wordA_eq ?_
  unfold dif
  rw [Nat.mod_eq_of_lt hy, show x + (M256 - y) = x - y + M256 from by omega, Nat.add_mod_right]

set_option maxHeartbeats 8000000 in
set_option maxRecDepth 8000 in
/-- The long division, bit by bit. -/
theorem divide (N m n cap g o : Nat) (w : World) (hn : 0 < n) (hn8 : n ≤ 8) (hN : N < m64 ^ n) (hm : 0 < m) (hm2 : m < M256)
    (hcell : ∀ i, i < n → w.cell? ⟨g, o + i, none⟩ = some (.int .u64 (limb N i : Int))) :
    Calls Try.prog 48 #[.slice (some ⟨g, o, none⟩) n cap, .agg (wordA m)] w fun e w' => e = .returned (.tuple #[.agg (wordA (N / m)), .agg (wordA (N % m))]) ∧ Ext w w' := by
  go_enter Try.func48, Try.ntmps48
  have s1 := (((St.start w).alloc (wordA m) 24).alloc' (arr 4 fun _ => u64V 0) 24 (w.heap.size + 1) (by simp)).alloc' (arr 4 fun _ => u64V 0) 24 (w.heap.size + 1 + 1) (by simp)
  go_wp2
  go_loopw [6] (fun i wr => ∃ (t : Nat) (z : Int), t ≤ 64 * n ∧ z = (t : Int) - 1 ∧ i = .int .i64 z ∧
      St w wr [(w.heap.size + 1 + 1, 24, wordA (N / 2 ^ t % m)), (w.heap.size + 1, 24, wordA (N / 2 ^ t / m * 2 ^ t)), (w.heap.size, 24, wordA m)]) (fun i _ => (intOf i + 1).toNat)
  case atStart =>
    refine ⟨64 * n, (n : Int) * 64 - 1, by omega, by omega, by simp, ?_⟩
    have h0 : N / 2 ^ (64 * n) = 0 := Nat.div_eq_of_lt (by rw [Nat.pow_mul]; exact hN)
    rw [h0, Nat.zero_mod, Nat.zero_div, Nat.zero_mul]
    have e : wordA 0 = arr 4 fun _ => u64V 0 := arr_ext fun i hi => by simp [limb]
    rw [e]; exact s1
  case round =>
    obtain ⟨t, z, ht, hz, rfl, st⟩ := hrel
    cases t with
    | zero =>
      obtain rfl : z = -1 := by omega
      clear hz
      simp only [Nat.pow_zero, Nat.div_one, Nat.mul_one] at st
      go_wp2
      refine Rg.region [([0, 1], 2)] [] [3] (by kernel_rfl) (by kernel_rfl) fun w' hw' => ?_
      have st' := st.ext hw'
      simp only [Rg.walk, Rg.pick, Rg.nth, List.map_cons, List.map_nil]
      refine qldAll aggW rfl _ rfl (by rfl) (st'.at 1 rfl) (by rfl) ?_
      refine qldAll aggW rfl _ rfl (by rfl) (st'.at 0 rfl) (by rfl) ?_
      refine wpQuiet_nil ?_
      have st2 := st'.setRow 1 rfl (wordA (N / m))
      have st3 := st2.setRow 0 rfl (wordA (N % m))
      go_wp2_with (refine stAll aggW (vs := wordA (N / m)) rfl _ _ rfl (by rfl) (by rfl) (st'.at 1 rfl) (by rfl) (by rfl) (wordA_mem _) ?_)
      go_wp2
      refine ⟨ext_setRow_same (st'.at 1 rfl), ?_⟩
      refine wpQuiet_nil ?_
      go_wp2_with (refine stAll aggW (vs := wordA (N % m)) rfl _ _ rfl (by rfl) (by rfl) (st2.at 0 rfl) (by rfl) (by rfl) (wordA_mem _) ?_)
      go_wp2
      refine bodyPost_ret (v := .tuple #[.agg (wordA (N / m)), .agg (wordA (N % m))]) (ret_two rfl (slot_cell aggW rfl (st3.at 1 rfl) (by rfl)) (slot_cell aggW rfl (st3.at 0 rfl) (by rfl))) rfl ⟨rfl, st3.below⟩
    | succ t =>
      obtain rfl : z = (t : Int) := by omega
      clear hz
      have a3 : wr.cell? ⟨w.heap.size + 1 + 1, 3, none⟩ = some (.int .u64 (limb (N / 2 ^ (t + 1) % m) 3 : Int)) := st.cell 0 rfl 3 (arr_get 4 _ 3 (by omega))
      obtain ⟨R, hR⟩ : ∃ R, R = N / 2 ^ (t + 1) % m := ⟨_, rfl⟩
      obtain ⟨Q, hQ⟩ : ∃ Q, Q = N / 2 ^ (t + 1) / m := ⟨_, rfl⟩
      rw [← hR, ← hQ] at st
      rw [← hR] at a3
      have hR' := Lib.hid hR
      have hQ' := Lib.hid hQ
      clear hR hQ
      go_wp2
      go_loopw [8] (fun i wr => ∃ k : Nat, k ≤ 3 ∧ i = .int .i64 k ∧
          St w wr [(w.heap.size + 1 + 1, 24, arr 4 fun i => u64V (if k < i then limb (2 * R) i else limb R i)), (w.heap.size + 1, 24, wordA (Q * 2 ^ (t + 1))), (w.heap.size, 24, wordA m)]) (fun i _ => (intOf i).toNat)
      case atStart =>
        refine ⟨3, by omega, rfl, ?_⟩
        have e : (arr 4 fun i => u64V (if 3 < i then limb (2 * R) i else limb R i)) = wordA R := arr_ext fun i hi => by rw [if_neg (by omega)]
        rw [e]; exact st
      case round =>
        obtain ⟨k, hk, rfl, st⟩ := hrel
        cases k with
        | zero =>
          have c1 : wr.cell? ⟨w.heap.size + 1 + 1, 0, none⟩ = some (.int .u64 (limb R 0 : Int)) := st.cell 0 rfl 0 (arr_get 4 _ 0 (by omega))
          have hc := hcell (t / 64) (by omega)
          have c2 : wr.cell? ⟨g, o + t / 64, none⟩ = some (.int .u64 (limb N (t / 64) : Int)) := by
            rw [st.below.cell (World.block_lt_of_cell? w _ hc)]; exact hc
          have f1 := st.frozen 0 rfl 0
          have i1 : ((t : Int) / 64) < (n : Int) := by omega
          go_wp2
          refine Rg.region [] [0, 1, 2, 3, 4, 5, 6, 7, 8, 9, 10, 11, 12, 13] [14] (by kernel_rfl) (by kernel_rfl) fun w' hw' => ?_
          have st' := st.ext hw'
          have d1 := Rg.later (hw'.cell c1)
          have d2 := Rg.later (hw'.cell c2)
          simp only [Rg.walk, Rg.pick, Rg.nth, List.map_nil]
          repeat (go_big_quiet_step (fail))
          refine wpQuiet_nil ?_
          have f2 := st'.frozen 0 rfl 0
          have c3 := hw'.cell c1
          obtain ⟨b, hb⟩ : ∃ b, b = N / 2 ^ t % 2 := ⟨_, rfl⟩
          have hb2 : b < 2 := by rw [hb]; exact Nat.mod_lt _ (by omega)
          have st3 : St w (w'.setCell ⟨w.heap.size + 1 + 1, 0, none⟩ (.int .u64 ((limb (2 * R + b) 0 : Nat) : Int))) [(w.heap.size + 1 + 1, 24, wordA (2 * R + b)), (w.heap.size + 1, 24, wordA (Q * 2 ^ (t + 1))), (w.heap.size, 24, wordA m)] :=
            st'.setFn 0 rfl 0 _ (fun i hi => by
              by_cases h : i = 0
              · subst h; simp [u64V]
              · rw [if_neg h, if_pos (by omega), limb_step R b i hb2 (by omega)]) rfl
          have hlow := low_or R N t
          rw [← hb] at hlow
          rw [← hlow] at st3
          clear hlow
          have HB := Lib.hid hb
          clear hb
          have hRm : R < m := by rw [hR'.out]; exact Nat.mod_lt _ hm
          have htop := top_bit (R := R) (by omega)
          have hcm : ∀ v, Calls Try.prog 23 #[.agg (wordA (2 * R + b)), .agg (wordA m)] v fun e w' => e = .returned (.int .i64 (cmp (2 * R + b) m)) ∧ Ext v w' := fun v => Cmp _ _ v
          obtain ⟨c, hc⟩ : ∃ c, c = cmp (2 * R + b) m := ⟨_, rfl⟩
          rw [← hc] at hcm
          obtain ⟨r1, r2⟩ := And.intro (round_lt (H := N / 2 ^ (t + 1)) (m := m) hb2) (round_ge (H := N / 2 ^ (t + 1)) (m := m) hb2 hm)
          have hhalf := half_step N t
          rw [← HB.out] at hhalf
          rw [← hhalf, ← hR'.out, ← hQ'.out] at r1 r2
          have HR1 := Lib.hid r1
          have HR2 := Lib.hid r2
          clear r1 r2 hhalf
          by_cases hT : limb R 3 / 9223372036854775808 = 0
          · have hT' : ((limb R 3 : Int) / 9223372036854775808 == 0) = true := by
              rw [beq_iff_eq]; omega
            have hsm : 2 * R + b < M256 := by
              rw [hT] at htop
              have := (Nat.div_eq_zero_iff).1 htop.symm
              have := M256_pos
              have : M256 % 2 = 0 := by unfold M256 m64; rfl
              omega
            have hcv : c = if 2 * R + b < m then -1 else if m < 2 * R + b then 1 else 0 := by
              rw [hc, cmp, Nat.mod_eq_of_lt hsm, Nat.mod_eq_of_lt hm2]
            clear hc htop
            by_cases hlt : 2 * R + b < m
            · obtain rfl : c = -1 := by rw [hcv, if_pos hlt]
              clear hcv
              go_wp2_with (first
                | refine ldAllW aggW (by rfl) _ rfl (by rfl) (st3.at 0 rfl) (by rfl) ?_
                | refine ldAllW aggW (by rfl) _ rfl (by rfl) (st3.at 2 rfl) (by rfl) ?_
                | (go_at_call 23
                   refine (hcm _).mono ?_
                   rintro e w4 ⟨rfl, hw4⟩
                   have st4 := st3.ext hw4))
              go_roundw
              case rel =>
                refine ⟨t, (t : Int) - 1, by omega, rfl, by simp, ?_⟩
                obtain ⟨h1, h2⟩ := HR1.out hlt
                rw [h1, h2, show 2 * Q * 2 ^ t = Q * 2 ^ (t + 1) from by rw [Nat.pow_succ]; ac_rfl]
                exact st4
              case measure => simp [intOf]
            · have hcn : decide (c < 0) = false := by
                rw [hcv, if_neg hlt]; split <;> rfl
              clear hcv
              have hge : m ≤ 2 * R + b := by omega
              by_cases h256 : t < 256
              · go_wp2_with (first
                  | refine ldAllW aggW (by rfl) _ rfl (by rfl) (st3.at 0 rfl) (by rfl) ?_
                  | refine ldAllW aggW (by rfl) _ rfl (by rfl) (st3.at 2 rfl) (by rfl) ?_
                  | (go_at_call 23
                     refine (hcm _).mono ?_
                     rintro e w4 ⟨rfl, hw4⟩
                     have st4 := st3.ext hw4)
                  | refine ldAll aggW rfl _ rfl (by rfl) (st4.at 0 rfl) (by rfl) ?_
                  | refine ldAll aggW rfl _ rfl (by rfl) (st4.at 2 rfl) (by rfl) ?_
                  | (go_at_call 33
                     refine (Sub _ _ _).mono ?_
                     rintro e w5 ⟨rfl, hw5⟩
                     have st5 := st4.ext hw5
                     have st6 := st5.setRow 0 rfl (wordA (dif (2 * R + b) m)))
                  | refine stAll aggW (vs := wordA (dif (2 * R + b) m)) rfl _ _ rfl (by rfl) (by rfl) (st5.at 0 rfl) (by rfl) (by rfl) (wordA_mem _) ?_)

                have q1 : w5.setRow (w.heap.size + 1 + 1) (wordA (dif (2 * R + b) m)) = w5.setRow (w.heap.size + 1 + 1) (wordA (dif (2 * R + b) m)) := rfl
                have c6 : (w5.setRow (w.heap.size + 1 + 1) (wordA (dif (2 * R + b) m))).cell? ⟨w.heap.size + 1, t / 64, none⟩ = some (.int .u64 (limb (Q * 2 ^ (t + 1)) (t / 64) : Int)) := st6.cell 1 rfl (t / 64) (arr_get 4 _ _ (by omega))
                have i4 : ((t : Int) / 64) < 4 := by omega
                refine Rg.region [] [0, 1, 2, 3, 4, 5, 6, 7, 8] [9] (by kernel_rfl) (by kernel_rfl) fun w7 hw7 => ?_
                have st7 := st6.ext hw7
                have d6 := Rg.later (hw7.cell c6)
                have c7 := hw7.cell c6
                have f7 := st7.frozen 1 rfl (t / 64)
                simp only [Rg.walk, Rg.pick, Rg.nth, List.map_nil]
                repeat (go_big_quiet_step (fail))
                refine wpQuiet_nil ?_
                go_wp2
                go_roundw
                case rel =>
                  refine ⟨t, (t : Int) - 1, by omega, rfl, by simp, ?_⟩
                  obtain ⟨h1, h2⟩ := HR2.out hge
                  rw [h1, h2]
                  have ew : IntKind.u64.wrap ((2 : Int) ^ (t % 64)) = ((2 ^ (t % 64) : Nat) : Int) := by
                    have h3 : 2 ^ (t % 64) < m64 := Nat.pow_lt_pow_right (n := 64) (by omega) (by omega)
                    have h4 := wrapN (2 ^ (t % 64))
                    rw [Nat.mod_eq_of_lt h3] at h4
                    rw [← h4]; simp
                  rw [ew, set_or]
                  have := st7.setFn (f := fun i => u64V (limb (Q * 2 ^ (t + 1)) i)) 1 rfl (t / 64) (u64V (limb ((2 * Q + 1) * 2 ^ t) (t / 64))) (f' := fun i => u64V (limb ((2 * Q + 1) * 2 ^ t) i)) (fun i hi => by
                    by_cases h : i = t / 64
                    · rw [if_pos h, h]
                    · rw [if_neg h, limb_setbit, if_neg h]) rfl
                  rw [← dif_sub hge hm2]
                  exact this
                case measure => simp [intOf]
              · go_wp2_with (first
                  | refine ldAllW aggW (by rfl) _ rfl (by rfl) (st3.at 0 rfl) (by rfl) ?_
                  | refine ldAllW aggW (by rfl) _ rfl (by rfl) (st3.at 2 rfl) (by rfl) ?_
                  | (go_at_call 23
                     refine (hcm _).mono ?_
                     rintro e w4 ⟨rfl, hw4⟩
                     have st4 := st3.ext hw4)
                  | refine ldAll aggW rfl _ rfl (by rfl) (st4.at 0 rfl) (by rfl) ?_
                  | refine ldAll aggW rfl _ rfl (by rfl) (st4.at 2 rfl) (by rfl) ?_
                  | (go_at_call 33
                     refine (Sub _ _ _).mono ?_
                     rintro e w5 ⟨rfl, hw5⟩
                     have st5 := st4.ext hw5
                     have st6 := st5.setRow 0 rfl (wordA (dif (2 * R + b) m)))
                  | refine stAll aggW (vs := wordA (dif (2 * R + b) m)) rfl _ _ rfl (by rfl) (by rfl) (st5.at 0 rfl) (by rfl) (by rfl) (wordA_mem _) ?_)

                go_roundw
                case rel =>
                  refine ⟨t, (t : Int) - 1, by omega, rfl, by simp, ?_⟩
                  obtain ⟨h1, h2⟩ := HR2.out hge
                  rw [h1, h2, big_shift (2 * Q + 1) t (by omega), ← big_shift Q (t + 1) (by omega), ← dif_sub hge hm2]
                  exact st6
                case measure => simp [intOf]
          · have hT' : ((limb R 3 : Int) / 9223372036854775808 == 0) = false := by
              rw [beq_eq_false_iff_ne]; omega
            have hge : m ≤ 2 * R + b := by
              refine Nat.le_of_not_lt fun h => hT ?_
              rw [htop]
              exact Nat.div_eq_of_lt (by omega)
            clear hc htop
            by_cases h256 : t < 256
            · go_wp2_with (first
                | refine ldAllW aggW (by rfl) _ rfl (by rfl) (st3.at 0 rfl) (by rfl) ?_
                | refine ldAllW aggW (by rfl) _ rfl (by rfl) (st3.at 2 rfl) (by rfl) ?_
                | (go_at_call 23
                   refine (hcm _).mono ?_
                   rintro e w4 ⟨rfl, hw4⟩
                   have st4 := st3.ext hw4)
                | refine ldAll aggW rfl _ rfl (by rfl) (st3.at 0 rfl) (by rfl) ?_
                | refine ldAll aggW rfl _ rfl (by rfl) (st3.at 2 rfl) (by rfl) ?_
                | (go_at_call 33
                   refine (Sub _ _ _).mono ?_
                   rintro e w5 ⟨rfl, hw5⟩
                   have st5 := st3.ext hw5
                   have st6 := st5.setRow 0 rfl (wordA (dif (2 * R + b) m)))
                | refine stAll aggW (vs := wordA (dif (2 * R + b) m)) rfl _ _ rfl (by rfl) (by rfl) (st5.at 0 rfl) (by rfl) (by rfl) (wordA_mem _) ?_)

              have q1 : w5.setRow (w.heap.size + 1 + 1) (wordA (dif (2 * R + b) m)) = w5.setRow (w.heap.size + 1 + 1) (wordA (dif (2 * R + b) m)) := rfl
              have c6 : (w5.setRow (w.heap.size + 1 + 1) (wordA (dif (2 * R + b) m))).cell? ⟨w.heap.size + 1, t / 64, none⟩ = some (.int .u64 (limb (Q * 2 ^ (t + 1)) (t / 64) : Int)) := st6.cell 1 rfl (t / 64) (arr_get 4 _ _ (by omega))
              have i4 : ((t : Int) / 64) < 4 := by omega
              refine Rg.region [] [0, 1, 2, 3, 4, 5, 6, 7, 8] [9] (by kernel_rfl) (by kernel_rfl) fun w7 hw7 => ?_
              have st7 := st6.ext hw7
              have d6 := Rg.later (hw7.cell c6)
              have c7 := hw7.cell c6
              have f7 := st7.frozen 1 rfl (t / 64)
              simp only [Rg.walk, Rg.pick, Rg.nth, List.map_nil]
              repeat (go_big_quiet_step (fail))
              refine wpQuiet_nil ?_
              go_wp2
              go_roundw
              case rel =>
                refine ⟨t, (t : Int) - 1, by omega, rfl, by simp, ?_⟩
                obtain ⟨h1, h2⟩ := HR2.out hge
                rw [h1, h2]
                have ew : IntKind.u64.wrap ((2 : Int) ^ (t % 64)) = ((2 ^ (t % 64) : Nat) : Int) := by
                  have h3 : 2 ^ (t % 64) < m64 := Nat.pow_lt_pow_right (n := 64) (by omega) (by omega)
                  have h4 := wrapN (2 ^ (t % 64))
                  rw [Nat.mod_eq_of_lt h3] at h4
                  rw [← h4]; simp
                rw [ew, set_or]
                have := st7.setFn (f := fun i => u64V (limb (Q * 2 ^ (t + 1)) i)) 1 rfl (t / 64) (u64V (limb ((2 * Q + 1) * 2 ^ t) (t / 64))) (f' := fun i => u64V (limb ((2 * Q + 1) * 2 ^ t) i)) (fun i hi => by
                  by_cases h : i = t / 64
                  · rw [if_pos h, h]
                  · rw [if_neg h, limb_setbit, if_neg h]) rfl
                rw [← dif_sub hge hm2]
                exact this
              case measure => simp [intOf]
            · go_wp2_with (first
                | refine ldAllW aggW (by rfl) _ rfl (by rfl) (st3.at 0 rfl) (by rfl) ?_
                | refine ldAllW aggW (by rfl) _ rfl (by rfl) (st3.at 2 rfl) (by rfl) ?_
                | (go_at_call 23
                   refine (hcm _).mono ?_
                   rintro e w4 ⟨rfl, hw4⟩
                   have st4 := st3.ext hw4)
                | refine ldAll aggW rfl _ rfl (by rfl) (st3.at 0 rfl) (by rfl) ?_
                | refine ldAll aggW rfl _ rfl (by rfl) (st3.at 2 rfl) (by rfl) ?_
                | (go_at_call 33
                   refine (Sub _ _ _).mono ?_
                   rintro e w5 ⟨rfl, hw5⟩
                   have st5 := st3.ext hw5
                   have st6 := st5.setRow 0 rfl (wordA (dif (2 * R + b) m)))
                | refine stAll aggW (vs := wordA (dif (2 * R + b) m)) rfl _ _ rfl (by rfl) (by rfl) (st5.at 0 rfl) (by rfl) (by rfl) (wordA_mem _) ?_)

              go_roundw
              case rel =>
                refine ⟨t, (t : Int) - 1, by omega, rfl, by simp, ?_⟩
                obtain ⟨h1, h2⟩ := HR2.out hge
                rw [h1, h2, big_shift (2 * Q + 1) t (by omega), ← big_shift Q (t + 1) (by omega), ← dif_sub hge hm2]
                exact st6
              case measure => simp [intOf]
        | succ k =>
          have c1 : wr.cell? ⟨w.heap.size + 1 + 1, k + 1, none⟩ = some (.int .u64 (limb R (k + 1) : Int)) := by
            have := st.cell 0 rfl (k + 1) (arr_get 4 _ (k + 1) (by omega))
            simpa [u64V] using this
          have c2 : wr.cell? ⟨w.heap.size + 1 + 1, k, none⟩ = some (.int .u64 (limb R k : Int)) := by
            have := st.cell 0 rfl k (arr_get 4 _ k (by omega))
            rw [if_neg (by omega)] at this
            exact this
          have f1 := st.frozen 0 rfl (k + 1)
          go_wp2
          refine Rg.region [] [0, 1, 2, 3, 4, 5, 6, 7, 8, 9, 10, 11] [12] (by kernel_rfl) (by kernel_rfl) fun w' hw' => ?_
          have st' := st.ext hw'
          have d1 := Rg.later (hw'.cell c1)
          have d2 := Rg.later (hw'.cell c2)
          simp only [Rg.walk, Rg.pick, Rg.nth, List.map_nil]
          repeat (go_big_quiet_step (fail))
          refine wpQuiet_nil ?_
          have f2 := st'.frozen 0 rfl (k + 1)
          have c3 := hw'.cell c1
          go_wp2
          go_roundw
          case rel =>
            refine ⟨k, by omega, by simp, ?_⟩
            have e := shl_or R (k + 1) (by omega)
            simp only [Nat.add_sub_cancel] at e
            rw [e]
            refine st'.setFn 0 rfl (k + 1) _ (fun i hi => ?_) rfl
            by_cases h : i = k + 1
            · subst h; simp [u64V]
            · rw [if_neg h]
              by_cases h2 : k + 1 < i
              · rw [if_pos h2, if_pos (by omega)]
              · rw [if_neg h2, if_neg (by omega)]
          case measure => simp [intOf]
end Wd
end Go.Proofs.Ytpecjhjpdaifoaa

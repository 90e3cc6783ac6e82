/- The walk of WordRing. -/
import Derived.Test.YtkfjlebchgbfmaaWordK
import Derived.Test.YtkfjlebchgbfmaaOpenW
namespace Go.Proofs.Ytkfjlebchgbfmaa
open Go.RowKit Rp Rg Ops Mm Ar Wm Eq'
namespace Wd
theorem dif_add (x y : Nat) : dif (x + y) y % M256 = x % M256 := by
  unfold dif
  have h := Nat.mod_lt y M256_pos
  have e := Nat.mod_add_div y M256
  have : x + y + (M256 - y % M256) = x + M256 * (1 + y / M256) := by rw [Nat.mul_add, Nat.mul_one]; omega
  rw [this, Nat.add_mul_mod_self_left]

set_option maxRecDepth 8000 in
set_option maxHeartbeats 8000000 in
theorem WordRing_walk (x y z : Nat) (w : World) : Calls Try.prog 3 #[.agg (wordA x), .agg (wordA y), .agg (wordA z)] w fun e w' => e = .returned (.bool true) ∧ Ext w w' := by
  have E1 := eqT (x := x + y) (y := y + x) (by rw [Nat.add_comm])
  have E2 := eqT (x := x * y) (y := y * x) (by rw [Nat.mul_comm])
  have E3 := eqT (x := x + y + z) (y := x + (y + z)) (by rw [Nat.add_assoc])
  have E4 := eqT (x := x * y * z) (y := x * (y * z)) (by rw [Nat.mul_assoc])
  have E5 := eqT (x := x * (y + z)) (y := x * y + x * z) (by rw [Nat.mul_add])
  have E6 := eqT (x := dif (x + y) y) (y := x) (dif_add x y)
  go_enter Try.func3, Try.ntmps3
  have st0 := (((St.start w).alloc (wordA x) 24).alloc' (wordA y) 24 (w.heap.size + 1) (by simp)).alloc' (wordA z) 24 (w.heap.size + 1 + 1) (by simp)
  go_wp2_with (go_at_call 13; refine (alive _).mono ?_; rintro e v0 ⟨rfl, hv0⟩; have st := st0.ext hv0)
  simp only [List.append]
  refine Rg.region [([0, 1, 3, 4], 2), ([], 5), ([6, 7, 8, 9, 11, 12], 10), ([], 13), ([14, 15, 16, 17, 18, 20, 22, 23, 24], 19), ([], 21), ([], 25), ([], 26), ([27, 28, 29, 30, 31, 33, 35, 36, 37], 32), ([], 34), ([], 38), ([], 39), ([40, 41, 42, 43, 44, 45, 48, 49, 51, 52], 46), ([], 47), ([], 50), ([], 53), ([], 54), ([55, 56, 57, 58, 59, 61, 63], 60), ([], 62)] [64, 65, 66] [] (by kernel_rfl) (by kernel_rfl) fun w' hw' => ?_
  replace st := st.ext hw'
  refine Rg.walk_at fun K H => ?_
  simp only [Rg.pick, Rg.nth]
  go_big_quiet_want; refine qldM aggW (by kernel_rfl) (st.at 2 rfl) (by rfl) ?_; go_big_quiet_op; go_big_quiet_on
  go_big_quiet_want; refine qldM aggW (by kernel_rfl) (st.at 1 rfl) (by rfl) ?_; go_big_quiet_op; go_big_quiet_on
  go_big_quiet_want; refine qldM aggW (by kernel_rfl) (st.at 1 rfl) (by rfl) ?_; go_big_quiet_op; go_big_quiet_on
  go_big_quiet_want; refine qldM aggW (by kernel_rfl) (st.at 2 rfl) (by rfl) ?_; go_big_quiet_op; go_big_quiet_on
  refine wpQuiet_nil ?_
  go_wp2_with (go_at_call 14; refine (Add _ _ _).mono ?_; rintro e v1 ⟨rfl, hv1⟩)
  refine ⟨hv1, H.out _ _ ?_⟩
  clear H
  replace st := st.ext hv1
  refine Rg.walk_at fun K H => ?_
  simp only [Rg.pick, Rg.nth]
  refine wpQuiet_nil ?_
  go_wp2_with (go_at_call 14; refine (Add _ _ _).mono ?_; rintro e v2 ⟨rfl, hv2⟩)
  refine ⟨hv2, H.out _ _ ?_⟩
  clear H
  replace st := st.ext hv2
  refine Rg.walk_at fun K H => ?_
  simp only [Rg.pick, Rg.nth]
  go_big_quiet_step (fail)
  go_big_quiet_step (fail)
  go_big_quiet_want; refine qldM aggW (by kernel_rfl) (st.at 2 rfl) (by rfl) ?_; go_big_quiet_op; go_big_quiet_on
  go_big_quiet_want; refine qldM aggW (by kernel_rfl) (st.at 1 rfl) (by rfl) ?_; go_big_quiet_op; go_big_quiet_on
  go_big_quiet_want; refine qldM aggW (by kernel_rfl) (st.at 1 rfl) (by rfl) ?_; go_big_quiet_op; go_big_quiet_on
  go_big_quiet_want; refine qldM aggW (by kernel_rfl) (st.at 2 rfl) (by rfl) ?_; go_big_quiet_op; go_big_quiet_on
  refine wpQuiet_nil ?_
  go_wp2_with (go_at_call 15; refine (Mul _ _ _).mono ?_; rintro e v3 ⟨rfl, hv3⟩)
  refine ⟨hv3, H.out _ _ ?_⟩
  clear H
  replace st := st.ext hv3
  refine Rg.walk_at fun K H => ?_
  simp only [Rg.pick, Rg.nth]
  refine wpQuiet_nil ?_
  go_wp2_with (go_at_call 15; refine (Mul _ _ _).mono ?_; rintro e v4 ⟨rfl, hv4⟩)
  refine ⟨hv4, H.out _ _ ?_⟩
  clear H
  replace st := st.ext hv4
  refine Rg.walk_at fun K H => ?_
  simp only [Rg.pick, Rg.nth]
  go_big_quiet_step (fail)
  go_big_quiet_step (fail)
  go_big_quiet_step (fail)
  go_big_quiet_want; refine qldM aggW (by kernel_rfl) (st.at 2 rfl) (by rfl) ?_; go_big_quiet_op; go_big_quiet_on
  go_big_quiet_want; refine qldM aggW (by kernel_rfl) (st.at 1 rfl) (by rfl) ?_; go_big_quiet_op; go_big_quiet_on
  go_big_quiet_want; refine qldM aggW (by kernel_rfl) (st.at 0 rfl) (by rfl) ?_; go_big_quiet_op; go_big_quiet_on
  go_big_quiet_want; refine qldM aggW (by kernel_rfl) (st.at 2 rfl) (by rfl) ?_; go_big_quiet_op; go_big_quiet_on
  go_big_quiet_want; refine qldM aggW (by kernel_rfl) (st.at 1 rfl) (by rfl) ?_; go_big_quiet_op; go_big_quiet_on
  go_big_quiet_want; refine qldM aggW (by kernel_rfl) (st.at 0 rfl) (by rfl) ?_; go_big_quiet_op; go_big_quiet_on
  refine wpQuiet_nil ?_
  go_wp2_with (go_at_call 14; refine (Add _ _ _).mono ?_; rintro e v5 ⟨rfl, hv5⟩)
  refine ⟨hv5, H.out _ _ ?_⟩
  clear H
  replace st := st.ext hv5
  refine Rg.walk_at fun K H => ?_
  simp only [Rg.pick, Rg.nth]
  refine wpQuiet_nil ?_
  go_wp2_with (go_at_call 14; refine (Add _ _ _).mono ?_; rintro e v6 ⟨rfl, hv6⟩)
  refine ⟨hv6, H.out _ _ ?_⟩
  clear H
  replace st := st.ext hv6
  refine Rg.walk_at fun K H => ?_
  simp only [Rg.pick, Rg.nth]
  refine wpQuiet_nil ?_
  go_wp2_with (go_at_call 14; refine (Add _ _ _).mono ?_; rintro e v7 ⟨rfl, hv7⟩)
  refine ⟨hv7, H.out _ _ ?_⟩
  clear H
  replace st := st.ext hv7
  refine Rg.walk_at fun K H => ?_
  simp only [Rg.pick, Rg.nth]
  refine wpQuiet_nil ?_
  go_wp2_with (go_at_call 14; refine (Add _ _ _).mono ?_; rintro e v8 ⟨rfl, hv8⟩)
  refine ⟨hv8, H.out _ _ ?_⟩
  clear H
  replace st := st.ext hv8
  refine Rg.walk_at fun K H => ?_
  simp only [Rg.pick, Rg.nth]
  go_big_quiet_step (fail)
  go_big_quiet_step (fail)
  go_big_quiet_step (fail)
  go_big_quiet_want; refine qldM aggW (by kernel_rfl) (st.at 2 rfl) (by rfl) ?_; go_big_quiet_op; go_big_quiet_on
  go_big_quiet_want; refine qldM aggW (by kernel_rfl) (st.at 1 rfl) (by rfl) ?_; go_big_quiet_op; go_big_quiet_on
  go_big_quiet_want; refine qldM aggW (by kernel_rfl) (st.at 0 rfl) (by rfl) ?_; go_big_quiet_op; go_big_quiet_on
  go_big_quiet_want; refine qldM aggW (by kernel_rfl) (st.at 2 rfl) (by rfl) ?_; go_big_quiet_op; go_big_quiet_on
  go_big_quiet_want; refine qldM aggW (by kernel_rfl) (st.at 1 rfl) (by rfl) ?_; go_big_quiet_op; go_big_quiet_on
  go_big_quiet_want; refine qldM aggW (by kernel_rfl) (st.at 0 rfl) (by rfl) ?_; go_big_quiet_op; go_big_quiet_on
  refine wpQuiet_nil ?_
  go_wp2_with (go_at_call 15; refine (Mul _ _ _).mono ?_; rintro e v9 ⟨rfl, hv9⟩)
  refine ⟨hv9, H.out _ _ ?_⟩
  clear H
  replace st := st.ext hv9
  refine Rg.walk_at fun K H => ?_
  simp only [Rg.pick, Rg.nth]
  refine wpQuiet_nil ?_
  go_wp2_with (go_at_call 15; refine (Mul _ _ _).mono ?_; rintro e v10 ⟨rfl, hv10⟩)
  refine ⟨hv10, H.out _ _ ?_⟩
  clear H
  replace st := st.ext hv10
  refine Rg.walk_at fun K H => ?_
  simp only [Rg.pick, Rg.nth]
  refine wpQuiet_nil ?_
  go_wp2_with (go_at_call 15; refine (Mul _ _ _).mono ?_; rintro e v11 ⟨rfl, hv11⟩)
  refine ⟨hv11, H.out _ _ ?_⟩
  clear H
  replace st := st.ext hv11
  refine Rg.walk_at fun K H => ?_
  simp only [Rg.pick, Rg.nth]
  refine wpQuiet_nil ?_
  go_wp2_with (go_at_call 15; refine (Mul _ _ _).mono ?_; rintro e v12 ⟨rfl, hv12⟩)
  refine ⟨hv12, H.out _ _ ?_⟩
  clear H
  replace st := st.ext hv12
  refine Rg.walk_at fun K H => ?_
  simp only [Rg.pick, Rg.nth]
  go_big_quiet_step (fail)
  go_big_quiet_step (fail)
  go_big_quiet_step (fail)
  go_big_quiet_want; refine qldM aggW (by kernel_rfl) (st.at 2 rfl) (by rfl) ?_; go_big_quiet_op; go_big_quiet_on
  go_big_quiet_want; refine qldM aggW (by kernel_rfl) (st.at 1 rfl) (by rfl) ?_; go_big_quiet_op; go_big_quiet_on
  go_big_quiet_want; refine qldM aggW (by kernel_rfl) (st.at 0 rfl) (by rfl) ?_; go_big_quiet_op; go_big_quiet_on
  go_big_quiet_want; refine qldM aggW (by kernel_rfl) (st.at 2 rfl) (by rfl) ?_; go_big_quiet_op; go_big_quiet_on
  go_big_quiet_want; refine qldM aggW (by kernel_rfl) (st.at 1 rfl) (by rfl) ?_; go_big_quiet_op; go_big_quiet_on
  go_big_quiet_want; refine qldM aggW (by kernel_rfl) (st.at 2 rfl) (by rfl) ?_; go_big_quiet_op; go_big_quiet_on
  go_big_quiet_want; refine qldM aggW (by kernel_rfl) (st.at 0 rfl) (by rfl) ?_; go_big_quiet_op; go_big_quiet_on
  refine wpQuiet_nil ?_
  go_wp2_with (go_at_call 14; refine (Add _ _ _).mono ?_; rintro e v13 ⟨rfl, hv13⟩)
  refine ⟨hv13, H.out _ _ ?_⟩
  clear H
  replace st := st.ext hv13
  refine Rg.walk_at fun K H => ?_
  simp only [Rg.pick, Rg.nth]
  refine wpQuiet_nil ?_
  go_wp2_with (go_at_call 15; refine (Mul _ _ _).mono ?_; rintro e v14 ⟨rfl, hv14⟩)
  refine ⟨hv14, H.out _ _ ?_⟩
  clear H
  replace st := st.ext hv14
  refine Rg.walk_at fun K H => ?_
  simp only [Rg.pick, Rg.nth]
  refine wpQuiet_nil ?_
  go_wp2_with (go_at_call 15; refine (Mul _ _ _).mono ?_; rintro e v15 ⟨rfl, hv15⟩)
  refine ⟨hv15, H.out _ _ ?_⟩
  clear H
  replace st := st.ext hv15
  refine Rg.walk_at fun K H => ?_
  simp only [Rg.pick, Rg.nth]
  refine wpQuiet_nil ?_
  go_wp2_with (go_at_call 15; refine (Mul _ _ _).mono ?_; rintro e v16 ⟨rfl, hv16⟩)
  refine ⟨hv16, H.out _ _ ?_⟩
  clear H
  replace st := st.ext hv16
  refine Rg.walk_at fun K H => ?_
  simp only [Rg.pick, Rg.nth]
  refine wpQuiet_nil ?_
  go_wp2_with (go_at_call 14; refine (Add _ _ _).mono ?_; rintro e v17 ⟨rfl, hv17⟩)
  refine ⟨hv17, H.out _ _ ?_⟩
  clear H
  replace st := st.ext hv17
  refine Rg.walk_at fun K H => ?_
  simp only [Rg.pick, Rg.nth]
  go_big_quiet_step (fail)
  go_big_quiet_step (fail)
  go_big_quiet_step (fail)
  go_big_quiet_want; refine qldM aggW (by kernel_rfl) (st.at 2 rfl) (by rfl) ?_; go_big_quiet_op; go_big_quiet_on
  go_big_quiet_want; refine qldM aggW (by kernel_rfl) (st.at 1 rfl) (by rfl) ?_; go_big_quiet_op; go_big_quiet_on
  go_big_quiet_want; refine qldM aggW (by kernel_rfl) (st.at 1 rfl) (by rfl) ?_; go_big_quiet_op; go_big_quiet_on
  go_big_quiet_want; refine qldM aggW (by kernel_rfl) (st.at 2 rfl) (by rfl) ?_; go_big_quiet_op; go_big_quiet_on
  refine wpQuiet_nil ?_
  go_wp2_with (go_at_call 14; refine (Add _ _ _).mono ?_; rintro e v18 ⟨rfl, hv18⟩)
  refine ⟨hv18, H.out _ _ ?_⟩
  clear H
  replace st := st.ext hv18
  refine Rg.walk_at fun K H => ?_
  simp only [Rg.pick, Rg.nth]
  refine wpQuiet_nil ?_
  go_wp2_with (go_at_call 16; refine (Sub _ _ _).mono ?_; rintro e v19 ⟨rfl, hv19⟩)
  refine ⟨hv19, H.out _ _ ?_⟩
  clear H
  replace st := st.ext hv19
  refine Rg.walk_end ?_
  simp only [Rg.pick, Rg.nth]
  go_big_quiet_step (fail)
  go_big_quiet_step (fail)
  go_big_quiet_step (fail)
  refine wpQuiet_nil ?_
  go_wp2
  go_ret
  exact ⟨rfl, st.below⟩
end Wd
end Go.Proofs.Ytkfjlebchgbfmaa

/- The walk of package lampbearerkeep's word laws: what all of them ask first. -/
import Derived.Test.YtkfjlebchgbfmaaWord5
namespace Go.Proofs.Ytkfjlebchgbfmaa
open Go.RowKit Rp Rg Ops Mm Ar Wm Eq'
namespace Wd
theorem eqT {x y : Nat} (h : x % M256 = y % M256) (w : World) : (binOp .eql 24 (.agg (wordA x)) (.agg (wordA y))).run Try.prog w = .ok (.bool true) w := by
  rw [eqlW, decide_eq_true h]
theorem lit70 : (#[.int .u64 0, .int .u64 64, .int .u64 0, .int .u64 0] : Array Value) = wordA 1180591620717411303424 := by
  unfold wordA
  simp only [arr, List.range_succ_eq_map, List.range_zero, List.map_cons, List.map_nil, u64V, limb, m64]
  rfl
theorem eq70 (w : World) : (binOp .eql 24 (.agg (wordA (2 ^ 70))) (.agg #[.int .u64 0, .int .u64 64, .int .u64 0, .int .u64 0])).run Try.prog w = .ok (.bool true) w := by
  rw [lit70]
  exact eqT (by rfl) w

theorem alive (w : World) : Calls Try.prog 13 #[] w fun e w' => e = .returned (.bool true) ∧ Ext w w' := by
  have hs := fun x w => eqT (x := x) rfl w
  have h70 := eq70
  have c0 : ∀ n, n < m64 → ∀ w, Calls Try.prog 20 #[.int .u64 (n : Int)] w fun e w' => e = .returned (.agg (wordA n)) ∧ Ext w w' := fun n h w => IntW n h w
  have m0 : (100 : Nat) < m64 := by unfold m64; omega
  have m1 : 100 < M256 := by unfold M256 m64; omega
  go_enter Try.func13, Try.ntmps13
  go_wp2_with (first
    | (go_at_call 20; refine (c0 17 (by omega) _).mono ?_; rintro e w1 ⟨rfl, hw1⟩; have st1 := (St.start w).ext hw1)
    | (go_at_call 20; refine (c0 5 (by omega) _).mono ?_; rintro e w2 ⟨rfl, hw2⟩; have st2 := st1.ext hw2)
    | (go_at_call 17; refine (DivMod 17 5 (by omega) (by omega) (by omega) _).mono ?_; rintro e w3 ⟨rfl, hw3⟩
       have st := (((st2.ext hw3).alloc (arr 4 fun _ => u64V 0) 24).alloc' (arr 4 fun _ => u64V 0) 24 (w3.heap.size + 1) (by simp))
       have st3 := st.setRow 1 rfl (wordA 3)
       have st4 := st3.setRow 0 rfl (wordA 2))
    | refine stAll aggW (vs := wordA 3) rfl _ _ rfl (by rfl) (by rfl) (st.at 1 rfl) (by rfl) (by rfl) (wordA_mem _) ?_
    | refine stAll aggW (vs := wordA 2) rfl _ _ rfl (by rfl) (by rfl) (st3.at 0 rfl) (by rfl) (by rfl) (wordA_mem _) ?_)
  go_wp2
  replace st := st4
  refine Rg.region [([], 0), ([], 1), ([], 2), ([], 3), ([], 4), ([], 5), ([6, 7, 8], 9), ([10, 11, 12, 13], 14), ([15, 16, 17, 21], 18), ([], 19), ([], 20)] [22, 23, 24] [] (by kernel_rfl) (by kernel_rfl) fun w' hw' => ?_
  replace st := st.ext hw'
  simp only [Rg.walk, Rg.pick, Rg.nth, List.map_cons, List.map_nil, Act.put]
  refine wpQuiet_nil ?_
  go_wp2_with (go_at_call 20; refine (c0 2 (by omega) _).mono ?_; rintro e v1 ⟨rfl, hv1⟩)
  refine ⟨hv1, ?_⟩
  replace st := st.ext hv1
  refine wpQuiet_nil ?_
  go_wp2_with (go_at_call 20; refine (c0 5 (by omega) _).mono ?_; rintro e v2 ⟨rfl, hv2⟩)
  refine ⟨hv2, ?_⟩
  replace st := st.ext hv2
  refine wpQuiet_nil ?_
  go_wp2_with (go_at_call 14; refine (Add _ _ _).mono ?_; rintro e v3 ⟨rfl, hv3⟩)
  refine ⟨hv3, ?_⟩
  replace st := st.ext hv3
  refine wpQuiet_nil ?_
  go_wp2_with (go_at_call 20; refine (c0 6 (by omega) _).mono ?_; rintro e v4 ⟨rfl, hv4⟩)
  refine ⟨hv4, ?_⟩
  replace st := st.ext hv4
  refine wpQuiet_nil ?_
  go_wp2_with (go_at_call 15; refine (Mul _ _ _).mono ?_; rintro e v5 ⟨rfl, hv5⟩)
  refine ⟨hv5, ?_⟩
  replace st := st.ext hv5
  refine wpQuiet_nil ?_
  go_wp2_with (go_at_call 20; refine (c0 42 (by omega) _).mono ?_; rintro e v6 ⟨rfl, hv6⟩)
  refine ⟨hv6, ?_⟩
  replace st := st.ext hv6
  repeat (first | refine qldAllW aggW (by rfl) _ rfl (by rfl) (st.at 0 rfl) (by rfl) ?_ | refine qldAllW aggW (by rfl) _ rfl (by rfl) (st.at 1 rfl) (by rfl) ?_ | go_big_quiet_step (fail))
  refine wpQuiet_nil ?_
  go_wp2_with (go_at_call 20; refine (c0 3 (by omega) _).mono ?_; rintro e v7 ⟨rfl, hv7⟩)
  refine ⟨hv7, ?_⟩
  replace st := st.ext hv7
  repeat (first | refine qldAllW aggW (by rfl) _ rfl (by rfl) (st.at 0 rfl) (by rfl) ?_ | refine qldAllW aggW (by rfl) _ rfl (by rfl) (st.at 1 rfl) (by rfl) ?_ | go_big_quiet_step (fail))
  refine wpQuiet_nil ?_
  go_wp2_with (go_at_call 20; refine (c0 2 (by omega) _).mono ?_; rintro e v8 ⟨rfl, hv8⟩)
  refine ⟨hv8, ?_⟩
  replace st := st.ext hv8
  repeat (first | refine qldAllW aggW (by rfl) _ rfl (by rfl) (st.at 0 rfl) (by rfl) ?_ | refine qldAllW aggW (by rfl) _ rfl (by rfl) (st.at 1 rfl) (by rfl) ?_ | go_big_quiet_step (fail))
  refine wpQuiet_nil ?_
  go_wp2_with (go_at_call 20; refine (c0 2 (by omega) _).mono ?_; rintro e v9 ⟨rfl, hv9⟩)
  refine ⟨hv9, ?_⟩
  replace st := st.ext hv9
  refine wpQuiet_nil ?_
  go_wp2_with (go_at_call 20; refine (c0 70 (by omega) _).mono ?_; rintro e v10 ⟨rfl, hv10⟩)
  refine ⟨hv10, ?_⟩
  replace st := st.ext hv10
  refine wpQuiet_nil ?_
  go_wp2_with (go_at_call 19; refine (Exp _ 70 (by omega) _).mono ?_; rintro e v11 ⟨rfl, hv11⟩)
  refine ⟨hv11, ?_⟩
  replace st := st.ext hv11
  repeat (first | refine qldAllW aggW (by rfl) _ rfl (by rfl) (st.at 0 rfl) (by rfl) ?_ | refine qldAllW aggW (by rfl) _ rfl (by rfl) (st.at 1 rfl) (by rfl) ?_ | go_big_quiet_step (fail))
  refine wpQuiet_nil ?_
  go_wp2
  go_ret
  exact ⟨rfl, st.below⟩
end Wd
end Go.Proofs.Ytkfjlebchgbfmaa

/- Walks of package word: DivMod, AddMod, MulMod. -/
import Derived.Test.YtpecjhjpdaifoaaWord3
import Derived.Test.YtpecjhjpdaifoaaEql
namespace Go.Proofs.Ytpecjhjpdaifoaa
open Go.RowKit Rp Rg Ops Mm Ar Wm Eq'
namespace Wd
theorem isZero (y : Nat) (hy : y < M256) (w : World) : (binOp .eql 24 (.agg (wordA y)) (.agg #[.int .u64 0, .int .u64 0, .int .u64 0, .int .u64 0])).run Try.prog w = .ok (.bool (decide (y = 0))) w := by
  rw [zeroW, eqlW, Nat.zero_mod, Nat.mod_eq_of_lt hy]

theorem DivMod_zero (x : Nat) (w : World) : Calls Try.prog 29 #[.agg (wordA x), .agg (wordA 0)] w fun e w' => e = .returned (.tuple #[.agg (wordA 0), .agg (wordA 0)]) ∧ Ext w w' := by
  have hz := isZero 0 M256_pos
  rw [show decide ((0 : Nat) = 0) = true from rfl] at hz
  have e0 : (arr 4 fun _ => u64V 0) = wordA 0 := zeroW
  go_enter Try.func29, Try.ntmps29
  have s1 := ((((St.start w).alloc (wordA x) 24).alloc' (wordA 0) 24 (w.heap.size + 1) (by simp)).alloc' (arr 4 fun _ => u64V 0) 24 (w.heap.size + 1 + 1) (by simp)).alloc' (arr 4 fun _ => u64V 0) 24 (w.heap.size + 1 + 1 + 1) (by simp)
  go_wp2_with (refine ldAll aggW rfl _ rfl (by rfl) (s1.at 2 rfl) (by rfl) ?_)
  go_wp2
  refine Rg.region [([0, 1], 2)] [] [3] (by kernel_rfl) (by kernel_rfl) fun w' hw' => ?_
  have st' := s1.ext hw'
  rw [e0] at st'
  simp only [Rg.walk, Rg.pick, Rg.nth, List.map_cons, List.map_nil]
  refine qldAll aggW rfl _ rfl (by rfl) (st'.at 1 rfl) (by rfl) ?_
  refine qldAll aggW rfl _ rfl (by rfl) (st'.at 0 rfl) (by rfl) ?_
  refine wpQuiet_nil ?_
  have st2 := st'.setRow 1 rfl (wordA 0)
  have st3 := st2.setRow 0 rfl (wordA 0)
  go_wp2_with (refine stAll aggW (vs := wordA 0) rfl _ _ rfl (by rfl) (by rfl) (st'.at 1 rfl) (by rfl) (by rfl) (wordA_mem _) ?_)
  go_wp2
  refine ⟨ext_setRow_same (st'.at 1 rfl), ?_⟩
  refine wpQuiet_nil ?_
  go_wp2_with (refine stAll aggW (vs := wordA 0) rfl _ _ rfl (by rfl) (by rfl) (st2.at 0 rfl) (by rfl) (by rfl) (wordA_mem _) ?_)
  go_wp2
  refine bodyPost_ret (v := .tuple #[.agg (wordA 0), .agg (wordA 0)]) (ret_two rfl (slot_cell aggW rfl (st3.at 1 rfl) (by rfl)) (slot_cell aggW rfl (st3.at 0 rfl) (by rfl))) rfl ⟨rfl, st3.below⟩

theorem DivMod (x y : Nat) (hx : x < M256) (hy : y < M256) (h0 : 0 < y) (w : World) : Calls Try.prog 29 #[.agg (wordA x), .agg (wordA y)] w fun e w' => e = .returned (.tuple #[.agg (wordA (x / y)), .agg (wordA (x % y))]) ∧ Ext w w' := by
  have hz := isZero y hy
  rw [show decide (y = 0) = false from by simp; omega] at hz
  go_enter Try.func29, Try.ntmps29
  have s1 := ((((St.start w).alloc (wordA x) 24).alloc' (wordA y) 24 (w.heap.size + 1) (by simp)).alloc' (arr 4 fun _ => u64V 0) 24 (w.heap.size + 1 + 1) (by simp)).alloc' (arr 4 fun _ => u64V 0) 24 (w.heap.size + 1 + 1 + 1) (by simp)
  go_wp2_with (refine ldAll aggW rfl _ rfl (by rfl) (s1.at 2 rfl) (by rfl) ?_)
  go_wp2
  refine Rg.region [([0, 1], 2)] [3, 4] [5, 6] (by kernel_rfl) (by kernel_rfl) fun w' hw' => ?_
  have st' := s1.ext hw'
  simp only [Rg.walk, Rg.pick, Rg.nth, List.map_cons, List.map_nil]
  repeat (go_big_quiet_step (fail))
  refine qldAll aggW rfl _ rfl (by rfl) (st'.at 2 rfl) (by rfl) ?_
  refine wpQuiet_nil ?_
  have hd := divide x y 4 4 w.heap.size 0 w' (by omega) (by omega) hx h0 hy (fun i hi => by rw [Nat.zero_add]; exact st'.cell 3 rfl i (wordA_get x i hi))
  go_wp2_with (go_at_call 48; refine hd.mono ?_; rintro e w2 ⟨rfl, hw2⟩)
  refine ⟨hw2, ?_⟩
  repeat (go_big_quiet_step (fail))
  refine wpQuiet_nil ?_
  have st2 := st'.ext hw2
  have st3 := st2.setRow 1 rfl (wordA (x / y))
  have st4 := st3.setRow 0 rfl (wordA (x % y))
  go_wp2_with (first
    | refine stAll aggW (vs := wordA (x / y)) rfl _ _ rfl (by rfl) (by rfl) (st2.at 1 rfl) (by rfl) (by rfl) (wordA_mem _) ?_
    | refine stAll aggW (vs := wordA (x % y)) rfl _ _ rfl (by rfl) (by rfl) (st3.at 0 rfl) (by rfl) (by rfl) (wordA_mem _) ?_)
  go_wp2
  refine bodyPost_ret (v := .tuple #[.agg (wordA (x / y)), .agg (wordA (x % y))]) (ret_two rfl (slot_cell aggW rfl (st4.at 1 rfl) (by rfl)) (slot_cell aggW rfl (st4.at 0 rfl) (by rfl))) rfl ⟨rfl, st4.below⟩
end Wd
end Go.Proofs.Ytpecjhjpdaifoaa

/- A part of the proof: texts joined. -/
import Derived.Test.YtpaafpmofhajfaaGreatDoorCards
import Derived.Test.YtpaafpmofhajfaaGreatDoorTie
import Derived.WalkKit
import Derived.ProofKit
import Derived.OpenShut
import Derived.Deep.DeepHandedRow
import Derived.Lib.LaidTab
import Derived.Stop.LaidErr
import Derived.Test.YtpaafpmofhajfaaGreatDoorQ24a4b759
set_option linter.unusedVariables false
set_option linter.unusedSimpArgs false
namespace Go.Proofs.YtpaafpmofhajfaaGreatDoor.lawClientBack
open Go.ChangeShapes Go.WideShapes Go.ChangeAt Go.RowKit Rp
set_option linter.unusedVariables false
theorem own : ownKnob Tryz.prog.godebug = none := by kernel_rfl
theorem laid : laidOutB Tryz.prog = true := by kernel_rfl
theorem rd_x0 : Tryz.prog.readableRec 27 = true ∧ 27 < Tryz.prog.types.size := ⟨by kernel_rfl, of_decide_eq_true (by kernel_rfl)⟩
theorem rd_x1 : Tryz.prog.readableRec 43 = true ∧ 43 < Tryz.prog.types.size := ⟨by kernel_rfl, of_decide_eq_true (by kernel_rfl)⟩
theorem rds : ∀ t ∈ ([43, 27] : List Nat), Tryz.prog.readableRec t = true ∧ t < Tryz.prog.types.size := by
 intro t ht
 rcases List.mem_cons.1 ht with rfl | ht
 ·exact rd_x1
 rcases List.mem_cons.1 ht with rfl | ht
 ·exact rd_x0
 cases ht
theorem tabs (W : World) (hL : laidMet Tryz.prog Rows.clientBackUptoRow.laid W) : Lf.TabAt W fun _ _ => True := by
 have hL := laidMet.tail hL
 have h0 : Lib.TabIs Tryz.prog W "math/bits.deBruijn64tab" .u8 [0, 1, 56, 2, 57, 49, 28, 3, 61, 58, 42, 50, 38, 29, 17, 4, 62, 47, 59, 36, 45, 43, 51, 22, 53, 39, 33, 30, 24, 18, 12, 5, 63, 55, 48, 27, 60, 41, 37, 16, 46, 35, 44, 21, 52, 32, 23, 11, 54, 26, 40, 15, 34, 20, 31, 10, 25, 14, 19, 9, 13, 8, 7, 6] := Lib.tabIs_of_head (g := 3) (t := 449) (e := 5) (n := 64) (by kernel_rfl) (by kernel_rfl) (by kernel_rfl) (by kernel_rfl) (by kernel_rfl) (by kernel_rfl) hL
 intro n xs hn j x hx
 have hn' : (n, xs) ∈ [(3, ([0, 1, 56, 2, 57, 49, 28, 3, 61, 58, 42, 50, 38, 29, 17, 4, 62, 47, 59, 36, 45, 43, 51, 22, 53, 39, 33, 30, 24, 18, 12, 5, 63, 55, 48, 27, 60, 41, 37, 16, 46, 35, 44, 21, 52, 32, 23, 11, 54, 26, 40, 15, 34, 20, 31, 10, 25, 14, 19, 9, 13, 8, 7, 6] : List Int).map fun z => Value.int .u8 z)] := hn
 rw [List.mem_singleton] at hn'
 obtain ⟨rfl, rfl⟩ := Prod.mk.inj hn'
 have hj := (List.getElem?_eq_some_iff.1 hx).1
 rw [List.length_map] at hj
 have hc := h0.cell (g := 3) (by kernel_rfl) j hj
 have e : x = Value.int .u8 (([0, 1, 56, 2, 57, 49, 28, 3, 61, 58, 42, 50, 38, 29, 17, 4, 62, 47, 59, 36, 45, 43, 51, 22, 53, 39, 33, 30, 24, 18, 12, 5, 63, 55, 48, 27, 60, 41, 37, 16, 46, 35, 44, 21, 52, 32, 23, 11, 54, 26, 40, 15, 34, 20, 31, 10, 25, 14, 19, 9, 13, 8, 7, 6] : List Int).getD j 0) := by
  rw [List.getElem?_map, List.getElem?_eq_getElem hj] at hx
  rw [List.getD_eq_getElem?_getD, List.getElem?_eq_getElem hj]
  exact (Option.some.inj hx).symm
 rw [e]
 exact ⟨World.block_lt_of_cell? W ⟨3, j, none⟩ (by rw [hc]), trivial, hc⟩
set_option maxRecDepth 100000 in
theorem contract (H : Type) (enc : TypeId × Value → H) (W : World) (base : Nat) (args : Array Value) (ds gs : List (DataW H)) (before : List MemPlace)
  (hval : ∀ (j : Nat) t v, Tryz.f4.params[j]? = some t → args[j]? = some v → Value.okWide Tryz.prog W .any base t v)
  (hW : DataW.Whole enc Tryz.prog Tryz.f4.params.toList Rows.clientBackSpec.vars false W args.toList ds gs before) (hk : Rows.uptoSmall H (ds ++ gs) = true) (hL : laidMet Tryz.prog Rows.clientBackUptoRow.laid W) :
  Calls Tryz.prog 4 args W fun e W' => ∃ v, e = .returned v ∧ Rows.clientBackSpec.post enc Tryz.prog Tryz.f4 false true false false W args v W' := by
 have hW0 := hW
 obtain ⟨p, q, hA0, hV, rfl, hfz, hnd⟩ := hW
 have hA : DataW.TrodAll enc Tryz.prog W 0 (fun _ => true) true Tryz.f4.params.toList args.toList ds p := hA0
 rw [Tryz.params4] at hA hval
 obtain ⟨v0, vs0, d0, ds0, p0, q0, hargs, rfl, rfl, h0, r0⟩ := trodAll_cons hA
 obtain ⟨v1, vs1, d1, ds1, p1, q1, rfl, rfl, rfl, h1, r1⟩ := trodAll_cons r0
 obtain ⟨rfl, rfl, rfl⟩ := trodAll_nil r1
 obtain rfl : args = #[v0, v1] := by cases args; simp_all
 obtain ⟨rfl, rfl⟩ := trodVars_none hV
 have hbulk : Rows.uptoBulkAll [d0, d1] ≤ 1048576 := by simpa only [List.append_nil] using of_decide_eq_true hk
 simp only [Rows.uptoBulkAll] at hbulk
 obtain ⟨x0, hr0, hk0, hs0⟩ := Lf.Opn.argA (fun m => Lf.opnStore m) (by kernel_rfl) (hval 0 43 v0 rfl rfl) h0
 obtain ⟨x1, hr1, hk1, hs1⟩ := Lf.Opn.arg1 (fun m => Lf.Opn.bytes (e := 5) (by kernel_rfl) (by kernel_rfl) (by kernel_rfl)) (by kernel_rfl) (hval 1 27 v1 rfl rfl) h1
 refine (Lf.LF.holds (Lf.Cb.ClientBack x0 hk0.1 hk0.2.1 hk0.2.2 (by omega) x1 (by omega)) W [v0, v1] ⟨hr0, hr1, trivial⟩ (tabs W hL)).mono fun e W' ⟨he, hx⟩ => ⟨_, he, Fr.post_of_below laid hW0 rfl rfl (by rw [Tryz.params4]; exact rds) (tb := 4) rfl (by kernel_rfl) hx⟩
abbrev witA : Array Value := #[.agg (List.replicate 32 (.int .u8 0) ++ [.int .u64 0, .int .u64 0] ++ List.replicate 8 (.int .u8 0) ++ [.int .u64 0, .int .u64 0] ++ List.replicate 160 (.int .u8 0) ++ [.slice none 0 0, .slice none 0 0] : List Value).toArray, .slice none 0 0]
noncomputable def laidWorld (os : Os) : World :=
 { World.holding Tryz.prog os ⟨#[], #[], []⟩ with heap := ((((World.holding Tryz.prog os ⟨#[], #[], []⟩).heap.modify 2 fun | .cells _ t frozen => .cells #[.int .u8 0, .int .u8 1, .int .u8 28, .int .u8 2, .int .u8 29, .int .u8 14, .int .u8 24, .int .u8 3, .int .u8 30, .int .u8 22, .int .u8 20, .int .u8 15, .int .u8 25, .int .u8 17, .int .u8 4, .int .u8 8, .int .u8 31, .int .u8 27, .int .u8 13, .int .u8 23, .int .u8 21, .int .u8 19, .int .u8 16, .int .u8 7, .int .u8 26, .int .u8 12, .int .u8 18, .int .u8 6, .int .u8 11, .int .u8 5, .int .u8 10, .int .u8 9] t frozen | o => o).modify 3 fun | .cells _ t frozen => .cells #[.int .u8 0, .int .u8 1, .int .u8 56, .int .u8 2, .int .u8 57, .int .u8 49, .int .u8 28, .int .u8 3, .int .u8 61, .int .u8 58, .int .u8 42, .int .u8 50, .int .u8 38, .int .u8 29, .int .u8 17, .int .u8 4, .int .u8 62, .int .u8 47, .int .u8 59, .int .u8 36, .int .u8 45, .int .u8 43, .int .u8 51, .int .u8 22, .int .u8 53, .int .u8 39, .int .u8 33, .int .u8 30, .int .u8 24, .int .u8 18, .int .u8 12, .int .u8 5, .int .u8 63, .int .u8 55, .int .u8 48, .int .u8 27, .int .u8 60, .int .u8 41, .int .u8 37, .int .u8 16, .int .u8 46, .int .u8 35, .int .u8 44, .int .u8 21, .int .u8 52, .int .u8 32, .int .u8 23, .int .u8 11, .int .u8 54, .int .u8 26, .int .u8 40, .int .u8 15, .int .u8 34, .int .u8 20, .int .u8 31, .int .u8 10, .int .u8 25, .int .u8 14, .int .u8 19, .int .u8 9, .int .u8 13, .int .u8 8, .int .u8 7, .int .u8 6] t frozen | o => o).modify 1 fun | .cells _ t frozen => .cells #[.int .u64 1, .int .u64 10, .int .u64 100, .int .u64 1000, .int .u64 10000, .int .u64 100000, .int .u64 1000000, .int .u64 10000000, .int .u64 100000000, .int .u64 1000000000, .int .u64 10000000000, .int .u64 100000000000, .int .u64 1000000000000, .int .u64 10000000000000, .int .u64 100000000000000, .int .u64 1000000000000000, .int .u64 10000000000000000, .int .u64 100000000000000000, .int .u64 1000000000000000000, .int .u64 10000000000000000000] t frozen | o => o) }
theorem laid_met (os : Os) : laidMet Tryz.prog Rows.clientBackUptoRow.laid ((laidWorld os).forCall (fun _ _ => 0) ⟨#[], witA, []⟩).memory :=
 laidMet_of_run' 8 (by kernel_rfl) (by kernel_rfl)
theorem reads (os : Os) {H : Type} (enc : TypeId × Value → H) : ∃ places, DataW.whole enc Tryz.prog ((laidWorld os).forCall (fun _ _ => 0) ⟨#[], witA, []⟩).memory Tryz.f4.params.toList Rows.clientBackSpec.vars false (witA : Array Value).toList 8 = some ([.agg [.agg [.agg (List.replicate 32 (.lit (.int .u8 0))), .lit (.int .u64 0), .lit (.int .u64 0), .agg (List.replicate 8 (.lit (.int .u8 0))), .lit (.int .u64 0), .lit (.int .u64 0), .agg (List.replicate 32 (.lit (.int .u8 0))), .agg (List.replicate 32 (.lit (.int .u8 0))), .agg (List.replicate 32 (.lit (.int .u8 0))), .agg (List.replicate 32 (.lit (.int .u8 0))), .agg (List.replicate 32 (.lit (.int .u8 0)))], .nil, .nil], .nil], [], places) :=
 ⟨[], by kernel_rfl⟩
set_option maxRecDepth 100000 in
theorem lifted (os : Os) (started : os.Started) (H : Type) (enc : TypeId × Value → H) (F : Stop.Interp) :
  ReturnsInHanded {} Tryz.checked os 4 .any ((Rows.OpenSpec.upto Rows.clientBackSpec).preRow enc Tryz.prog Tryz.f4 Rows.clientBackUptoRow.domain false Rows.clientBackUptoRow.laid) (((Rows.OpenSpec.upto Rows.clientBackSpec).at F).post enc Tryz.prog Tryz.f4 false true false false) := by
 obtain ⟨places, hx⟩ := reads os enc
 refine returnsInHanded_of_row (C := Tryz.checked) (s := Rows.OpenSpec.upto Rows.clientBackSpec) own started (by kernel_rfl) Tryz.func4
  (witness_row_at (enc := enc) (C := Tryz.checked) false (laidWorld os) witA rfl (by kernel_rfl) (by kernel_rfl) (by kernel_rfl)
   (OpenSpec.preRow_of_cond 8 hx (by kernel_rfl) (fun k hk => by cases hk; kernel_rfl) (by kernel_rfl) (laid_met os))) ?_
 intro W base args ds gs before hval hW _ hcond _ hL _ _
 exact contract H enc W base args ds gs before hval hW (hcond _ rfl) hL
end Go.Proofs.YtpaafpmofhajfaaGreatDoor.lawClientBack

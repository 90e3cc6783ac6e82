/- A part of the proof: texts joined. -/
import Derived.Test.YtpaafpmofhajfaaGreatDoorQ20500755
set_option linter.unusedVariables false
set_option linter.unusedSimpArgs false
namespace Go.Proofs.YtpaafpmofhajfaaGreatDoor
open Go.RowKit Rg Wm Ar
set_option linter.unusedVariables false
set_option maxRecDepth 100000
namespace Lf
open Pk
namespace Cb
def hdrKinds : List IntKind := List.replicate 32 .u8 ++ (.u64 :: .u64 :: (List.replicate 8 .u8 ++ (.u64 :: .u64 :: (List.replicate 32 .u8 ++ (List.replicate 32 .u8 ++ (List.replicate 32 .u8 ++ (List.replicate 32 .u8 ++ List.replicate 32 .u8)))))))
theorem hdr_kinds {h : Hdr} (k : h.ok) : KindsOf (hdrC h) hdrKinds := by
 have hu : ∀ (n : Nat) {cs : List V} {ks : List IntKind}, KindsOf cs ks → KindsOf (uK n :: cs) (.u64 :: ks) := fun n _ _ h => .cons h
 have hb : ∀ {l : List UInt8} {n : Nat} {cs : List V} {ks : List IntKind}, l.length = n → KindsOf cs ks → KindsOf (l.map bK ++ cs) (List.replicate n .u8 ++ ks) := fun hl h => KindsOf.maps (fun _ => rfl) h hl
 rw [hdrC_eq]
 exact hb k.parent (hu _ (hu _ (hb k.keeper (hu _ (hu _ (hb k.bloom (hb k.state (hb k.txs (hb k.receipts (KindsOf.map1 (fun _ => rfl) k.next))))))))))
theorem CloneU (l : List Nat) (hn : l.length < 1073741824) : LF Tryz.prog 51 [.s none (l.map uK)] (fun _ => .s none (l.map uK)) none := by
 have hl : (l.map uK).length = l.length := List.length_map _
 refine LFx.mk' tt Tryz.func51 rfl rfl rfl (by kernel_rfl) rfl rfl fun F => ?_
 refine LC.seq (LC.region (LS.pp rfl rfl (Does.assign rfl rfl) rfl (LS.nil ?_)))
 refine LC.seq (LC.seq (LC.region (LS.pp rfl rfl (Does.move rfl rfl) rfl (LS.eqNil tt rfl rfl rfl rfl rfl rfl rfl (fun he => LS.nil ?_) (LS.nil ?_)))))
 ·have hl0 : l = [] := List.map_eq_nil_iff.1 he
  subst hl0
  exact wk trueW trueW trueW
 ·refine LC.condF rfl ?_
  exact wk trueW trueW trueW
theorem sameSeats (l : List Nat) (hn : l.length < 1073741824) : LF Tryz.prog 31 [.s none (l.map uK), .s none (l.map uK)] (fun _ => .k (.bool true)) none := by
 refine LFx.mk' tt Tryz.func31 rfl rfl rfl (by kernel_rfl) rfl rfl fun F => ?_
 refine wk ?_ trueW trueW
 refine LC.loopN (fun i => [(0, .s none (l.map uK)), (1, .s none (l.map uK)), (12, .k (.int .i64 ((l.length : Nat) : Int))), (13, .k (.int .i64 ((i : Nat) : Int)))]) (fun i => []) (fun i => i ≤ l.length) ((l.length - ·)) (0) (by omega) ⟨rfl, rfl, rfl, rfl, trivial⟩ trivial rfl rfW rfW ?_
 intro i hi
 by_cases h : i < l.length
 ·have hok : i + 1 ≤ l.length := h
  exact wk trueW trueW trueW
 ·exact wk trueW trueW trueW
theorem SameStore (x : StM) (k : x.ok) : LF Tryz.prog 13 [.a (storeC x), .a (storeC x)] (fun _ => .k (.bool true)) none := by
 have c1 := sameSeats x.seats (by have := k.sl; omega)
 have c2 := sameSeats x.next (by have := k.nl; omega)
 have kx := k.hdr
 have ld1 := @hx_a
 have ld2 := @hx_b
 have ld3 := @hx_h
 have hrf := hx_refsS
 have hk := hdr_kinds kx
 have hlx := hx_len kx (sV x.seats) (sV x.next)
 clear k
 obtain ⟨h, a, b⟩ := x
 simp only [storeC] at *
 refine LFx.mk' tt Tryz.func13 rfl rfl rfl (by kernel_rfl) rfl rfl fun F => ?_
 exact wk trueW trueW trueW
theorem RightC (n : Nat) : LF Tryz.prog 50 [.s none ([n].map uK)] (fun _ => .k (.bool true)) none := by
 have hrd : RoundsOf 3 := ⟨trivial⟩
 refine LFx.mk' tt Tryz.func50 rfl rfl rfl (by kernel_rfl) rfl rfl fun F => ?_
 exact wk trueW trueW trueW
def zerosP : List Z := List.replicate 32 (.int .u8) ++ (.int .u64 :: .int .u64 :: (List.replicate 8 (.int .u8) ++ (.int .u64 :: .int .u64 :: (List.replicate 160 (.int .u8) ++ [.int .u64, .sl, .sl, .int .i64] ++ (List.replicate 8 (.int .u8) ++ (List.replicate 4 (.int .u64) ++ (.int .i64 :: (List.replicate 16 (.int .u8) ++ (List.replicate 4 (.int .u64) ++ [.sl, .int .u64, .bool, .sl])))))))))
def zerosT : List Z := .int .i64 :: zerosP
def restP : List V := V.cv.go (fun _ => false) true (zerosP.map Z.v)
def stepC (k : Int) : List V := .k (.int .i64 k) :: restP
theorem stepC_eq (k : Int) : stepC k = .k (.int .i64 k) :: restP := rfl
theorem restP_len : restP.length = 245 := by decide +kernel
theorem stepC_len (k : Int) : (stepC k).length = 246 := by rw [stepC_eq, List.length_cons, restP_len]
theorem restP_refs (m : List (Nat × M)) : V.refs.go m restP = true := rfl
theorem stepC_refs (m : List (Nat × M)) (k : Int) : V.refs.go m (stepC k) = true := by
 rw [stepC_eq, V.refs.go, restP_refs]
 rfl
theorem restP_bare : V.bare.go restP = some restP := by rfl
theorem stepC_bare (k : Int) : (V.a (stepC k)).bare = some (.a (stepC k)) := by
 rw [V.bare, stepC_eq, V.bare.go, restP_bare]
 rfl
theorem step_b (k : Int) : ∃ cs, vfill (fun i => [(0, 1), (1, 206), (207, 1), (208, 37), (245, 1)][i]?) (zerosT.map Z.v) [(0, .k (.int .i64 k))] = some cs ∧ V.cv.go (fun _ => false) true cs = stepC k := by
 refine ⟨.k (.int .i64 k) :: zerosP.map Z.v, ?_, ?_⟩
 ·have hz : (zerosP.map Z.v).length = 245 := by decide +kernel
  have e : splice (zerosT.map Z.v) 0 [.k (.int .i64 k)] = .k (.int .i64 k) :: zerosP.map Z.v := rfl
  rw [vfill]
  simp only [List.getElem?_cons_zero]
  rfl
 ·rfl
theorem step_ld {ti : TI} (k : Int) (hd : ti.d.agg = false) : ti.part (stepC k) 0 = some (.k (.int .i64 k)) := part_num (r := restP) hd (by rw [stepC_eq]; rfl)
def clC (s : StM) : List V := hx s.hdr (sV s.seats) (sV s.next) ++ [.s none []]
theorem clC_eq (s : StM) : clC s = hx s.hdr (sV s.seats) (sV s.next) ++ [.s none []] := rfl
theorem clC_len {s : StM} (k : s.hdr.ok) : (clC s).length = 207 := by rw [clC_eq, List.length_append, hx_len k]; rfl
theorem clC_refs (m : List (Nat × M)) (s : StM) : V.refs.go m (clC s) = true := refs_app' m _ _ (hx_refsS m _ _ _) rfl
theorem cl_ld {ti : TI} {s : StM} (k : s.hdr.ok) (hd : ti.d.agg = true) (hs : ti.size = 206) : ti.part (clC s) 0 = some (.a (hx s.hdr (sV s.seats) (sV s.next))) := by
 have hl := hx_len k (sV s.seats) (sV s.next)
 have e : (clC s).take 206 = hx s.hdr (sV s.seats) (sV s.next) := by rw [clC_eq, List.take_append_of_le_length (by omega), List.take_of_length_le (by omega)]
 have h3 : ((clC s).take 206).length = 206 := by rw [e, hl]
 unfold TI.part
 rw [hd, hs]
 simp only [List.drop_zero, cond_true, e, clC_len k]
 rfl
theorem cl_num {ti : TI} {s : StM} (k : s.hdr.ok) (hd : ti.d.agg = false) : ti.part (clC s) 32 = some (uK s.hdr.number) := part_num hd (by
 rw [clC_eq, List.drop_append_of_le_length (by rw [hx_len k]; omega), hx_drop k _ _ (by omega), hd32 k 0]; rfl)
theorem cl_set {s : StM} (k : s.hdr.ok) : splice (clC s) 0 (hx s.hdr (sV s.seats) (sV s.next)) = clC s := by
 rw [clC_eq, splice_at (Nat.le_refl _) rfl, List.drop_length, List.append_nil]
abbrev toldC (e n : Nat) : List V := [.k (.int .i64 (e : Int)), uK n, uK 0, uK 0, uK 0, uK 0, .s none [], .k (.int .i64 0), uK 0, .s none [], .s none []]
attribute [irreducible] stepC clC
set_option maxHeartbeats 4000000 in
theorem doT0 (s : StM) (k : s.ok) (hl : s.seats.length + s.next.length < 2000000) : LM Tryz.prog 52 [.p 1000 0, .a (stepC 4)] [(1000, .b (clC s))] fun o m => o = .ret (.a (toldC 0 s.hdr.number)) ∧ m = [(1000, .b (clC s))] := by
 have kh := k.hdr
 have c1 := SWriteG s kh k.seats k.next hl
 have c2 := SReadW s kh k.seats k.next hl
 have hsb := stB_len kh k.seats k.next hl
 have hlc := clC_len kh
 have hls := hx_len kh (sV s.seats) (sV s.next)
 have hle0 : 0 + (hx s.hdr (sV s.seats) (sV s.next)).length ≤ 206 := by omega
 have hle1 : 0 + (hx s.hdr (sV s.seats) (sV s.next)).length ≤ (clC s).length := by omega
 have hst := stepC_len 4
 have ld1 := @step_ld
 have ld2 : ∀ {ti : TI}, ti.d.agg = true → ti.size = 206 → ti.part (clC s) 0 = some (.a (hx s.hdr (sV s.seats) (sV s.next))) := cl_ld kh
 have ld3 : ∀ {ti : TI}, ti.d.agg = false → ti.part (clC s) 32 = some (uK s.hdr.number) := cl_num kh
 have hs := cl_set kh
 have hrf := And.intro hx_refsS (And.intro stepC_refs clC_refs)
 have hrg := hrf
 generalize stB s = B at *
 clear k kh
 refine LM.enter tt Tryz.func52 rfl rfl rfl (by kernel_rfl) rfl rfl rfl (fun o mo h => by rw [h.2]; rfl) fun F _ => ?_
 exact wk trueW trueW trueW
end Cb
end Lf
end Go.Proofs.YtpaafpmofhajfaaGreatDoor

/- A part of the proof: texts joined. -/
import Derived.Test.YtpaafpmofhajfaaGreatDoorQ224cd4f5
set_option linter.unusedVariables false
set_option linter.unusedSimpArgs false
namespace Go.Proofs.YtpaafpmofhajfaaGreatDoor
open Go.RowKit Rg Wm Ar
set_option linter.unusedVariables false
set_option maxRecDepth 100000
namespace Lf
open Pk
namespace Cb
theorem hdA_b : ∃ cs, vfill (fun i => [(0, 32), (32, 1), (33, 1), (34, 8), (42, 1), (43, 1), (44, 32), (76, 32), (108, 32), (140, 32), (172, 32)][i]?) (zerosH.map Z.v) [(1, .k (.int .u64 5)), (2, .k (.int .u64 3))] = some cs ∧ V.cv.go (fun _ => false) true cs = hdrC hdA := by
 refine ⟨_, rfl, ?_⟩
 rw [hdrC_eq]
 rfl
theorem stA_b (o : Option Nat) : ∃ cs, vfill (fun i => [(0, 204), (204, 1), (205, 1)][i]?) (zerosS.map Z.v) [(0, .a (hdrC hdA)), (1, .s o [.k (.int .u64 4)])] = some cs ∧ V.cv.go (fun _ => false) true cs = hx hdA (sV [4]) (sV []) := by
 have hl := hdrC_len hdA_ok
 refine ⟨hdrC hdA ++ [.s o [.k (.int .u64 4)], .nil], ?_, ?_⟩
 ·have hz : (zerosS.map Z.v).length = 206 := rfl
  have e1 : splice (zerosS.map Z.v) 0 (hdrC hdA) = hdrC hdA ++ [.nil, .nil] := by
   unfold splice
   rw [List.take_zero, List.nil_append, Nat.zero_add, hl]
   rfl
  have e2 : splice (hdrC hdA ++ [.nil, .nil]) 204 [.s o [.k (.int .u64 4)]] = hdrC hdA ++ [.s o [.k (.int .u64 4)], .nil] := by
   have := splice_app (B := [V.nil, V.nil]) (U := [V.s o [.k (.int .u64 4)]]) hl 0
   rw [Nat.add_zero] at this
   rw [this]
   rfl
  have e4 : (V.a (hdrC hdA)).ok = true := rfl
  have e5 : (V.s o [.k (.int .u64 4)]).ok = true := rfl
  have n1 : (hdrC hdA ++ [V.nil, V.nil]).length = 206 := by rw [List.length_append, hl]; rfl
  simp only [vfill, cells_a, cells_s, List.getElem?_cons_zero, List.getElem?_cons_succ, e1, e2, e4, e5, hl, hz, n1]
  rfl
 ·rw [cv_app, cv_hdrC, hx_eq]
  cases o <;> rfl
set_option maxHeartbeats 4000000 in
theorem alive26_ : LF Tryz.prog 10 [] (fun _ => .k (.bool true)) none := by
 have k := stA_ok
 have kh := k.hdr
 obtain ⟨cs, b1, b2⟩ := hdA_b
 obtain ⟨ds, d1, d2⟩ := stA_b (some 8)
 obtain ⟨es, e1, e2⟩ := step_b 4
 obtain ⟨fs, f1, f2⟩ := step_b 9
 have c1 : LF Tryz.prog 28 [.a (hx hdA (sV [4]) (sV [])), .s none [.a (stepC 4), .a (stepC 9)]] (fun _ => .t [.a (hx hdA (sV [4]) (sV [])), .s none [.a (toldC 0 5), .a (toldC 30 5)], .k (.int .i64 0)]) none := Play_
 have c2 : LF Tryz.prog 12 [.a (hx hdA (sV [4]) (sV []))] (fun _ => bV (stB stA)) none := SWriteG stA kh k.seats k.next (by decide)
 have c3 : LF Tryz.prog 11 [bV (stB stA)] (fun _ => .t [.a (hx hdA (sV [4]) (sV [])), .k (.int .i64 0)]) none := SReadW stA kh k.seats k.next (by decide)
 have c4 : LF Tryz.prog 13 [.a (hx hdA (sV [4]) (sV [])), .a (hx hdA (sV [4]) (sV []))] (fun _ => .k (.bool true)) none := SameStore stA k
 have hls : (hx hdA (sV [4]) (sV [])).length = 206 := hx_len kh _ _
 have hle0 : 0 + (hx hdA (sV [4]) (sV [])).length ≤ 206 := by omega
 have hs1 := stepC_len 4
 have hs2 := stepC_len 9
 have z1 : ∀ e ∈ [V.a (stepC 4), V.a (stepC 9)], e.cells.length = 246 := fun e he => by
  simp only [List.mem_cons, List.not_mem_nil, or_false] at he
  rcases he with rfl | rfl
  ·exact hs1
  ·exact hs2
 have hbr := stepC_bare
 have hrf := And.intro hx_refsS (And.intro stepC_refs hdrC_refs)
 have hrg := hrf
 have hlz : (zerosS.map Z.v).length = 206 := rfl
 have hcv := hx_cv
 generalize stB stA = B at *
 refine LFx.mk' tt Tryz.func10 rfl rfl rfl (by kernel_rfl) rfl rfl fun F => ?_
 exact wk trueW trueW trueW
theorem stB_cnt (s : StM) : s.seats.length + s.next.length ≤ (stB s).length := by
 have h1 := encL_cnt (s.seats.map fun x => bytI (numL x))
 have h2 := encL_cnt (s.next.map fun x => bytI (numL x))
 rw [List.length_map] at h1 h2
 unfold stB stI numsI
 unfold enc encL encL encL enc
 simp only [List.length_append]
 omega
set_option maxHeartbeats 4000000 in
theorem ClientBack (s : StM) (k1 : s.hdr.ok) (k2 : seats64 s.seats) (k3 : seats64 s.next) (hl : s.seats.length + s.next.length < 2000000) (b : List UInt8) (hb : b.length ≤ 1048576) : LF Tryz.prog 4 [.a (storeC s), bV b] (fun _ => .k (.bool true)) none := by
 have c1 := alive26_
 have c2 := SWriteG s k1 k2 k3 hl
 have c3 := SReadW s k1 k2 k3 hl
 have c4 := SReadA b hb
 have c5 := SameStore s ⟨k1, k2, k3, by omega, by omega⟩
 have hls := hx_len k1 (sV s.seats) (sV s.next)
 have hle0 : 0 + (hx s.hdr (sV s.seats) (sV s.next)).length ≤ 206 := by omega
 have hrf := And.intro hx_refsS hdrC_refs
 have hrg := hrf
 have hlz : (zerosS.map Z.v).length = 206 := rfl
 have hbl := stB_len k1 k2 k3 hl
 cases hr : rdSt b with
 | none =>
  rw [hr] at c4
  have e4 : stR none = .t [.a (hx zeroH (sV []) (sV [])), .k (.int .i64 1)] := rfl
  rw [e4] at c4
  have hl0 := hx_len zeroH_ok (sV []) (sV [])
  have hle1 : 0 + (hx zeroH (sV []) (sV [])).length ≤ 206 := by omega
  clear hr e4 k1 k2 k3
  generalize stB s = B at *
  obtain ⟨h, sa, sn⟩ := s
  simp only [storeC] at *
  refine LFx.mk' tt Tryz.func4 rfl rfl rfl (by kernel_rfl) rfl rfl fun F => ?_
  exact wk trueW trueW trueW
 | some y =>
  rw [hr] at c4
  have e4 : stR (some y) = .t [.a (storeC y), .k (.int .i64 0)] := rfl
  rw [e4] at c4
  obtain ⟨hB, q1, q2, q3⟩ := rdSt_back hr
  have hcn := stB_cnt y
  rw [hB] at hcn
  have c6 := SWriteG y q1 q2 q3 (by omega)
  rw [hB] at c6
  have hly := hx_len q1 (sV y.seats) (sV y.next)
  have hle1 : 0 + (hx y.hdr (sV y.seats) (sV y.next)).length ≤ 206 := by omega
  have hs := eqS_y b
  clear hr e4 k1 k2 k3 hB
  generalize stB s = B at *
  obtain ⟨h, sa, sn⟩ := s
  obtain ⟨yh, ya, yn⟩ := y
  simp only [storeC] at *
  refine LFx.mk' tt Tryz.func4 rfl rfl rfl (by kernel_rfl) rfl rfl fun F => ?_
  exact wk trueW trueW trueW
end Cb
end Lf
end Go.Proofs.YtpaafpmofhajfaaGreatDoor

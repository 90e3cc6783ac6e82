/- A part of the proof: texts joined. -/
import Derived.Test.YtpaafpmofhajfaaGreatDoorQ21449a6a
set_option linter.unusedVariables false
set_option linter.unusedSimpArgs false
namespace Go.Proofs.YtpaafpmofhajfaaGreatDoor
open Go.RowKit Rg Wm Ar
set_option linter.unusedVariables false
set_option maxRecDepth 100000
namespace Lf
open Pk
namespace Cb
set_option maxHeartbeats 4000000 in
theorem doN0 (s : StM) (k : s.ok) : LM Tryz.prog 52 [.p 1000 0, .a (stepC 9)] [(1000, .b (clC s))] fun o m => o = .ret (.a (toldC 30 s.hdr.number)) ∧ m = [(1000, .b (clC s))] := by
 have kh := k.hdr
 have hlc := clC_len kh
 have hst := stepC_len 9
 have ld1 := @step_ld
 have ld3 : ∀ {ti : TI}, ti.d.agg = false → ti.part (clC s) 32 = some (uK s.hdr.number) := cl_num kh
 have hrf := And.intro hx_refsS (And.intro stepC_refs clC_refs)
 have hrg := hrf
 clear k kh
 refine LM.enter tt Tryz.func52 rfl rfl rfl (by kernel_rfl) rfl rfl rfl (fun o mo h => by rw [h.2]; rfl) fun F _ => ?_
 exact wk trueW trueW trueW
theorem restP_ren (ρ : Nat → Nat) : V.ren.go ρ restP = restP := rfl
theorem stepC_ren (ρ : Nat → Nat) (k : Int) : V.ren.go ρ (stepC k) = stepC k := by
 rw [stepC_eq, V.ren.go, restP_ren]
 rfl
theorem ren_app (ρ : Nat → Nat) : ∀ a b : List V, V.ren.go ρ (a ++ b) = V.ren.go ρ a ++ V.ren.go ρ b
 | [], _ => rfl
 | x :: r, b => by rw [List.cons_append, V.ren.go, V.ren.go, ren_app ρ r b]; rfl
theorem ren_b (ρ : Nat → Nat) : ∀ l : List UInt8, V.ren.go ρ (l.map bK) = l.map bK
 | [] => rfl
 | x :: r => by rw [List.map_cons, V.ren.go, ren_b ρ r]; rfl
theorem ren_u (ρ : Nat → Nat) : ∀ l : List Nat, V.ren.go ρ (l.map uK) = l.map uK
 | [] => rfl
 | x :: r => by rw [List.map_cons, V.ren.go, ren_u ρ r]; rfl
theorem ren_uc (ρ : Nat → Nat) (n : Nat) (r : List V) : V.ren.go ρ (uK n :: r) = uK n :: V.ren.go ρ r := by rw [V.ren.go]; rfl
theorem hdrC_ren (ρ : Nat → Nat) (h : Hdr) : V.ren.go ρ (hdrC h) = hdrC h := by
 rw [hdrC_eq]
 simp only [ren_app, ren_b, ren_uc]
theorem clC_ren (ρ : Nat → Nat) (s : StM) : V.ren.go ρ (clC s) = clC s := by
 rw [clC_eq, hx_eq, ren_app, ren_app, hdrC_ren]
 simp [V.ren.go, V.ren, ren_u]
theorem go_map (ρ : Nat → Nat) : ∀ l : List V, V.ren.go ρ l = l.map (V.ren ρ)
 | [] => rfl
 | x :: r => by rw [V.ren.go, go_map ρ r, List.map_cons]
theorem clC_ren' (ρ : Nat → Nat) (s : StM) : (clC s).map (V.ren ρ) = clC s := by rw [← go_map, clC_ren]
theorem doG (s : StM) (k : s.ok) (hl : s.seats.length + s.next.length < 2000000) (kd : Int) (e : Nat) (h : (kd = 4 ∧ e = 0) ∨ (kd = 9 ∧ e = 30)) (j : Nat) : LM Tryz.prog 52 [.p j 0, .a (stepC kd)] [(j, .b (clC s))] fun o m => o = .ret (.a (toldC e s.hdr.number)) ∧ m = [(j, .b (clC s))] := by
 have h0 : LM Tryz.prog 52 [.p 1000 0, .a (stepC kd)] [(1000, .b (clC s))] fun o m => o = .ret (.a (toldC e s.hdr.number)) ∧ m = [(1000, .b (clC s))] := by
  rcases h with ⟨rfl, rfl⟩ | ⟨rfl, rfl⟩
  ·exact doT0 s k hl
  ·exact doN0 s k
 exact LM.gen [1000] [j] (by simp) (by simp) rfl h0 fun ρ hρ => by
  simp at hρ
  refine ⟨?_, ?_, ?_, ?_⟩
  ·simp [V.ren, stepC_ren, hρ]
  ·simp [Mem.ren, M.ren, hρ, clC_ren, clC_ren']
  ·simp only [Out.ren, V.ren]; rfl
  ·simp [Mem.ren, M.ren, hρ, clC_ren, clC_ren']
theorem hx_cv (h : Hdr) (a b : List Nat) (keep : Nat → Bool) (nn : Bool) : V.cv.go keep nn (hx h (sV a) (sV b)) = hx h (sV a) (sV b) := by
 rw [hx_eq, cv_app, cv_hdrC]
 rfl
def hdA : Hdr := { zeroH with number := 5, time := 3 }
def stA : StM := ⟨hdA, [4], []⟩
theorem hdA_ok : hdA.ok := ⟨rfl, by decide, by decide, rfl, by decide, by decide, rfl, rfl, rfl, rfl, rfl⟩
theorem stA_ok : stA.ok := ⟨hdA_ok, fun x hx => by rw [List.mem_singleton.1 hx]; decide, fun x hx => (by cases hx), by decide, by decide⟩
theorem cl_new (s : StM) (k : s.hdr.ok) : ∃ cs, vfill (fun i => [(0, 206), (206, 1)][i]?) ((zerosS ++ [Z.sl]).map Z.v) [(0, .a (hx s.hdr (sV s.seats) (sV s.next)))] = some cs ∧ V.cv.go (fun _ => false) true cs = clC s := by
 have hl := hx_len k (sV s.seats) (sV s.next)
 refine ⟨hx s.hdr (sV s.seats) (sV s.next) ++ [.nil], ?_, ?_⟩
 ·have hz : ((zerosS ++ [Z.sl]).map Z.v).length = 207 := by decide +kernel
  have e1 : splice ((zerosS ++ [Z.sl]).map Z.v) 0 (hx s.hdr (sV s.seats) (sV s.next)) = hx s.hdr (sV s.seats) (sV s.next) ++ [.nil] := by
   unfold splice
   rw [List.take_zero, List.nil_append, Nat.zero_add, hl]
   rfl
  have e4 : (V.a (hx s.hdr (sV s.seats) (sV s.next))).ok = true := rfl
  simp only [vfill, cells_a, List.getElem?_cons_zero, e1, e4, hl, hz]
  rfl
 ·rw [clC_eq, hx_eq, cv_app, cv_app, cv_hdrC]
  rfl
set_option maxHeartbeats 8000000 in
theorem Play_ : LF Tryz.prog 28 [.a (storeC stA), .s none ([4, 9].map fun k => V.a (stepC k))] (fun _ => .t [.a (storeC stA), .s none ([0, 30].map fun e => V.a (toldC e 5)), .k (.int .i64 0)]) none := by
 have k := stA_ok
 have kh := k.hdr
 have c1 := RightC 4
 have c2 := CloneU [4] (by decide)
 have c3 := CloneU [] (by decide)
 have ld1 := @hx_a
 have ld2 := @hx_b
 have ld3 := @hx_h
 have hls := hx_len kh (sV [4]) (sV [])
 have hhl := hdrC_len kh
 obtain ⟨cs, b1, b2⟩ := store_b kh [4] []
 obtain ⟨ds, d1, d2⟩ := cl_new stA kh
 have hrf := And.intro hx_refsS (And.intro stepC_refs (And.intro clC_refs hdrC_refs))
 have hrg := hrf
 show LF _ _ [.a (hx hdA (sV [4]) (sV [])), _] (fun _ => .t [.a (hx hdA (sV [4]) (sV [])), _, _]) _
 refine LFx.mk' tt Tryz.func28 rfl rfl rfl (by kernel_rfl) rfl rfl fun F => ?_
 refine wk ?_ trueW trueW
 refine LC.nilrow 8 60 100 11 rfl rfl rfl ?_
 refine LC.loop2 (fun i L => [(4, .p 4 0), (7, .p 38 0), (8, .s (some 60) (L.map fun e => V.a (toldC e 5))), (39, .s none ([4, 9].map fun k => V.a (stepC k))), (40, .k (.int .i64 ((2 : Nat) : Int))), (41, .k (.int .i64 ((i : Nat) : Int)))]) (fun i L => [(4, .b (zerosS.map Z.v)), (38, .b (clC stA)), (60, .r 100 11 L.length)]) (fun i L => i ≤ 2 ∧ L = [0, 30].take i) ((2 - ·)) (0) ([]) ⟨by omega, rfl⟩ ⟨rfl, rfl, rfl, rfl, rfl, rfl, trivial⟩ ⟨rfl, rfl, rfl, trivial⟩ rfl rfW rfW ?_
 clear c1 c2 c3 ld1 ld2 ld3 b1 b2 d1 d2
 rintro i L ⟨hi, hL⟩
 have z1 : ∀ e ∈ L.map (fun e => V.a (toldC e 5)), e.cells.length = 11 := fun e he => by obtain ⟨x, _, rfl⟩ := List.mem_map.1 he; rfl
 have z2 : ∀ e ∈ ([4, 9] : List Int).map (fun k => V.a (stepC k)), e.cells.length = 246 := fun e he => by obtain ⟨x, _, rfl⟩ := List.mem_map.1 he; exact stepC_len x
 have hbr := stepC_bare
 rcases (show i = 0 ∨ i = 1 ∨ i = 2 by omega) with rfl | rfl | rfl
 ·have hLl : L.length = 0 := by rw [hL]; rfl
  have hok : 0 + 1 ≤ 2 ∧ L ++ [0] = [0, 30].take (0 + 1) := ⟨by omega, by rw [hL]; rfl⟩
  have c1 : LM Tryz.prog 52 [.p 38 0, .a (stepC (([4, 9] : List Int).getD 0 default))] [(38, .b (clC stA))] fun o m => o = .ret (.a (toldC 0 5)) ∧ m = [(38, .b (clC stA))] := doG stA k (by decide) 4 0 (.inl ⟨rfl, rfl⟩) 38
  have y1 := stepC_len (([4, 9] : List Int).getD 0 default)
  have hle1 : 0 + (stepC (([4, 9] : List Int).getD 0 default)).length ≤ 246 := by omega
  clear hL
  exact wk trueW trueW trueW
 ·have hLl : L.length = 1 := by rw [hL]; rfl
  have hok : 1 + 1 ≤ 2 ∧ L ++ [30] = [0, 30].take (1 + 1) := ⟨by omega, by rw [hL]; rfl⟩
  have c1 : LM Tryz.prog 52 [.p 38 0, .a (stepC (([4, 9] : List Int).getD 1 default))] [(38, .b (clC stA))] fun o m => o = .ret (.a (toldC 30 5)) ∧ m = [(38, .b (clC stA))] := doG stA k (by decide) 9 30 (.inr ⟨rfl, rfl⟩) 38
  have y1 := stepC_len (([4, 9] : List Int).getD 1 default)
  have hle1 : 0 + (stepC (([4, 9] : List Int).getD 1 default)).length ≤ 246 := by omega
  clear hL
  exact wk trueW trueW trueW
 ·have hLL : L = [0, 30] := by rw [hL]; rfl
  subst hLL
  have ld1 : ∀ {ti : TI}, ti.d.agg = true → ti.size = 206 → ti.part (clC stA) 0 = some (.a (hx hdA (sV [4]) (sV []))) := cl_ld kh
  have hlc := clC_len kh
  have hlz : (zerosS.map Z.v).length = 206 := rfl
  have hcv := hx_cv
  have hls2 : (hx hdA (sV [4]) (sV [])).length = 206 := hls
  have hle0 : 0 + (hx hdA (sV [4]) (sV [])).length ≤ 206 := by omega
  exact wk trueW trueW trueW
end Cb
end Lf
end Go.Proofs.YtpaafpmofhajfaaGreatDoor

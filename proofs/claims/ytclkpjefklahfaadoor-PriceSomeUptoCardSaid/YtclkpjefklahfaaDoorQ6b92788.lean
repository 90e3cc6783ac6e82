/- A part of the proof: texts joined. -/
import Derived.Test.YtclkpjefklahfaaDoorQ57700ac
/- Package code: the names of operations. -/
namespace Go.Proofs.YtclkpjefklahfaaDoor
open Go.RowKit Rg
set_option maxRecDepth 100000
namespace Cn
def digs : List UInt8 := [48, 49, 50, 51, 52, 53, 54, 55, 56, 57, 97, 98, 99, 100, 101, 102, 103, 104, 105, 106, 107, 108, 109, 110, 111, 112, 113, 114, 115, 116, 117, 118, 119, 120, 121, 122]
def digs2 : List UInt8 := [48, 48, 48, 49, 48, 50, 48, 51, 48, 52, 48, 53, 48, 54, 48, 55, 48, 56, 48, 57, 49, 48, 49, 49, 49, 50, 49, 51, 49, 52, 49, 53, 49, 54, 49, 55, 49, 56, 49, 57, 50, 48, 50, 49, 50, 50, 50, 51, 50, 52, 50, 53, 50, 54, 50, 55, 50, 56, 50, 57, 51, 48, 51, 49, 51, 50, 51, 51, 51, 52, 51, 53, 51, 54, 51, 55, 51, 56, 51, 57, 52, 48, 52, 49, 52, 50, 52, 51, 52, 52, 52, 53, 52, 54, 52, 55, 52, 56, 52, 57, 53, 48, 53, 49, 53, 50, 53, 51, 53, 52, 53, 53, 53, 54, 53, 55, 53, 56, 53, 57, 54, 48, 54, 49, 54, 50, 54, 51, 54, 52, 54, 53, 54, 54, 54, 55, 54, 56, 54, 57, 55, 48, 55, 49, 55, 50, 55, 51, 55, 52, 55, 53, 55, 54, 55, 55, 55, 56, 55, 57, 56, 48, 56, 49, 56, 50, 56, 51, 56, 52, 56, 53, 56, 54, 56, 55, 56, 56, 56, 57, 57, 48, 57, 49, 57, 50, 57, 51, 57, 52, 57, 53, 57, 54, 57, 55, 57, 56, 57, 57]
def itoa (n : Nat) : List UInt8 := if n < 10 then (digs.drop n).take (n + 1 - n) else (digs2.drop (n * 2)).take (n * 2 + 2 - n * 2)
theorem itoa_len {n : Nat} (h : n < 100) : (itoa n).length ≤ 2 ∧ 0 < (itoa n).length := by
  have h1 : digs.length = 36 := by decide
  have h2 : digs2.length = 200 := by decide
  unfold itoa
  split <;> simp only [List.length_take, List.length_drop] <;> omega
def rkN (n : Nat) : List UInt8 := if n = 0 then [115, 116, 111, 112] else if n = 1 then [97, 100, 100] else if n = 2 then [109, 117, 108] else if n = 3 then [115, 117, 98] else if n = 4 then [100, 105, 118] else if n = 5 then [115, 100, 105, 118] else if n = 6 then [109, 111, 100] else if n = 7 then [115, 109, 111, 100] else if n = 8 then [97, 100, 100, 109, 111, 100] else if n = 9 then [109, 117, 108, 109, 111, 100] else if n = 10 then [101, 120, 112] else if n = 11 then [101, 120, 116, 101, 110, 100] else if n = 16 then [108, 116] else if n = 17 then [103, 116] else if n = 18 then [115, 108, 116] else if n = 19 then [115, 103, 116] else if n = 20 then [101, 113] else if n = 21 then [122, 101, 114, 111] else if n = 22 then [97, 110, 100] else if n = 23 then [111, 114] else if n = 24 then [120, 111, 114] else if n = 25 then [110, 111, 116] else if n = 26 then [98, 121, 116, 101] else if n = 27 then [115, 104, 108] else if n = 28 then [115, 104, 114] else if n = 29 then [115, 97, 114] else []
def otN (n : Nat) : List UInt8 := if n = 32 then [115, 117, 109] else if n = 48 then [115, 101, 108, 102] else if n = 49 then [109, 111, 110, 101, 121] else if n = 50 then [99, 97, 108, 108, 101, 114] else if n = 51 then [118, 97, 108, 117, 101] else if n = 52 then [105, 110, 119, 111, 114, 100] else if n = 53 then [105, 110, 115, 105, 122, 101] else if n = 54 then [105, 110, 99, 111, 112, 121] else if n = 55 then [99, 111, 100, 101, 115, 105, 122, 101] else if n = 56 then [98, 97, 99, 107, 115, 105, 122, 101] else if n = 57 then [98, 97, 99, 107, 99, 111, 112, 121] else if n = 64 then [116, 105, 109, 101] else if n = 65 then [110, 117, 109, 98, 101, 114] else if n = 66 then [107, 101, 101, 112, 101, 114] else if n = 80 then [112, 111, 112] else if n = 81 then [108, 111, 97, 100] else if n = 82 then [115, 116, 111, 114, 101] else if n = 83 then [115, 116, 111, 114, 101, 56] else if n = 84 then [115, 108, 111, 116] else if n = 85 then [107, 101, 101, 112] else if n = 86 then [106, 117, 109, 112] else if n = 87 then [98, 114, 97, 110, 99, 104] else if n = 88 then [112, 99] else if n = 89 then [115, 105, 122, 101] else if n = 90 then [103, 97, 115] else if n = 91 then [108, 97, 110, 100] else if n = 240 then [109, 97, 107, 101] else if n = 241 then [99, 97, 108, 108] else if n = 242 then [114, 101, 116, 117, 114, 110] else if n = 243 then [108, 111, 111, 107] else if n = 244 then [108, 101, 110, 100] else if n = 253 then [114, 101, 118, 101, 114, 116] else []
def pushed (n : Nat) : Nat := if 96 ≤ n ∧ n < 128 then n - 95 else 0
def name (n : Nat) : List UInt8 := if 96 ≤ n ∧ n < 128 then [112, 117, 115, 104] ++ itoa (n - 96 + 1) else if 128 ≤ n ∧ n < 144 then [100, 117, 112] ++ itoa (n - 128 + 1) else if 144 ≤ n ∧ n < 160 then [115, 119, 97, 112] ++ itoa (n - 144 + 1) else if 160 ≤ n ∧ n ≤ 162 then [108, 111, 103] ++ itoa (n - 160) else if n < 32 then rkN n else otN n
end Cn
namespace Lf
namespace Cw
set_option maxHeartbeats 2000000 in
theorem small (n : Nat) (hn : n < 100) : LF Tryd.prog 22 [.k (.int .i64 ((n : Nat) : Int))] (fun _ => sK (Cn.itoa n)) none := by
  have h1 : Cn.digs.length = 36 := by decide
  have h2 : Cn.digs2.length = 200 := by decide
  by_cases h : n < 10
  · have e : Cn.itoa n = (Cn.digs.drop n).take (n + 1 - n) := if_pos h
    rw [e]
    refine LFx.mk' tt Tryd.func22 rfl rfl rfl (by kernel_rfl) rfl rfl fun F => ?_
    exact wk trueW trueW trueW
  · have e : Cn.itoa n = (Cn.digs2.drop (n * 2)).take (n * 2 + 2 - n * 2) := if_neg h
    rw [e]
    have hb : n * 2 + 2 ≤ Cn.digs2.length := by omega
    refine LFx.mk' tt Tryd.func22 rfl rfl rfl (by kernel_rfl) rfl rfl fun F => ?_
    exact wk trueW trueW trueW
theorem Itoa (n : Nat) (hn : n < 100) : LF Tryd.prog 16 [.k (.int .i64 ((n : Nat) : Int))] (fun _ => sK (Cn.itoa n)) none := by
  have c1 := small n hn
  have q1 : LF Tryd.prog 21 [.k (.int .i64 ((n : Nat) : Int)), .k (.int .i64 10)] (fun _ => sK (Cn.itoa n)) none := by
    generalize Cn.itoa n = s at *
    refine LFx.mk' tt Tryd.func21 rfl rfl rfl (by kernel_rfl) rfl rfl fun F => ?_
    exact wk trueW trueW trueW
  clear c1
  have c1 := q1
  have q2 : LF Tryd.prog 20 [.k (.int .i64 ((n : Nat) : Int))] (fun _ => sK (Cn.itoa n)) none := by
    generalize Cn.itoa n = s at *
    refine LFx.mk' tt Tryd.func20 rfl rfl rfl (by kernel_rfl) rfl rfl fun F => ?_
    exact wk trueW trueW trueW
  clear c1 q1
  have c1 := q2
  generalize Cn.itoa n = s at *
  refine LFx.mk' tt Tryd.func16 rfl rfl rfl (by kernel_rfl) rfl rfl fun F => ?_
  exact wk trueW trueW trueW
theorem pushed (n : Nat) (hn : n < 256) : LF Tryd.prog 15 [.k (.int .u8 ((n : Nat) : Int))] (fun _ => .k (.int .i64 ((Cn.pushed n : Nat) : Int))) none := by
  by_cases h : 96 ≤ n ∧ n < 128
  · have e : Cn.pushed n = n - 96 + 1 := (if_pos h).trans (by omega)
    rw [e]
    obtain ⟨a, b⟩ := h
    refine LFx.mk' tt Tryd.func15 rfl rfl rfl (by kernel_rfl) rfl rfl fun F => ?_
    exact wk trueW trueW trueW
  · have e : Cn.pushed n = 0 := if_neg h
    rw [e]
    by_cases a : n < 96
    · clear h
      refine LFx.mk' tt Tryd.func15 rfl rfl rfl (by kernel_rfl) rfl rfl fun F => ?_
      exact wk trueW trueW trueW
    · have b : 128 ≤ n := by omega
      clear h
      refine LFx.mk' tt Tryd.func15 rfl rfl rfl (by kernel_rfl) rfl rfl fun F => ?_
      exact wk trueW trueW trueW
theorem reckoning_0 : LF Tryd.prog 17 [.k (.int .u8 ((0 : Nat) : Int))] (fun _ => sK [115, 116, 111, 112]) none := by
  refine LFx.mk' tt Tryd.func17 rfl rfl rfl (by kernel_rfl) rfl rfl fun F => ?_
  exact wk trueW trueW trueW
theorem reckoning_1 : LF Tryd.prog 17 [.k (.int .u8 ((1 : Nat) : Int))] (fun _ => sK [97, 100, 100]) none := by
  refine LFx.mk' tt Tryd.func17 rfl rfl rfl (by kernel_rfl) rfl rfl fun F => ?_
  exact wk trueW trueW trueW
theorem reckoning_2 : LF Tryd.prog 17 [.k (.int .u8 ((2 : Nat) : Int))] (fun _ => sK [109, 117, 108]) none := by
  refine LFx.mk' tt Tryd.func17 rfl rfl rfl (by kernel_rfl) rfl rfl fun F => ?_
  exact wk trueW trueW trueW
theorem reckoning_3 : LF Tryd.prog 17 [.k (.int .u8 ((3 : Nat) : Int))] (fun _ => sK [115, 117, 98]) none := by
  refine LFx.mk' tt Tryd.func17 rfl rfl rfl (by kernel_rfl) rfl rfl fun F => ?_
  exact wk trueW trueW trueW
theorem reckoning_4 : LF Tryd.prog 17 [.k (.int .u8 ((4 : Nat) : Int))] (fun _ => sK [100, 105, 118]) none := by
  refine LFx.mk' tt Tryd.func17 rfl rfl rfl (by kernel_rfl) rfl rfl fun F => ?_
  exact wk trueW trueW trueW
theorem reckoning_5 : LF Tryd.prog 17 [.k (.int .u8 ((5 : Nat) : Int))] (fun _ => sK [115, 100, 105, 118]) none := by
  refine LFx.mk' tt Tryd.func17 rfl rfl rfl (by kernel_rfl) rfl rfl fun F => ?_
  exact wk trueW trueW trueW
theorem reckoning_6 : LF Tryd.prog 17 [.k (.int .u8 ((6 : Nat) : Int))] (fun _ => sK [109, 111, 100]) none := by
  refine LFx.mk' tt Tryd.func17 rfl rfl rfl (by kernel_rfl) rfl rfl fun F => ?_
  exact wk trueW trueW trueW
theorem reckoning_7 : LF Tryd.prog 17 [.k (.int .u8 ((7 : Nat) : Int))] (fun _ => sK [115, 109, 111, 100]) none := by
  refine LFx.mk' tt Tryd.func17 rfl rfl rfl (by kernel_rfl) rfl rfl fun F => ?_
  exact wk trueW trueW trueW
theorem reckoning_8 : LF Tryd.prog 17 [.k (.int .u8 ((8 : Nat) : Int))] (fun _ => sK [97, 100, 100, 109, 111, 100]) none := by
  refine LFx.mk' tt Tryd.func17 rfl rfl rfl (by kernel_rfl) rfl rfl fun F => ?_
  exact wk trueW trueW trueW
theorem reckoning_9 : LF Tryd.prog 17 [.k (.int .u8 ((9 : Nat) : Int))] (fun _ => sK [109, 117, 108, 109, 111, 100]) none := by
  refine LFx.mk' tt Tryd.func17 rfl rfl rfl (by kernel_rfl) rfl rfl fun F => ?_
  exact wk trueW trueW trueW
theorem reckoning_10 : LF Tryd.prog 17 [.k (.int .u8 ((10 : Nat) : Int))] (fun _ => sK [101, 120, 112]) none := by
  refine LFx.mk' tt Tryd.func17 rfl rfl rfl (by kernel_rfl) rfl rfl fun F => ?_
  exact wk trueW trueW trueW
theorem reckoning_11 : LF Tryd.prog 17 [.k (.int .u8 ((11 : Nat) : Int))] (fun _ => sK [101, 120, 116, 101, 110, 100]) none := by
  refine LFx.mk' tt Tryd.func17 rfl rfl rfl (by kernel_rfl) rfl rfl fun F => ?_
  exact wk trueW trueW trueW
theorem reckoning_16 : LF Tryd.prog 17 [.k (.int .u8 ((16 : Nat) : Int))] (fun _ => sK [108, 116]) none := by
  refine LFx.mk' tt Tryd.func17 rfl rfl rfl (by kernel_rfl) rfl rfl fun F => ?_
  exact wk trueW trueW trueW
theorem reckoning_17 : LF Tryd.prog 17 [.k (.int .u8 ((17 : Nat) : Int))] (fun _ => sK [103, 116]) none := by
  refine LFx.mk' tt Tryd.func17 rfl rfl rfl (by kernel_rfl) rfl rfl fun F => ?_
  exact wk trueW trueW trueW
theorem reckoning_18 : LF Tryd.prog 17 [.k (.int .u8 ((18 : Nat) : Int))] (fun _ => sK [115, 108, 116]) none := by
  refine LFx.mk' tt Tryd.func17 rfl rfl rfl (by kernel_rfl) rfl rfl fun F => ?_
  exact wk trueW trueW trueW
theorem reckoning_19 : LF Tryd.prog 17 [.k (.int .u8 ((19 : Nat) : Int))] (fun _ => sK [115, 103, 116]) none := by
  refine LFx.mk' tt Tryd.func17 rfl rfl rfl (by kernel_rfl) rfl rfl fun F => ?_
  exact wk trueW trueW trueW
theorem reckoning_20 : LF Tryd.prog 17 [.k (.int .u8 ((20 : Nat) : Int))] (fun _ => sK [101, 113]) none := by
  refine LFx.mk' tt Tryd.func17 rfl rfl rfl (by kernel_rfl) rfl rfl fun F => ?_
  exact wk trueW trueW trueW
theorem reckoning_21 : LF Tryd.prog 17 [.k (.int .u8 ((21 : Nat) : Int))] (fun _ => sK [122, 101, 114, 111]) none := by
  refine LFx.mk' tt Tryd.func17 rfl rfl rfl (by kernel_rfl) rfl rfl fun F => ?_
  exact wk trueW trueW trueW
theorem reckoning_22 : LF Tryd.prog 17 [.k (.int .u8 ((22 : Nat) : Int))] (fun _ => sK [97, 110, 100]) none := by
  refine LFx.mk' tt Tryd.func17 rfl rfl rfl (by kernel_rfl) rfl rfl fun F => ?_
  exact wk trueW trueW trueW
theorem reckoning_23 : LF Tryd.prog 17 [.k (.int .u8 ((23 : Nat) : Int))] (fun _ => sK [111, 114]) none := by
  refine LFx.mk' tt Tryd.func17 rfl rfl rfl (by kernel_rfl) rfl rfl fun F => ?_
  exact wk trueW trueW trueW
theorem reckoning_24 : LF Tryd.prog 17 [.k (.int .u8 ((24 : Nat) : Int))] (fun _ => sK [120, 111, 114]) none := by
  refine LFx.mk' tt Tryd.func17 rfl rfl rfl (by kernel_rfl) rfl rfl fun F => ?_
  exact wk trueW trueW trueW
theorem reckoning_25 : LF Tryd.prog 17 [.k (.int .u8 ((25 : Nat) : Int))] (fun _ => sK [110, 111, 116]) none := by
  refine LFx.mk' tt Tryd.func17 rfl rfl rfl (by kernel_rfl) rfl rfl fun F => ?_
  exact wk trueW trueW trueW
theorem reckoning_26 : LF Tryd.prog 17 [.k (.int .u8 ((26 : Nat) : Int))] (fun _ => sK [98, 121, 116, 101]) none := by
  refine LFx.mk' tt Tryd.func17 rfl rfl rfl (by kernel_rfl) rfl rfl fun F => ?_
  exact wk trueW trueW trueW
theorem reckoning_27 : LF Tryd.prog 17 [.k (.int .u8 ((27 : Nat) : Int))] (fun _ => sK [115, 104, 108]) none := by
  refine LFx.mk' tt Tryd.func17 rfl rfl rfl (by kernel_rfl) rfl rfl fun F => ?_
  exact wk trueW trueW trueW
theorem reckoning_28 : LF Tryd.prog 17 [.k (.int .u8 ((28 : Nat) : Int))] (fun _ => sK [115, 104, 114]) none := by
  refine LFx.mk' tt Tryd.func17 rfl rfl rfl (by kernel_rfl) rfl rfl fun F => ?_
  exact wk trueW trueW trueW
theorem reckoning_29 : LF Tryd.prog 17 [.k (.int .u8 ((29 : Nat) : Int))] (fun _ => sK [115, 97, 114]) none := by
  refine LFx.mk' tt Tryd.func17 rfl rfl rfl (by kernel_rfl) rfl rfl fun F => ?_
  exact wk trueW trueW trueW
set_option maxHeartbeats 8000000 in
theorem reckoning (n : Nat) (hn : n < 256) : LF Tryd.prog 17 [.k (.int .u8 ((n : Nat) : Int))] (fun _ => sK (Cn.rkN n)) none := by
  by_cases h0 : n = 0
  · subst h0; exact reckoning_0
  by_cases h1 : n = 1
  · subst h1; exact reckoning_1
  by_cases h2 : n = 2
  · subst h2; exact reckoning_2
  by_cases h3 : n = 3
  · subst h3; exact reckoning_3
  by_cases h4 : n = 4
  · subst h4; exact reckoning_4
  by_cases h5 : n = 5
  · subst h5; exact reckoning_5
  by_cases h6 : n = 6
  · subst h6; exact reckoning_6
  by_cases h7 : n = 7
  · subst h7; exact reckoning_7
  by_cases h8 : n = 8
  · subst h8; exact reckoning_8
  by_cases h9 : n = 9
  · subst h9; exact reckoning_9
  by_cases h10 : n = 10
  · subst h10; exact reckoning_10
  by_cases h11 : n = 11
  · subst h11; exact reckoning_11
  by_cases h16 : n = 16
  · subst h16; exact reckoning_16
  by_cases h17 : n = 17
  · subst h17; exact reckoning_17
  by_cases h18 : n = 18
  · subst h18; exact reckoning_18
  by_cases h19 : n = 19
  · subst h19; exact reckoning_19
  by_cases h20 : n = 20
  · subst h20; exact reckoning_20
  by_cases h21 : n = 21
  · subst h21; exact reckoning_21
  by_cases h22 : n = 22
  · subst h22; exact reckoning_22
  by_cases h23 : n = 23
  · subst h23; exact reckoning_23
  by_cases h24 : n = 24
  · subst h24; exact reckoning_24
  by_cases h25 : n = 25
  · subst h25; exact reckoning_25
  by_cases h26 : n = 26
  · subst h26; exact reckoning_26
  by_cases h27 : n = 27
  · subst h27; exact reckoning_27
  by_cases h28 : n = 28
  · subst h28; exact reckoning_28
  by_cases h29 : n = 29
  · subst h29; exact reckoning_29
  have e : Cn.rkN n = [] := by unfold Cn.rkN; rw [if_neg h0, if_neg h1, if_neg h2, if_neg h3, if_neg h4, if_neg h5, if_neg h6, if_neg h7, if_neg h8, if_neg h9, if_neg h10, if_neg h11, if_neg h16, if_neg h17, if_neg h18, if_neg h19, if_neg h20, if_neg h21, if_neg h22, if_neg h23, if_neg h24, if_neg h25, if_neg h26, if_neg h27, if_neg h28, if_neg h29]
  rw [e]
  have k0 : NE (n : Int) 0 := fun e => h0 (by omega)
  have k1 : NE (n : Int) 1 := fun e => h1 (by omega)
  have k2 : NE (n : Int) 2 := fun e => h2 (by omega)
  have k3 : NE (n : Int) 3 := fun e => h3 (by omega)
  have k4 : NE (n : Int) 4 := fun e => h4 (by omega)
  have k5 : NE (n : Int) 5 := fun e => h5 (by omega)
  have k6 : NE (n : Int) 6 := fun e => h6 (by omega)
  have k7 : NE (n : Int) 7 := fun e => h7 (by omega)
  have k8 : NE (n : Int) 8 := fun e => h8 (by omega)
  have k9 : NE (n : Int) 9 := fun e => h9 (by omega)
  have k10 : NE (n : Int) 10 := fun e => h10 (by omega)
  have k11 : NE (n : Int) 11 := fun e => h11 (by omega)
  have k16 : NE (n : Int) 16 := fun e => h16 (by omega)
  have k17 : NE (n : Int) 17 := fun e => h17 (by omega)
  have k18 : NE (n : Int) 18 := fun e => h18 (by omega)
  have k19 : NE (n : Int) 19 := fun e => h19 (by omega)
  have k20 : NE (n : Int) 20 := fun e => h20 (by omega)
  have k21 : NE (n : Int) 21 := fun e => h21 (by omega)
  have k22 : NE (n : Int) 22 := fun e => h22 (by omega)
  have k23 : NE (n : Int) 23 := fun e => h23 (by omega)
  have k24 : NE (n : Int) 24 := fun e => h24 (by omega)
  have k25 : NE (n : Int) 25 := fun e => h25 (by omega)
  have k26 : NE (n : Int) 26 := fun e => h26 (by omega)
  have k27 : NE (n : Int) 27 := fun e => h27 (by omega)
  have k28 : NE (n : Int) 28 := fun e => h28 (by omega)
  have k29 : NE (n : Int) 29 := fun e => h29 (by omega)
  clear h0 h1 h2 h3 h4 h5 h6 h7 h8 h9 h10 h11 h16 h17 h18 h19 h20 h21 h22 h23 h24 h25 h26 h27 h28 h29 e
  refine LFx.mk' tt Tryd.func17 rfl rfl rfl (by kernel_rfl) rfl rfl fun F => ?_
  exact wk trueW trueW trueW
theorem other_32 : LF Tryd.prog 18 [.k (.int .u8 ((32 : Nat) : Int))] (fun _ => sK [115, 117, 109]) none := by
  refine LFx.mk' tt Tryd.func18 rfl rfl rfl (by kernel_rfl) rfl rfl fun F => ?_
  exact wk trueW trueW trueW
theorem other_48 : LF Tryd.prog 18 [.k (.int .u8 ((48 : Nat) : Int))] (fun _ => sK [115, 101, 108, 102]) none := by
  refine LFx.mk' tt Tryd.func18 rfl rfl rfl (by kernel_rfl) rfl rfl fun F => ?_
  exact wk trueW trueW trueW
theorem other_49 : LF Tryd.prog 18 [.k (.int .u8 ((49 : Nat) : Int))] (fun _ => sK [109, 111, 110, 101, 121]) none := by
  refine LFx.mk' tt Tryd.func18 rfl rfl rfl (by kernel_rfl) rfl rfl fun F => ?_
  exact wk trueW trueW trueW
theorem other_50 : LF Tryd.prog 18 [.k (.int .u8 ((50 : Nat) : Int))] (fun _ => sK [99, 97, 108, 108, 101, 114]) none := by
  refine LFx.mk' tt Tryd.func18 rfl rfl rfl (by kernel_rfl) rfl rfl fun F => ?_
  exact wk trueW trueW trueW
theorem other_51 : LF Tryd.prog 18 [.k (.int .u8 ((51 : Nat) : Int))] (fun _ => sK [118, 97, 108, 117, 101]) none := by
  refine LFx.mk' tt Tryd.func18 rfl rfl rfl (by kernel_rfl) rfl rfl fun F => ?_
  exact wk trueW trueW trueW
theorem other_52 : LF Tryd.prog 18 [.k (.int .u8 ((52 : Nat) : Int))] (fun _ => sK [105, 110, 119, 111, 114, 100]) none := by
  refine LFx.mk' tt Tryd.func18 rfl rfl rfl (by kernel_rfl) rfl rfl fun F => ?_
  exact wk trueW trueW trueW
theorem other_53 : LF Tryd.prog 18 [.k (.int .u8 ((53 : Nat) : Int))] (fun _ => sK [105, 110, 115, 105, 122, 101]) none := by
  refine LFx.mk' tt Tryd.func18 rfl rfl rfl (by kernel_rfl) rfl rfl fun F => ?_
  exact wk trueW trueW trueW
theorem other_54 : LF Tryd.prog 18 [.k (.int .u8 ((54 : Nat) : Int))] (fun _ => sK [105, 110, 99, 111, 112, 121]) none := by
  refine LFx.mk' tt Tryd.func18 rfl rfl rfl (by kernel_rfl) rfl rfl fun F => ?_
  exact wk trueW trueW trueW
theorem other_55 : LF Tryd.prog 18 [.k (.int .u8 ((55 : Nat) : Int))] (fun _ => sK [99, 111, 100, 101, 115, 105, 122, 101]) none := by
  refine LFx.mk' tt Tryd.func18 rfl rfl rfl (by kernel_rfl) rfl rfl fun F => ?_
  exact wk trueW trueW trueW
theorem other_56 : LF Tryd.prog 18 [.k (.int .u8 ((56 : Nat) : Int))] (fun _ => sK [98, 97, 99, 107, 115, 105, 122, 101]) none := by
  refine LFx.mk' tt Tryd.func18 rfl rfl rfl (by kernel_rfl) rfl rfl fun F => ?_
  exact wk trueW trueW trueW
theorem other_57 : LF Tryd.prog 18 [.k (.int .u8 ((57 : Nat) : Int))] (fun _ => sK [98, 97, 99, 107, 99, 111, 112, 121]) none := by
  refine LFx.mk' tt Tryd.func18 rfl rfl rfl (by kernel_rfl) rfl rfl fun F => ?_
  exact wk trueW trueW trueW
theorem other_64 : LF Tryd.prog 18 [.k (.int .u8 ((64 : Nat) : Int))] (fun _ => sK [116, 105, 109, 101]) none := by
  refine LFx.mk' tt Tryd.func18 rfl rfl rfl (by kernel_rfl) rfl rfl fun F => ?_
  exact wk trueW trueW trueW
theorem other_65 : LF Tryd.prog 18 [.k (.int .u8 ((65 : Nat) : Int))] (fun _ => sK [110, 117, 109, 98, 101, 114]) none := by
  refine LFx.mk' tt Tryd.func18 rfl rfl rfl (by kernel_rfl) rfl rfl fun F => ?_
  exact wk trueW trueW trueW
theorem other_66 : LF Tryd.prog 18 [.k (.int .u8 ((66 : Nat) : Int))] (fun _ => sK [107, 101, 101, 112, 101, 114]) none := by
  refine LFx.mk' tt Tryd.func18 rfl rfl rfl (by kernel_rfl) rfl rfl fun F => ?_
  exact wk trueW trueW trueW
theorem other_80 : LF Tryd.prog 18 [.k (.int .u8 ((80 : Nat) : Int))] (fun _ => sK [112, 111, 112]) none := by
  refine LFx.mk' tt Tryd.func18 rfl rfl rfl (by kernel_rfl) rfl rfl fun F => ?_
  exact wk trueW trueW trueW
theorem other_81 : LF Tryd.prog 18 [.k (.int .u8 ((81 : Nat) : Int))] (fun _ => sK [108, 111, 97, 100]) none := by
  refine LFx.mk' tt Tryd.func18 rfl rfl rfl (by kernel_rfl) rfl rfl fun F => ?_
  exact wk trueW trueW trueW
theorem other_82 : LF Tryd.prog 18 [.k (.int .u8 ((82 : Nat) : Int))] (fun _ => sK [115, 116, 111, 114, 101]) none := by
  refine LFx.mk' tt Tryd.func18 rfl rfl rfl (by kernel_rfl) rfl rfl fun F => ?_
  exact wk trueW trueW trueW
theorem other_83 : LF Tryd.prog 18 [.k (.int .u8 ((83 : Nat) : Int))] (fun _ => sK [115, 116, 111, 114, 101, 56]) none := by
  refine LFx.mk' tt Tryd.func18 rfl rfl rfl (by kernel_rfl) rfl rfl fun F => ?_
  exact wk trueW trueW trueW
theorem other_84 : LF Tryd.prog 18 [.k (.int .u8 ((84 : Nat) : Int))] (fun _ => sK [115, 108, 111, 116]) none := by
  refine LFx.mk' tt Tryd.func18 rfl rfl rfl (by kernel_rfl) rfl rfl fun F => ?_
  exact wk trueW trueW trueW
theorem other_85 : LF Tryd.prog 18 [.k (.int .u8 ((85 : Nat) : Int))] (fun _ => sK [107, 101, 101, 112]) none := by
  refine LFx.mk' tt Tryd.func18 rfl rfl rfl (by kernel_rfl) rfl rfl fun F => ?_
  exact wk trueW trueW trueW
theorem other_86 : LF Tryd.prog 18 [.k (.int .u8 ((86 : Nat) : Int))] (fun _ => sK [106, 117, 109, 112]) none := by
  refine LFx.mk' tt Tryd.func18 rfl rfl rfl (by kernel_rfl) rfl rfl fun F => ?_
  exact wk trueW trueW trueW
theorem other_87 : LF Tryd.prog 18 [.k (.int .u8 ((87 : Nat) : Int))] (fun _ => sK [98, 114, 97, 110, 99, 104]) none := by
  refine LFx.mk' tt Tryd.func18 rfl rfl rfl (by kernel_rfl) rfl rfl fun F => ?_
  exact wk trueW trueW trueW
theorem other_88 : LF Tryd.prog 18 [.k (.int .u8 ((88 : Nat) : Int))] (fun _ => sK [112, 99]) none := by
  refine LFx.mk' tt Tryd.func18 rfl rfl rfl (by kernel_rfl) rfl rfl fun F => ?_
  exact wk trueW trueW trueW
theorem other_89 : LF Tryd.prog 18 [.k (.int .u8 ((89 : Nat) : Int))] (fun _ => sK [115, 105, 122, 101]) none := by
  refine LFx.mk' tt Tryd.func18 rfl rfl rfl (by kernel_rfl) rfl rfl fun F => ?_
  exact wk trueW trueW trueW
theorem other_90 : LF Tryd.prog 18 [.k (.int .u8 ((90 : Nat) : Int))] (fun _ => sK [103, 97, 115]) none := by
  refine LFx.mk' tt Tryd.func18 rfl rfl rfl (by kernel_rfl) rfl rfl fun F => ?_
  exact wk trueW trueW trueW
theorem other_91 : LF Tryd.prog 18 [.k (.int .u8 ((91 : Nat) : Int))] (fun _ => sK [108, 97, 110, 100]) none := by
  refine LFx.mk' tt Tryd.func18 rfl rfl rfl (by kernel_rfl) rfl rfl fun F => ?_
  exact wk trueW trueW trueW
theorem other_240 : LF Tryd.prog 18 [.k (.int .u8 ((240 : Nat) : Int))] (fun _ => sK [109, 97, 107, 101]) none := by
  refine LFx.mk' tt Tryd.func18 rfl rfl rfl (by kernel_rfl) rfl rfl fun F => ?_
  exact wk trueW trueW trueW
theorem other_241 : LF Tryd.prog 18 [.k (.int .u8 ((241 : Nat) : Int))] (fun _ => sK [99, 97, 108, 108]) none := by
  refine LFx.mk' tt Tryd.func18 rfl rfl rfl (by kernel_rfl) rfl rfl fun F => ?_
  exact wk trueW trueW trueW
theorem other_242 : LF Tryd.prog 18 [.k (.int .u8 ((242 : Nat) : Int))] (fun _ => sK [114, 101, 116, 117, 114, 110]) none := by
  refine LFx.mk' tt Tryd.func18 rfl rfl rfl (by kernel_rfl) rfl rfl fun F => ?_
  exact wk trueW trueW trueW
theorem other_243 : LF Tryd.prog 18 [.k (.int .u8 ((243 : Nat) : Int))] (fun _ => sK [108, 111, 111, 107]) none := by
  refine LFx.mk' tt Tryd.func18 rfl rfl rfl (by kernel_rfl) rfl rfl fun F => ?_
  exact wk trueW trueW trueW
theorem other_244 : LF Tryd.prog 18 [.k (.int .u8 ((244 : Nat) : Int))] (fun _ => sK [108, 101, 110, 100]) none := by
  refine LFx.mk' tt Tryd.func18 rfl rfl rfl (by kernel_rfl) rfl rfl fun F => ?_
  exact wk trueW trueW trueW
theorem other_253 : LF Tryd.prog 18 [.k (.int .u8 ((253 : Nat) : Int))] (fun _ => sK [114, 101, 118, 101, 114, 116]) none := by
  refine LFx.mk' tt Tryd.func18 rfl rfl rfl (by kernel_rfl) rfl rfl fun F => ?_
  exact wk trueW trueW trueW
set_option maxHeartbeats 8000000 in
theorem other (n : Nat) (hn : n < 256) : LF Tryd.prog 18 [.k (.int .u8 ((n : Nat) : Int))] (fun _ => sK (Cn.otN n)) none := by
  by_cases h32 : n = 32
  · subst h32; exact other_32
  by_cases h48 : n = 48
  · subst h48; exact other_48
  by_cases h49 : n = 49
  · subst h49; exact other_49
  by_cases h50 : n = 50
  · subst h50; exact other_50
  by_cases h51 : n = 51
  · subst h51; exact other_51
  by_cases h52 : n = 52
  · subst h52; exact other_52
  by_cases h53 : n = 53
  · subst h53; exact other_53
  by_cases h54 : n = 54
  · subst h54; exact other_54
  by_cases h55 : n = 55
  · subst h55; exact other_55
  by_cases h56 : n = 56
  · subst h56; exact other_56
  by_cases h57 : n = 57
  · subst h57; exact other_57
  by_cases h64 : n = 64
  · subst h64; exact other_64
  by_cases h65 : n = 65
  · subst h65; exact other_65
  by_cases h66 : n = 66
  · subst h66; exact other_66
  by_cases h80 : n = 80
  · subst h80; exact other_80
  by_cases h81 : n = 81
  · subst h81; exact other_81
  by_cases h82 : n = 82
  · subst h82; exact other_82
  by_cases h83 : n = 83
  · subst h83; exact other_83
  by_cases h84 : n = 84
  · subst h84; exact other_84
  by_cases h85 : n = 85
  · subst h85; exact other_85
  by_cases h86 : n = 86
  · subst h86; exact other_86
  by_cases h87 : n = 87
  · subst h87; exact other_87
  by_cases h88 : n = 88
  · subst h88; exact other_88
  by_cases h89 : n = 89
  · subst h89; exact other_89
  by_cases h90 : n = 90
  · subst h90; exact other_90
  by_cases h91 : n = 91
  · subst h91; exact other_91
  by_cases h240 : n = 240
  · subst h240; exact other_240
  by_cases h241 : n = 241
  · subst h241; exact other_241
  by_cases h242 : n = 242
  · subst h242; exact other_242
  by_cases h243 : n = 243
  · subst h243; exact other_243
  by_cases h244 : n = 244
  · subst h244; exact other_244
  by_cases h253 : n = 253
  · subst h253; exact other_253
  have e : Cn.otN n = [] := by unfold Cn.otN; rw [if_neg h32, if_neg h48, if_neg h49, if_neg h50, if_neg h51, if_neg h52, if_neg h53, if_neg h54, if_neg h55, if_neg h56, if_neg h57, if_neg h64, if_neg h65, if_neg h66, if_neg h80, if_neg h81, if_neg h82, if_neg h83, if_neg h84, if_neg h85, if_neg h86, if_neg h87, if_neg h88, if_neg h89, if_neg h90, if_neg h91, if_neg h240, if_neg h241, if_neg h242, if_neg h243, if_neg h244, if_neg h253]
  rw [e]
  have k32 : NE (n : Int) 32 := fun e => h32 (by omega)
  have k48 : NE (n : Int) 48 := fun e => h48 (by omega)
  have k49 : NE (n : Int) 49 := fun e => h49 (by omega)
  have k50 : NE (n : Int) 50 := fun e => h50 (by omega)
  have k51 : NE (n : Int) 51 := fun e => h51 (by omega)
  have k52 : NE (n : Int) 52 := fun e => h52 (by omega)
  have k53 : NE (n : Int) 53 := fun e => h53 (by omega)
  have k54 : NE (n : Int) 54 := fun e => h54 (by omega)
  have k55 : NE (n : Int) 55 := fun e => h55 (by omega)
  have k56 : NE (n : Int) 56 := fun e => h56 (by omega)
  have k57 : NE (n : Int) 57 := fun e => h57 (by omega)
  have k64 : NE (n : Int) 64 := fun e => h64 (by omega)
  have k65 : NE (n : Int) 65 := fun e => h65 (by omega)
  have k66 : NE (n : Int) 66 := fun e => h66 (by omega)
  have k80 : NE (n : Int) 80 := fun e => h80 (by omega)
  have k81 : NE (n : Int) 81 := fun e => h81 (by omega)
  have k82 : NE (n : Int) 82 := fun e => h82 (by omega)
  have k83 : NE (n : Int) 83 := fun e => h83 (by omega)
  have k84 : NE (n : Int) 84 := fun e => h84 (by omega)
  have k85 : NE (n : Int) 85 := fun e => h85 (by omega)
  have k86 : NE (n : Int) 86 := fun e => h86 (by omega)
  have k87 : NE (n : Int) 87 := fun e => h87 (by omega)
  have k88 : NE (n : Int) 88 := fun e => h88 (by omega)
  have k89 : NE (n : Int) 89 := fun e => h89 (by omega)
  have k90 : NE (n : Int) 90 := fun e => h90 (by omega)
  have k91 : NE (n : Int) 91 := fun e => h91 (by omega)
  have k240 : NE (n : Int) 240 := fun e => h240 (by omega)
  have k241 : NE (n : Int) 241 := fun e => h241 (by omega)
  have k242 : NE (n : Int) 242 := fun e => h242 (by omega)
  have k243 : NE (n : Int) 243 := fun e => h243 (by omega)
  have k244 : NE (n : Int) 244 := fun e => h244 (by omega)
  have k253 : NE (n : Int) 253 := fun e => h253 (by omega)
  clear h32 h48 h49 h50 h51 h52 h53 h54 h55 h56 h57 h64 h65 h66 h80 h81 h82 h83 h84 h85 h86 h87 h88 h89 h90 h91 h240 h241 h242 h243 h244 h253 e
  refine LFx.mk' tt Tryd.func18 rfl rfl rfl (by kernel_rfl) rfl rfl fun F => ?_
  exact wk trueW trueW trueW
end Cw
end Lf
end Go.Proofs.YtclkpjefklahfaaDoor

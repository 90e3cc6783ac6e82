/- A part of the proof: texts joined. -/
import Derived.Test.YtclkpjefklahfaaDoorQ4e0a134
/- Package price: what operations cost. -/
namespace Go.Proofs.YtclkpjefklahfaaDoor
open Go.RowKit Rg
set_option maxRecDepth 100000
namespace Lf
/-- They differ (out of the sight of omega). -/
def NE (a b : Int) : Prop := ¬ a = b
end Lf
namespace Pr
def rangesN (n : Nat) : Nat := if 160 ≤ n ∧ n ≤ 162 then 50 * (n - 160 + 1) else if (96 ≤ n ∧ n < 160) ∨ (0 < n ∧ n ≤ 29 ∧ n ≠ 12 ∧ n ≠ 13 ∧ n ≠ 14 ∧ n ≠ 15) then 3 else if n = 52 ∨ n = 54 ∨ n = 57 ∨ n = 81 ∨ n = 82 ∨ n = 83 then 3 else 0
def opN (n : Nat) : Nat := if n = 0 then 0 else if n = 242 then 0 else if n = 253 then 0 else if n = 91 then 1 else if n = 80 then 2 else if n = 88 then 2 else if n = 89 then 2 else if n = 90 then 2 else if n = 48 then 2 else if n = 50 then 2 else if n = 51 then 2 else if n = 53 then 2 else if n = 55 then 2 else if n = 56 then 2 else if n = 64 then 2 else if n = 65 then 2 else if n = 66 then 2 else if n = 2 then 5 else if n = 4 then 5 else if n = 5 then 5 else if n = 6 then 5 else if n = 7 then 5 else if n = 11 then 5 else if n = 8 then 8 else if n = 9 then 8 else if n = 86 then 8 else if n = 87 then 10 else if n = 10 then 10 else if n = 32 then 30 else if n = 84 then 50 else if n = 49 then 100 else if n = 85 then 100 else if n = 241 then 200 else if n = 243 then 200 else if n = 244 then 200 else if n = 240 then 500 else rangesN n
end Pr
namespace Lf
namespace Prw
set_option maxHeartbeats 4000000 in
theorem ranges (n : Nat) (hn : n < 256) : LF Tryd.prog 14 [.k (.int .u8 ((n : Nat) : Int))] (fun _ => uK (Pr.rangesN n)) none := by
  by_cases h1 : 160 ≤ n ∧ n ≤ 162
  · obtain ⟨a, b⟩ := h1
    have e : Pr.rangesN n = 50 * (n - 160 + 1) := if_pos ⟨a, b⟩
    rw [e]
    have hw : IntKind.u8.wrap ((n : Int) - 160) = ((n - 160 : Nat) : Int) := by rw [wrap_u8 (by omega)]; omega
    refine LFx.mk' tt Tryd.func14 rfl rfl rfl (by kernel_rfl) rfl rfl fun F => ?_
    exact wk trueW trueW trueW
  by_cases h2 : (96 ≤ n ∧ n < 160) ∨ (0 < n ∧ n ≤ 29 ∧ n ≠ 12 ∧ n ≠ 13 ∧ n ≠ 14 ∧ n ≠ 15)
  · have e : Pr.rangesN n = 3 := (if_neg h1).trans (if_pos h2)
    rw [e]
    rcases h2 with ⟨a, b⟩ | ⟨a, b, c, d, f, g⟩
    · clear h1
      refine LFx.mk' tt Tryd.func14 rfl rfl rfl (by kernel_rfl) rfl rfl fun F => ?_
      exact wk trueW trueW trueW
    · clear h1
      refine LFx.mk' tt Tryd.func14 rfl rfl rfl (by kernel_rfl) rfl rfl fun F => ?_
      exact wk trueW trueW trueW
  by_cases h3 : n = 52 ∨ n = 54 ∨ n = 57 ∨ n = 81 ∨ n = 82 ∨ n = 83
  · have e : Pr.rangesN n = 3 := (if_neg h1).trans ((if_neg h2).trans (if_pos h3))
    rw [e]
    clear h1 h2
    rcases h3 with rfl | rfl | rfl | rfl | rfl | rfl
    · refine LFx.mk' tt Tryd.func14 rfl rfl rfl (by kernel_rfl) rfl rfl fun F => ?_
      exact wk trueW trueW trueW
    · refine LFx.mk' tt Tryd.func14 rfl rfl rfl (by kernel_rfl) rfl rfl fun F => ?_
      exact wk trueW trueW trueW
    · refine LFx.mk' tt Tryd.func14 rfl rfl rfl (by kernel_rfl) rfl rfl fun F => ?_
      exact wk trueW trueW trueW
    · refine LFx.mk' tt Tryd.func14 rfl rfl rfl (by kernel_rfl) rfl rfl fun F => ?_
      exact wk trueW trueW trueW
    · refine LFx.mk' tt Tryd.func14 rfl rfl rfl (by kernel_rfl) rfl rfl fun F => ?_
      exact wk trueW trueW trueW
    · refine LFx.mk' tt Tryd.func14 rfl rfl rfl (by kernel_rfl) rfl rfl fun F => ?_
      exact wk trueW trueW trueW
  have e : Pr.rangesN n = 0 := (if_neg h1).trans ((if_neg h2).trans (if_neg h3))
  rw [e]
  have k52 : ¬ (n : Int) = 52 := by omega
  have k54 : ¬ (n : Int) = 54 := by omega
  have k57 : ¬ (n : Int) = 57 := by omega
  have k81 : ¬ (n : Int) = 81 := by omega
  have k82 : ¬ (n : Int) = 82 := by omega
  have k83 : ¬ (n : Int) = 83 := by omega
  by_cases h4 : n ≤ 29
  · have h5 : n = 0 ∨ n = 12 ∨ n = 13 ∨ n = 14 ∨ n = 15 := by omega
    clear h1 h2 h3
    rcases h5 with rfl | rfl | rfl | rfl | rfl
    · refine LFx.mk' tt Tryd.func14 rfl rfl rfl (by kernel_rfl) rfl rfl fun F => ?_
      exact wk trueW trueW trueW
    · refine LFx.mk' tt Tryd.func14 rfl rfl rfl (by kernel_rfl) rfl rfl fun F => ?_
      exact wk trueW trueW trueW
    · refine LFx.mk' tt Tryd.func14 rfl rfl rfl (by kernel_rfl) rfl rfl fun F => ?_
      exact wk trueW trueW trueW
    · refine LFx.mk' tt Tryd.func14 rfl rfl rfl (by kernel_rfl) rfl rfl fun F => ?_
      exact wk trueW trueW trueW
    · refine LFx.mk' tt Tryd.func14 rfl rfl rfl (by kernel_rfl) rfl rfl fun F => ?_
      exact wk trueW trueW trueW
  by_cases h6 : n < 96
  · clear h1 h2 h3
    refine LFx.mk' tt Tryd.func14 rfl rfl rfl (by kernel_rfl) rfl rfl fun F => ?_
    exact wk trueW trueW trueW
  · have h7 : 162 < n := by omega
    clear h1 h2 h3 h6
    refine LFx.mk' tt Tryd.func14 rfl rfl rfl (by kernel_rfl) rfl rfl fun F => ?_
    exact wk trueW trueW trueW
theorem Op_0 : LF Tryd.prog 8 [.k (.int .u8 ((0 : Nat) : Int))] (fun _ => uK 0) none := by
  refine LFx.mk' tt Tryd.func8 rfl rfl rfl (by kernel_rfl) rfl rfl fun F => ?_
  exact wk trueW trueW trueW
theorem Op_242 : LF Tryd.prog 8 [.k (.int .u8 ((242 : Nat) : Int))] (fun _ => uK 0) none := by
  refine LFx.mk' tt Tryd.func8 rfl rfl rfl (by kernel_rfl) rfl rfl fun F => ?_
  exact wk trueW trueW trueW
theorem Op_253 : LF Tryd.prog 8 [.k (.int .u8 ((253 : Nat) : Int))] (fun _ => uK 0) none := by
  refine LFx.mk' tt Tryd.func8 rfl rfl rfl (by kernel_rfl) rfl rfl fun F => ?_
  exact wk trueW trueW trueW
theorem Op_91 : LF Tryd.prog 8 [.k (.int .u8 ((91 : Nat) : Int))] (fun _ => uK 1) none := by
  refine LFx.mk' tt Tryd.func8 rfl rfl rfl (by kernel_rfl) rfl rfl fun F => ?_
  exact wk trueW trueW trueW
theorem Op_80 : LF Tryd.prog 8 [.k (.int .u8 ((80 : Nat) : Int))] (fun _ => uK 2) none := by
  refine LFx.mk' tt Tryd.func8 rfl rfl rfl (by kernel_rfl) rfl rfl fun F => ?_
  exact wk trueW trueW trueW
theorem Op_88 : LF Tryd.prog 8 [.k (.int .u8 ((88 : Nat) : Int))] (fun _ => uK 2) none := by
  refine LFx.mk' tt Tryd.func8 rfl rfl rfl (by kernel_rfl) rfl rfl fun F => ?_
  exact wk trueW trueW trueW
theorem Op_89 : LF Tryd.prog 8 [.k (.int .u8 ((89 : Nat) : Int))] (fun _ => uK 2) none := by
  refine LFx.mk' tt Tryd.func8 rfl rfl rfl (by kernel_rfl) rfl rfl fun F => ?_
  exact wk trueW trueW trueW
theorem Op_90 : LF Tryd.prog 8 [.k (.int .u8 ((90 : Nat) : Int))] (fun _ => uK 2) none := by
  refine LFx.mk' tt Tryd.func8 rfl rfl rfl (by kernel_rfl) rfl rfl fun F => ?_
  exact wk trueW trueW trueW
theorem Op_48 : LF Tryd.prog 8 [.k (.int .u8 ((48 : Nat) : Int))] (fun _ => uK 2) none := by
  refine LFx.mk' tt Tryd.func8 rfl rfl rfl (by kernel_rfl) rfl rfl fun F => ?_
  exact wk trueW trueW trueW
theorem Op_50 : LF Tryd.prog 8 [.k (.int .u8 ((50 : Nat) : Int))] (fun _ => uK 2) none := by
  refine LFx.mk' tt Tryd.func8 rfl rfl rfl (by kernel_rfl) rfl rfl fun F => ?_
  exact wk trueW trueW trueW
theorem Op_51 : LF Tryd.prog 8 [.k (.int .u8 ((51 : Nat) : Int))] (fun _ => uK 2) none := by
  refine LFx.mk' tt Tryd.func8 rfl rfl rfl (by kernel_rfl) rfl rfl fun F => ?_
  exact wk trueW trueW trueW
theorem Op_53 : LF Tryd.prog 8 [.k (.int .u8 ((53 : Nat) : Int))] (fun _ => uK 2) none := by
  refine LFx.mk' tt Tryd.func8 rfl rfl rfl (by kernel_rfl) rfl rfl fun F => ?_
  exact wk trueW trueW trueW
theorem Op_55 : LF Tryd.prog 8 [.k (.int .u8 ((55 : Nat) : Int))] (fun _ => uK 2) none := by
  refine LFx.mk' tt Tryd.func8 rfl rfl rfl (by kernel_rfl) rfl rfl fun F => ?_
  exact wk trueW trueW trueW
theorem Op_56 : LF Tryd.prog 8 [.k (.int .u8 ((56 : Nat) : Int))] (fun _ => uK 2) none := by
  refine LFx.mk' tt Tryd.func8 rfl rfl rfl (by kernel_rfl) rfl rfl fun F => ?_
  exact wk trueW trueW trueW
theorem Op_64 : LF Tryd.prog 8 [.k (.int .u8 ((64 : Nat) : Int))] (fun _ => uK 2) none := by
  refine LFx.mk' tt Tryd.func8 rfl rfl rfl (by kernel_rfl) rfl rfl fun F => ?_
  exact wk trueW trueW trueW
theorem Op_65 : LF Tryd.prog 8 [.k (.int .u8 ((65 : Nat) : Int))] (fun _ => uK 2) none := by
  refine LFx.mk' tt Tryd.func8 rfl rfl rfl (by kernel_rfl) rfl rfl fun F => ?_
  exact wk trueW trueW trueW
theorem Op_66 : LF Tryd.prog 8 [.k (.int .u8 ((66 : Nat) : Int))] (fun _ => uK 2) none := by
  refine LFx.mk' tt Tryd.func8 rfl rfl rfl (by kernel_rfl) rfl rfl fun F => ?_
  exact wk trueW trueW trueW
theorem Op_2 : LF Tryd.prog 8 [.k (.int .u8 ((2 : Nat) : Int))] (fun _ => uK 5) none := by
  refine LFx.mk' tt Tryd.func8 rfl rfl rfl (by kernel_rfl) rfl rfl fun F => ?_
  exact wk trueW trueW trueW
theorem Op_4 : LF Tryd.prog 8 [.k (.int .u8 ((4 : Nat) : Int))] (fun _ => uK 5) none := by
  refine LFx.mk' tt Tryd.func8 rfl rfl rfl (by kernel_rfl) rfl rfl fun F => ?_
  exact wk trueW trueW trueW
theorem Op_5 : LF Tryd.prog 8 [.k (.int .u8 ((5 : Nat) : Int))] (fun _ => uK 5) none := by
  refine LFx.mk' tt Tryd.func8 rfl rfl rfl (by kernel_rfl) rfl rfl fun F => ?_
  exact wk trueW trueW trueW
theorem Op_6 : LF Tryd.prog 8 [.k (.int .u8 ((6 : Nat) : Int))] (fun _ => uK 5) none := by
  refine LFx.mk' tt Tryd.func8 rfl rfl rfl (by kernel_rfl) rfl rfl fun F => ?_
  exact wk trueW trueW trueW
theorem Op_7 : LF Tryd.prog 8 [.k (.int .u8 ((7 : Nat) : Int))] (fun _ => uK 5) none := by
  refine LFx.mk' tt Tryd.func8 rfl rfl rfl (by kernel_rfl) rfl rfl fun F => ?_
  exact wk trueW trueW trueW
theorem Op_11 : LF Tryd.prog 8 [.k (.int .u8 ((11 : Nat) : Int))] (fun _ => uK 5) none := by
  refine LFx.mk' tt Tryd.func8 rfl rfl rfl (by kernel_rfl) rfl rfl fun F => ?_
  exact wk trueW trueW trueW
theorem Op_8 : LF Tryd.prog 8 [.k (.int .u8 ((8 : Nat) : Int))] (fun _ => uK 8) none := by
  refine LFx.mk' tt Tryd.func8 rfl rfl rfl (by kernel_rfl) rfl rfl fun F => ?_
  exact wk trueW trueW trueW
theorem Op_9 : LF Tryd.prog 8 [.k (.int .u8 ((9 : Nat) : Int))] (fun _ => uK 8) none := by
  refine LFx.mk' tt Tryd.func8 rfl rfl rfl (by kernel_rfl) rfl rfl fun F => ?_
  exact wk trueW trueW trueW
theorem Op_86 : LF Tryd.prog 8 [.k (.int .u8 ((86 : Nat) : Int))] (fun _ => uK 8) none := by
  refine LFx.mk' tt Tryd.func8 rfl rfl rfl (by kernel_rfl) rfl rfl fun F => ?_
  exact wk trueW trueW trueW
theorem Op_87 : LF Tryd.prog 8 [.k (.int .u8 ((87 : Nat) : Int))] (fun _ => uK 10) none := by
  refine LFx.mk' tt Tryd.func8 rfl rfl rfl (by kernel_rfl) rfl rfl fun F => ?_
  exact wk trueW trueW trueW
theorem Op_10 : LF Tryd.prog 8 [.k (.int .u8 ((10 : Nat) : Int))] (fun _ => uK 10) none := by
  refine LFx.mk' tt Tryd.func8 rfl rfl rfl (by kernel_rfl) rfl rfl fun F => ?_
  exact wk trueW trueW trueW
theorem Op_32 : LF Tryd.prog 8 [.k (.int .u8 ((32 : Nat) : Int))] (fun _ => uK 30) none := by
  refine LFx.mk' tt Tryd.func8 rfl rfl rfl (by kernel_rfl) rfl rfl fun F => ?_
  exact wk trueW trueW trueW
theorem Op_84 : LF Tryd.prog 8 [.k (.int .u8 ((84 : Nat) : Int))] (fun _ => uK 50) none := by
  refine LFx.mk' tt Tryd.func8 rfl rfl rfl (by kernel_rfl) rfl rfl fun F => ?_
  exact wk trueW trueW trueW
theorem Op_49 : LF Tryd.prog 8 [.k (.int .u8 ((49 : Nat) : Int))] (fun _ => uK 100) none := by
  refine LFx.mk' tt Tryd.func8 rfl rfl rfl (by kernel_rfl) rfl rfl fun F => ?_
  exact wk trueW trueW trueW
theorem Op_85 : LF Tryd.prog 8 [.k (.int .u8 ((85 : Nat) : Int))] (fun _ => uK 100) none := by
  refine LFx.mk' tt Tryd.func8 rfl rfl rfl (by kernel_rfl) rfl rfl fun F => ?_
  exact wk trueW trueW trueW
theorem Op_241 : LF Tryd.prog 8 [.k (.int .u8 ((241 : Nat) : Int))] (fun _ => uK 200) none := by
  refine LFx.mk' tt Tryd.func8 rfl rfl rfl (by kernel_rfl) rfl rfl fun F => ?_
  exact wk trueW trueW trueW
theorem Op_243 : LF Tryd.prog 8 [.k (.int .u8 ((243 : Nat) : Int))] (fun _ => uK 200) none := by
  refine LFx.mk' tt Tryd.func8 rfl rfl rfl (by kernel_rfl) rfl rfl fun F => ?_
  exact wk trueW trueW trueW
theorem Op_244 : LF Tryd.prog 8 [.k (.int .u8 ((244 : Nat) : Int))] (fun _ => uK 200) none := by
  refine LFx.mk' tt Tryd.func8 rfl rfl rfl (by kernel_rfl) rfl rfl fun F => ?_
  exact wk trueW trueW trueW
theorem Op_240 : LF Tryd.prog 8 [.k (.int .u8 ((240 : Nat) : Int))] (fun _ => uK 500) none := by
  refine LFx.mk' tt Tryd.func8 rfl rfl rfl (by kernel_rfl) rfl rfl fun F => ?_
  exact wk trueW trueW trueW
set_option maxHeartbeats 8000000 in
theorem Op (n : Nat) (hn : n < 256) : LF Tryd.prog 8 [.k (.int .u8 ((n : Nat) : Int))] (fun _ => uK (Pr.opN n)) none := by
  have c1 := ranges n hn
  by_cases h0 : n = 0
  · subst h0; exact Op_0
  by_cases h242 : n = 242
  · subst h242; exact Op_242
  by_cases h253 : n = 253
  · subst h253; exact Op_253
  by_cases h91 : n = 91
  · subst h91; exact Op_91
  by_cases h80 : n = 80
  · subst h80; exact Op_80
  by_cases h88 : n = 88
  · subst h88; exact Op_88
  by_cases h89 : n = 89
  · subst h89; exact Op_89
  by_cases h90 : n = 90
  · subst h90; exact Op_90
  by_cases h48 : n = 48
  · subst h48; exact Op_48
  by_cases h50 : n = 50
  · subst h50; exact Op_50
  by_cases h51 : n = 51
  · subst h51; exact Op_51
  by_cases h53 : n = 53
  · subst h53; exact Op_53
  by_cases h55 : n = 55
  · subst h55; exact Op_55
  by_cases h56 : n = 56
  · subst h56; exact Op_56
  by_cases h64 : n = 64
  · subst h64; exact Op_64
  by_cases h65 : n = 65
  · subst h65; exact Op_65
  by_cases h66 : n = 66
  · subst h66; exact Op_66
  by_cases h2 : n = 2
  · subst h2; exact Op_2
  by_cases h4 : n = 4
  · subst h4; exact Op_4
  by_cases h5 : n = 5
  · subst h5; exact Op_5
  by_cases h6 : n = 6
  · subst h6; exact Op_6
  by_cases h7 : n = 7
  · subst h7; exact Op_7
  by_cases h11 : n = 11
  · subst h11; exact Op_11
  by_cases h8 : n = 8
  · subst h8; exact Op_8
  by_cases h9 : n = 9
  · subst h9; exact Op_9
  by_cases h86 : n = 86
  · subst h86; exact Op_86
  by_cases h87 : n = 87
  · subst h87; exact Op_87
  by_cases h10 : n = 10
  · subst h10; exact Op_10
  by_cases h32 : n = 32
  · subst h32; exact Op_32
  by_cases h84 : n = 84
  · subst h84; exact Op_84
  by_cases h49 : n = 49
  · subst h49; exact Op_49
  by_cases h85 : n = 85
  · subst h85; exact Op_85
  by_cases h241 : n = 241
  · subst h241; exact Op_241
  by_cases h243 : n = 243
  · subst h243; exact Op_243
  by_cases h244 : n = 244
  · subst h244; exact Op_244
  by_cases h240 : n = 240
  · subst h240; exact Op_240
  have e : Pr.opN n = Pr.rangesN n := by unfold Pr.opN; rw [if_neg h0, if_neg h242, if_neg h253, if_neg h91, if_neg h80, if_neg h88, if_neg h89, if_neg h90, if_neg h48, if_neg h50, if_neg h51, if_neg h53, if_neg h55, if_neg h56, if_neg h64, if_neg h65, if_neg h66, if_neg h2, if_neg h4, if_neg h5, if_neg h6, if_neg h7, if_neg h11, if_neg h8, if_neg h9, if_neg h86, if_neg h87, if_neg h10, if_neg h32, if_neg h84, if_neg h49, if_neg h85, if_neg h241, if_neg h243, if_neg h244, if_neg h240]
  rw [e]
  have k0 : NE (n : Int) 0 := fun e => h0 (by omega)
  have k242 : NE (n : Int) 242 := fun e => h242 (by omega)
  have k253 : NE (n : Int) 253 := fun e => h253 (by omega)
  have k91 : NE (n : Int) 91 := fun e => h91 (by omega)
  have k80 : NE (n : Int) 80 := fun e => h80 (by omega)
  have k88 : NE (n : Int) 88 := fun e => h88 (by omega)
  have k89 : NE (n : Int) 89 := fun e => h89 (by omega)
  have k90 : NE (n : Int) 90 := fun e => h90 (by omega)
  have k48 : NE (n : Int) 48 := fun e => h48 (by omega)
  have k50 : NE (n : Int) 50 := fun e => h50 (by omega)
  have k51 : NE (n : Int) 51 := fun e => h51 (by omega)
  have k53 : NE (n : Int) 53 := fun e => h53 (by omega)
  have k55 : NE (n : Int) 55 := fun e => h55 (by omega)
  have k56 : NE (n : Int) 56 := fun e => h56 (by omega)
  have k64 : NE (n : Int) 64 := fun e => h64 (by omega)
  have k65 : NE (n : Int) 65 := fun e => h65 (by omega)
  have k66 : NE (n : Int) 66 := fun e => h66 (by omega)
  have k2 : NE (n : Int) 2 := fun e => h2 (by omega)
  have k4 : NE (n : Int) 4 := fun e => h4 (by omega)
  have k5 : NE (n : Int) 5 := fun e => h5 (by omega)
  have k6 : NE (n : Int) 6 := fun e => h6 (by omega)
  have k7 : NE (n : Int) 7 := fun e => h7 (by omega)
  have k11 : NE (n : Int) 11 := fun e => h11 (by omega)
  have k8 : NE (n : Int) 8 := fun e => h8 (by omega)
  have k9 : NE (n : Int) 9 := fun e => h9 (by omega)
  have k86 : NE (n : Int) 86 := fun e => h86 (by omega)
  have k87 : NE (n : Int) 87 := fun e => h87 (by omega)
  have k10 : NE (n : Int) 10 := fun e => h10 (by omega)
  have k32 : NE (n : Int) 32 := fun e => h32 (by omega)
  have k84 : NE (n : Int) 84 := fun e => h84 (by omega)
  have k49 : NE (n : Int) 49 := fun e => h49 (by omega)
  have k85 : NE (n : Int) 85 := fun e => h85 (by omega)
  have k241 : NE (n : Int) 241 := fun e => h241 (by omega)
  have k243 : NE (n : Int) 243 := fun e => h243 (by omega)
  have k244 : NE (n : Int) 244 := fun e => h244 (by omega)
  have k240 : NE (n : Int) 240 := fun e => h240 (by omega)
  clear h0 h242 h253 h91 h80 h88 h89 h90 h48 h50 h51 h53 h55 h56 h64 h65 h66 h2 h4 h5 h6 h7 h11 h8 h9 h86 h87 h10 h32 h84 h49 h85 h241 h243 h244 h240 e
  generalize Pr.rangesN n = r at *
  refine LFx.mk' tt Tryd.func8 rfl rfl rfl (by kernel_rfl) rfl rfl fun F => ?_
  exact wk trueW trueW trueW
end Prw
end Lf
end Go.Proofs.YtclkpjefklahfaaDoor

/- A part of the proof: texts joined. -/
import Derived.Test.YtffaobngpbaklaaGreatDoorQ38a4a7f1
import Derived.Test.YtffaobngpbaklaaGreatDoorQ39ba8e9e
set_option linter.unusedVariables false
set_option linter.unusedSimpArgs false
namespace Go.Proofs.YtffaobngpbaklaaGreatDoor
open Go.RowKit Rg Wm Ar
set_option linter.unusedVariables false
set_option maxRecDepth 100000
namespace Lf
open Fm FrP Fw
abbrev wordsC (n a b : Nat) : List UInt8 := 127 :: (wordB b ++ (127 :: (wordB a ++ [UInt8.ofNat n, 0x60, 0, 0x52, 0x60, 32, 0x60, 0, 0xf2])))
theorem bare_w : ∀ l : List UInt8, V.bare.go (l.map bK) = some (l.map bK)
 | [] => rfl
 | a :: l => by simp [V.bare.go, V.bare, bK, bare_w l]
theorem cut_word (x : Nat) (t : List UInt8) (hx : x < M256) : Ps.beN (cut (wordB x ++ t) 0 32) = x := by
 have hl := wordB_len x
 have e : cut (wordB x ++ t) 0 32 = wordB x := by
  unfold cut
  rw [List.drop_zero, List.length_append, hl, show 32 - (32 + t.length - 0) = 0 by omega, List.replicate_zero, List.append_nil, List.take_left' hl]
 rw [e, wordB_num, Nat.mod_eq_of_lt hx]
theorem words_mid {n a b x : Nat} (hp : Pr.opN n ≤ 400) (h : Fm.act (wordsC n a b) [] ⟨My.zero, 2, [a, b], 66⟩ 994 = .pay (Pr.opN n) (.next ⟨My.zero, 3, [x], 67⟩)) : ∃ g, 300 ≤ g ∧ g + Pr.opN n ≤ 1000 ∧ exec 10 14 (Fm.act (wordsC n a b) [] ⟨My.zero, 2, [a, b], 66⟩ 994) 994 = .next ⟨My.zero, 3, [x], 67⟩ g :=
 ⟨994 - Pr.opN n, by omega, by omega, by rw [h, exec_pn (by omega)]⟩
theorem words_mid10 {a b : Nat} (hb : b < M256) : ∃ g, 300 ≤ g ∧ g + Pr.opN 10 ≤ 1000 ∧ exec 10 14 (Fm.act (wordsC 10 a b) [] ⟨My.zero, 2, [a, b], 66⟩ 994) 994 = .next ⟨My.zero, 3, [a ^ (b % M256)], 67⟩ g := by
 have h : Fm.act (wordsC 10 a b) [] ⟨My.zero, 2, [a, b], 66⟩ 994 = .pay 10 (.pay (10 * (Pk.numL (b % M256)).length) (.next ⟨My.zero, 3, [a ^ (b % M256)], 67⟩)) := by kernel_rfl
 have hl : (Pk.numL (b % M256)).length ≤ 32 := Pk.numL_len (by rw [← m256_bytes]; exact Nat.mod_lt _ M256_pos)
 have ho : Pr.opN 10 = 10 := rfl
 exact ⟨994 - 10 - 10 * (Pk.numL (b % M256)).length, by omega, by omega, by rw [h, exec_p (by omega), exec_pn (by omega)]⟩
theorem words_op {n a b x : Nat} (hb : b < M256) (h : wd2 n a b = some x) : ∃ g, 300 ≤ g ∧ g + Pr.opN n ≤ 1000 ∧ exec 10 14 (Fm.act (wordsC n a b) [] ⟨My.zero, 2, [a, b], 66⟩ 994) 994 = .next ⟨My.zero, 3, [x], 67⟩ g := by
 rcases wd2_cases h with ⟨rfl, rfl⟩ | ⟨rfl, rfl⟩ | ⟨rfl, rfl⟩ | ⟨rfl, rfl⟩ | ⟨rfl, rfl⟩ | ⟨rfl, rfl⟩ | ⟨rfl, rfl⟩ | ⟨rfl, rfl⟩ | ⟨rfl, rfl⟩ | ⟨rfl, rfl⟩ | ⟨rfl, rfl⟩ | ⟨rfl, rfl⟩ | ⟨rfl, rfl⟩ | ⟨rfl, rfl⟩
 all_goals clear h
 ·exact words_mid (by decide) (by kernel_rfl)
 ·exact words_mid (by decide) (by kernel_rfl)
 ·exact words_mid (by decide) (by kernel_rfl)
 ·exact words_mid (by decide) (by kernel_rfl)
 ·exact words_mid (by decide) (by kernel_rfl)
 ·exact words_mid (by decide) (by kernel_rfl)
 ·exact words_mid (by decide) (by kernel_rfl)
 ·exact words_mid10 hb
 ·exact words_mid (by decide) (by kernel_rfl)
 ·exact words_mid (by decide) (by kernel_rfl)
 ·exact words_mid (by decide) (by kernel_rfl)
 ·exact words_mid (by decide) (by kernel_rfl)
 ·exact words_mid (by decide) (by kernel_rfl)
 ·exact words_mid (by decide) (by kernel_rfl)
theorem words_end (n a b x g : Nat) (hg : 300 ≤ g) : ∃ g', g' ≤ g ∧ Runs 10 14 (Fm.act (wordsC n a b) []) ⟨My.zero, 3, [x], 67⟩ g ⟨0, g', wordB x⟩ := by
 have a1 : Fm.act (wordsC n a b) [] ⟨My.zero, 3, [x], 67⟩ g = .pay 3 (.next ⟨My.zero, 4, [0, x], 69⟩) := by kernel_rfl
 have a2 : Fm.act (wordsC n a b) [] ⟨My.zero, 4, [0, x], 69⟩ (g - 3) = .pay 3 (.pay 3 (.next ⟨⟨1, Lf.put (List.replicate 32 0) 0 (wordB x)⟩, 4, [], 70⟩)) := by kernel_rfl
 have hput : Lf.put (List.replicate 32 (0 : UInt8)) 0 (wordB x) = wordB x := by
  unfold Lf.put
  rw [wordB_len]
  simp
 rw [hput] at a2
 have hl := wordB_len x
 generalize wordB x = W at *
 have a3 : Fm.act (wordsC n a b) [] ⟨⟨1, W⟩, 4, [], 70⟩ (g - 3 - 3 - 3) = .pay 3 (.next ⟨⟨1, W⟩, 5, [32], 72⟩) := by kernel_rfl
 have a4 : Fm.act (wordsC n a b) [] ⟨⟨1, W⟩, 5, [32], 72⟩ (g - 3 - 3 - 3 - 3) = .pay 3 (.next ⟨⟨1, W⟩, 6, [0, 32], 74⟩) := by kernel_rfl
 have a5 : Fm.act (wordsC n a b) [] ⟨⟨1, W⟩, 6, [0, 32], 74⟩ (g - 3 - 3 - 3 - 3 - 3) = .pay 0 (Fm.touch ⟨⟨1, W⟩, 6, [], 74⟩ 0 32 0 fun s => .stop (My.view s.m.l (0 % M256) (32 % M256))) := by kernel_rfl
 refine ⟨g - 15, by omega, .next (by rw [a1, exec_pn (by omega)]) (.next (by rw [a2, exec_p (by omega), exec_pn (by omega)]) (.next (by rw [a3, exec_pn (by omega)]) (.next (by rw [a4, exec_pn (by omega)]) (.done ?_))))⟩
 rw [a5, exec_p (by omega)]
 unfold Fm.touch
 have h1 : (0 : Nat) % M256 = 0 := Nat.zero_mod _
 have h2 : 32 % M256 = 32 := by decide +kernel
 rw [h1, h2, show (⟨⟨1, W⟩, 6, [], 74⟩ : MS).m.l.length = 32 from hl, show My.need 32 0 32 = some 32 from rfl]
 simp only
 rw [exec_p (show My.price 32 32 + 0 * words 32 ≤ _ from Nat.zero_le _)]
 have hgr : My.grow ⟨1, W⟩ 32 = ⟨1, W⟩ := by
  unfold My.grow
  rw [if_pos (by show 32 ≤ W.length; omega)]
 rw [hgr]
 have hv : My.view W 0 32 = W := by
  unfold My.view
  rw [List.drop_zero, List.take_of_length_le (by omega)]
 rw [exec]
 simp only
 rw [hv]
 congr 2
theorem words_run (n a b x : Nat) (ha : a < M256) (hb : b < M256) (h : wd2 n a b = some x) : ∃ g, g + Pr.opN n ≤ 1000 ∧ Fm.run (wordsC n a b) [] 1000 ⟨0, g, wordB x⟩ := by
 obtain ⟨g, g1, g2, e3⟩ := words_op hb h
 obtain ⟨g', g3, e4⟩ := words_end n a b x g g1
 have a1 : Fm.act (wordsC n a b) [] S0 1000 = .pay 3 (.next ⟨My.zero, 1, [Ps.beN (cut (wordB b ++ (127 :: (wordB a ++ [UInt8.ofNat n, 0x60, 0, 0x52, 0x60, 32, 0x60, 0, 0xf2]))) 0 32)], 33⟩) := by kernel_rfl
 have a2 : Fm.act (wordsC n a b) [] ⟨My.zero, 1, [b], 33⟩ 997 = .pay 3 (.next ⟨My.zero, 2, [Ps.beN (cut (wordB a ++ [UInt8.ofNat n, 0x60, 0, 0x52, 0x60, 32, 0x60, 0, 0xf2]) 0 32), b], 66⟩) := by kernel_rfl
 rw [cut_word b _ hb] at a1
 rw [cut_word a _ ha] at a2
 exact ⟨g', by omega, .next (s' := ⟨My.zero, 1, [b], 33⟩) (g' := 997) (by rw [a1, exec_pn (by decide)]) (.next (s' := ⟨My.zero, 2, [a, b], 66⟩) (g' := 994) (by rw [a2, exec_pn (by decide)]) (.next e3 e4))⟩
namespace Fw
set_option maxHeartbeats 8000000 in
theorem FrameWords (n a b : Nat) (hn : n < 256) (ha : a < M256) (hb : b < M256) : LF Tryz.prog 7 [.k (.int .u8 ((n : Nat) : Int)), wV a, wV b] (fun _ => .k (.bool true)) none := by
 have c1 := alive16
 have hla := limbs_len a
 have hlb := limbs_len b
 cases hx : wd2 n a b with
 | none =>
  have c2 := words_no n a b hn hx
  refine LFx.mk' tt Tryz.func7 rfl rfl rfl (by kernel_rfl) rfl rfl fun F => ?_
  exact wk trueW trueW trueW
 | some x =>
  have c2 := words_at n a b x hx
  obtain ⟨g, hg, hr⟩ := words_run n a b x ha hb hx
  have c3 := Wo.Bytes a
  have c4 := Wo.Bytes b
  have c5 := Wo.Bytes x
  have c7 := Prw.Op n hn
  have hlx := limbs_len x
  have la := wordB_len a
  have lb := wordB_len b
  have lx := wordB_len x
  have hW : (wordsC n a b).map bK = [V.k (.int .u8 127)] ++ List.map bK (List.take (32 - 0) (List.drop 0 (wordB b))) ++ [V.k (.int .u8 127)] ++ List.map bK (List.take (32 - 0) (List.drop 0 (wordB a))) ++ [V.k (.int .u8 (n : Int)), V.k (.int .u8 96), V.k (.int .u8 0), V.k (.int .u8 82), V.k (.int .u8 96), V.k (.int .u8 32), V.k (.int .u8 96), V.k (.int .u8 0), V.k (.int .u8 242)] := by
   rw [List.drop_zero, List.drop_zero, List.take_of_length_le (by omega), List.take_of_length_le (by omega)]
   simp [wordsC, bK]
   omega
  have c6 := Run (wordsC n a b) [] 1000 (by simp only [wordsC, List.length_cons, List.length_append, la, lb, List.length_nil]; omega) (by decide) (by decide) _ hr
  rw [hW] at c6
  have c8 := EqualZ (wordB x)
  clear hr hx hW
  generalize Pr.opN n = P at *
  have hfb : FrzBox 11 11 := ⟨⟩
  have hbr : V.bare.go ((wordB x).map bK) = some ((wordB x).map bK) := bare_w _
  have hcq : CutQ ((wordB x).map bK) 32 (wordB x) := ⟨by rw [List.take_of_length_le (by rw [List.length_map, lx]; omega)], lx⟩
  have hw : IntKind.u64.wrap ((1000 : Int) - (P : Int)) = ((1000 - P : Nat) : Int) := by rw [wrap_u64 (by omega)]; omega
  refine LFx.mk' tt Tryz.func7 rfl rfl rfl (by kernel_rfl) rfl rfl fun F => ?_
  exact wk trueW trueW trueW
end Fw
end Lf
end Go.Proofs.YtffaobngpbaklaaGreatDoor

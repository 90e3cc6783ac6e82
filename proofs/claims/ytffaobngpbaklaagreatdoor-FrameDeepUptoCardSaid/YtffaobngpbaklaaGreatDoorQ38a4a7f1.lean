/- A part of the proof: texts joined. -/
import Derived.Test.YtffaobngpbaklaaGreatDoorQ356eed96
set_option linter.unusedVariables false
set_option linter.unusedSimpArgs false
namespace Go.Proofs.YtffaobngpbaklaaGreatDoor
open Go.RowKit Rg Wm Ar
set_option linter.unusedVariables false
set_option maxRecDepth 100000
namespace Lf
open Fm FrP Fw
abbrev echoC : List UInt8 := [53, 0x60, 0, 0x60, 0, 54, 53, 0x60, 0, 242]
theorem exec_pn {σ : Type} {eG eR n g : Nat} {s : σ} (h : n ≤ g) : exec eG eR (.pay n (.next s)) g = .next s (g - n) := by
 rw [exec, if_neg (by omega), exec]
theorem exec_p {σ : Type} {eG eR n g : Nat} {a : FrP.Act σ} (h : n ≤ g) : exec eG eR (.pay n a) g = exec eG eR a (g - n) := by
 rw [exec, if_neg (by omega)]
theorem price_le {L z : Nat} : My.price L z ≤ 640 := by
 unfold My.price
 split
 ·exact Nat.zero_le _
 ·exact Nat.le_trans (Nat.sub_le _ _) (My.cost_lt _)
theorem echo4 (inp : List UInt8) (hi : inp.length < 1073741824) {r : Res} (h : Runs 10 14 (Fm.act echoC inp) ⟨My.zero, 3, [0, 0, inp.length], 5⟩ 9992 r) : Fm.run echoC inp 10000 r := by
 refine .next (s' := ⟨My.zero, 1, [inp.length], 1⟩) (g' := 9998) (by kernel_rfl) ?_
 refine .next (s' := ⟨My.zero, 2, [0, inp.length], 3⟩) (g' := 9995) (by kernel_rfl) ?_
 exact .next (s' := ⟨My.zero, 3, [0, 0, inp.length], 5⟩) (g' := 9992) (by kernel_rfl) h
theorem echo_at (inp : List UInt8) : Fm.act echoC inp ⟨My.zero, 3, [0, 0, inp.length], 5⟩ 9992 = .pay 3 (Fm.touch ⟨My.zero, 3, [], 5⟩ 0 inp.length 3 fun s => nx echoC { s with m := ⟨s.m.gen, if inp.length % M256 = 0 then s.m.l else Lf.put s.m.l (0 % M256) (cut inp (0 % M256) (inp.length % M256))⟩ }) := by kernel_rfl
theorem echo_long (inp : List UInt8) (hi : inp.length < 1073741824) (h : 4096 < inp.length) : Fm.run echoC inp 10000 ⟨6, 0, []⟩ := by
 refine echo4 inp hi (.done ?_)
 have hm : inp.length % M256 = inp.length := Nat.mod_eq_of_lt (Nat.lt_of_lt_of_le hi (by decide))
 have h0 : My.need 0 0 inp.length = none := by
  unfold My.need
  rw [if_neg (by omega), if_pos (.inr (by omega))]
 rw [echo_at, exec_p (by decide)]
 unfold Fm.touch
 rw [hm, Nat.zero_mod, show My.zero.l.length = 0 from rfl, h0]
 rfl
theorem echo_short (inp : List UInt8) (h : inp.length ≤ 4096) : ∃ g, Fm.run echoC inp 10000 ⟨0, g, inp⟩ := by
 have hi : inp.length < 1073741824 := by omega
 have hm : inp.length % M256 = inp.length := Nat.mod_eq_of_lt (Nat.lt_of_lt_of_le hi (by decide))
 have hcut : cut inp 0 inp.length = inp := by simp [cut]
 obtain ⟨z, hz⟩ : ∃ z, My.need 0 0 inp.length = some z := by
  unfold My.need
  split
  ·exact ⟨_, rfl⟩
  ·rw [if_neg (by omega)]
   exact ⟨_, rfl⟩
 obtain ⟨z1, z2, z3, z4⟩ := My.need_spec (by omega) rfl hz
 have hw : words inp.length ≤ 128 := by unfold words; omega
 have hp := price_le (L := 0) (z := z)
 obtain ⟨gn, t, hs⟩ : ∃ gn t, (⟨(My.grow My.zero z).gen, if inp.length = 0 then (My.grow My.zero z).l else Lf.put (My.grow My.zero z).l 0 inp⟩ : My.St) = ⟨gn, inp ++ t⟩ := by
  refine ⟨(My.grow My.zero z).gen, if inp.length = 0 then (My.grow My.zero z).l else (My.grow My.zero z).l.drop inp.length, ?_⟩
  congr 1
  split
  ·rename_i h0
   rw [List.eq_nil_of_length_eq_zero h0, List.nil_append]
  ·simp [Lf.put]
 obtain ⟨g4, hg4, e4⟩ : ∃ g4, 8900 ≤ g4 ∧ exec 10 14 (Fm.act echoC inp ⟨My.zero, 3, [0, 0, inp.length], 5⟩ 9992) 9992 = .next ⟨⟨gn, inp ++ t⟩, 3, [], 6⟩ g4 := by
  refine ⟨9989 - (My.price 0 z + 3 * words inp.length), by omega, ?_⟩
  rw [echo_at, exec_p (by decide)]
  unfold Fm.touch
  rw [hm, Nat.zero_mod, show My.zero.l.length = 0 from rfl, hz]
  simp only
  rw [exec_p (by omega), hcut, hs]
  rfl
 obtain ⟨y, hy⟩ : ∃ y, My.need (inp ++ t).length 0 inp.length = some y := by
  unfold My.need
  split
  ·exact ⟨_, rfl⟩
  ·rw [if_neg (by omega)]
   exact ⟨_, rfl⟩
 have hp2 := price_le (L := (inp ++ t).length) (z := y)
 refine ⟨g4 - 5 - (My.price (inp ++ t).length y + 0 * words inp.length), echo4 inp hi (.next e4 ?_)⟩
 have a1 : Fm.act echoC inp ⟨⟨gn, inp ++ t⟩, 3, [], 6⟩ g4 = .pay 2 (.next ⟨⟨gn, inp ++ t⟩, 4, [inp.length], 7⟩) := by kernel_rfl
 have a2 : Fm.act echoC inp ⟨⟨gn, inp ++ t⟩, 4, [inp.length], 7⟩ (g4 - 2) = .pay 3 (.next ⟨⟨gn, inp ++ t⟩, 5, [0, inp.length], 9⟩) := by kernel_rfl
 have a3 : Fm.act echoC inp ⟨⟨gn, inp ++ t⟩, 5, [0, inp.length], 9⟩ (g4 - 2 - 3) = .pay 0 (Fm.touch ⟨⟨gn, inp ++ t⟩, 5, [], 9⟩ 0 inp.length 0 fun s => .stop (My.view s.m.l (0 % M256) (inp.length % M256))) := by kernel_rfl
 refine .next (by rw [a1, exec_pn (by omega)]) (.next (by rw [a2, exec_pn (by omega)]) (.done ?_))
 rw [a3, exec_p (by omega)]
 unfold Fm.touch
 rw [hm, Nat.zero_mod]
 simp only
 rw [hy]
 simp only
 rw [exec_p (by omega), exec]
 have hv : My.view (My.grow ⟨gn, inp ++ t⟩ y).l 0 inp.length = inp := by
  unfold My.view My.grow
  split
  ·simp
  ·simp
 rw [hv]
 congr 2
namespace Fw
theorem EqualZ (a : List UInt8) : LF Tryz.prog 20 [.s none (a.map bK), .s none (a.map bK)] (fun _ => .k (.bool true)) none := by
 have hs : arithS .eql ⟨a.toArray⟩ ⟨a.toArray⟩ = some (.bool true) := by simp [arithS]
 refine LFx.mk' tt Tryz.func20 rfl rfl rfl (by kernel_rfl) rfl rfl fun F => ?_
 exact wk trueW trueW trueW
set_option maxHeartbeats 2000000 in
theorem FrameEcho (inp : List UInt8) (hi : inp.length < 1073741824) : LF Tryz.prog 8 [.s none (inp.map bK)] (fun _ => .k (.bool true)) none := by
 have c1 := alive16
 by_cases h : 4096 < inp.length
 ·have c2 := Run echoC inp 10000 (by decide) hi (by decide) _ (echo_long inp hi h)
  refine LFx.mk' tt Tryz.func8 rfl rfl rfl (by kernel_rfl) rfl rfl fun F => ?_
  exact wk trueW trueW trueW
 ·obtain ⟨g, hg⟩ := echo_short inp (by omega)
  have hle : g ≤ 10000 := (gas_law (by decide) (by decide) hg).1
  have c2 := Run echoC inp 10000 (by decide) hi (by decide) _ hg
  have c3 := EqualZ inp
  clear hg
  refine LFx.mk' tt Tryz.func8 rfl rfl rfl (by kernel_rfl) rfl rfl fun F => ?_
  exact wk trueW trueW trueW
end Fw
end Lf
end Go.Proofs.YtffaobngpbaklaaGreatDoor

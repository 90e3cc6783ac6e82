/- A part of the proof: texts joined. -/
import Derived.Test.YtffaobngpbaklaaGreatDoorQ3642c50a
set_option linter.unusedVariables false
set_option linter.unusedSimpArgs false
namespace Go.Proofs.YtffaobngpbaklaaGreatDoor
open Go.RowKit Rg Wm Ar
set_option linter.unusedVariables false
set_option maxRecDepth 100000
namespace Lf
open Fm FrP Fw
theorem opnU16 {H : Type} {enc : TypeId × Value → H} {W : World} {P : Program} {T n : Nat} (hT : P.underlying T = some (.int .u16)) : Opn enc P W n T (fun x : Nat => [.k (.int .u16 ((x : Nat) : Int))]) (fun x => x < 65536) (fun _ => 1) :=
 (Opn.int hT).map (fun z => z.toNat) (fun z hz => by
  have h0 : IntKind.u16.min = 0 := rfl
  have h1 : IntKind.u16.max = 65535 := rfl
  have : ((z.toNat : Nat) : Int) = z := by omega
  simp only [this]) (fun z hz => by
  have h0 : IntKind.u16.min = 0 := rfl
  have h1 : IntKind.u16.max = 65535 := rfl
  show z.toNat < 65536
  omega) fun _ _ => Nat.le_refl _
abbrev jumpC (t : Nat) (c : List UInt8) : List UInt8 := 0x61 :: UInt8.ofNat (t / 256) :: UInt8.ofNat t :: 0x56 :: c
theorem beN2 (t : Nat) (h : t < 65536) : Ps.beN [UInt8.ofNat (t / 256), UInt8.ofNat t] = t := by
 simp [Ps.beN, Ps.pos, Ps.nat8, UInt8.toNat_ofNat']
 omega
theorem lands_run (t : Nat) (c : List UInt8) (ht : t < 65536) : Fm.run (jumpC t c) [] 11 ⟨if t ∈ Co.lands (jumpC t c) then 10 else 8, 0, []⟩ := by
 have e0 : cut ((jumpC t c).drop 1) 0 2 = [UInt8.ofNat (t / 256), UInt8.ofNat t] := by
  simp [cut, jumpC]
 have e1 : exec 10 14 (Fm.act (jumpC t c) [] S0 11) 11 = .next ⟨My.zero, 1, [Ps.beN (cut ((jumpC t c).drop 1) 0 2)], 3⟩ 8 := by kernel_rfl
 rw [e0, beN2 t ht] at e1
 refine .next e1 ?_
 have e2 : exec 10 14 (Fm.act (jumpC t c) [] ⟨My.zero, 1, [t], 3⟩ 8) 8 = exec 10 14 (Fm.jmp (jumpC t c) ⟨My.zero, 1, [], 3⟩ t) 0 := by kernel_rfl
 unfold Fm.jmp at e2
 rw [Nat.mod_eq_of_lt (Nat.lt_of_lt_of_le ht (by decide))] at e2
 by_cases h : t ∈ Co.lands (jumpC t c)
 ·rw [if_pos h] at e2 ⊢
  refine .next e2 (.done ?_)
  have h1 := lands_lt h
  have h2 : (jumpC t c).getD t default = 91 := by simpa using (List.mem_filter.1 h).2
  unfold Fm.act
  simp only
  rw [if_neg (by omega), h2]
  rfl
 ·rw [if_neg h] at e2 ⊢
  exact .done e2
namespace Fw
set_option maxHeartbeats 2000000 in
theorem FrameLands (c : List UInt8) (t : Nat) (hcl : c.length < 99999990) (ht : t < 65536) : LF Tryz.prog 4 [.s none (c.map bK), .k (.int .u16 t)] (fun _ => .k (.bool true)) none := by
 have c1 := alive16
 have c2 := Run (jumpC t c) [] 11 (by simp; omega) (by decide) (by decide) _ (lands_run t c ht)
 have c3 := Cw.Landings (jumpC t c) (by simp; omega)
 have hle := lands_len (jumpC t c)
 have hlt : ∀ n ∈ Co.lands (jumpC t c), n < 100000000 := fun n h => by have := lands_lt h; simp at this; omega
 have hl4 : (jumpC t c).length = c.length + 4 := rfl
 have ha : (jumpC t c).map bK = [.k (.int .u8 97), .k (.int .u8 ((UInt8.ofNat (t / 256)).toNat : Int)), .k (.int .u8 ((UInt8.ofNat t).toNat : Int)), .k (.int .u8 86)] ++ c.map bK := rfl
 rw [ha] at c2 c3
 have hw : IntKind.u8.wrap ((t : Int).fdiv (2 ^ min (Int.toNat 8) IntKind.u16.bits)) = ((UInt8.ofNat (t / 256)).toNat : Int) := by
  have h1 : min (Int.toNat 8) IntKind.u16.bits = 8 := by decide
  have h2 : (t : Int).fdiv (2 ^ 8) = ((t / 256 : Nat) : Int) := by rw [Int.fdiv_eq_ediv_of_nonneg _ (by decide)]; rfl
  rw [h1, h2, UInt8.toNat_ofNat', Nat.mod_eq_of_lt (by omega)]
  exact wrap_u8 (by omega)
 clear ha
 generalize Co.lands (jumpC t c) = L at *
 refine LFx.mk' tt Tryz.func4 rfl rfl rfl (by kernel_rfl) rfl rfl fun F => ?_
 refine wk ?_ trueW trueW
 refine LC.loop2 (fun i b => [(1, .k (.int .u16 t)), (5, .s (some 17) ([V.k (.int .u8 97), V.k (.int .u8 ((UInt8.ofNat (t / 256)).toNat : Int)), V.k (.int .u8 ((UInt8.ofNat t).toNat : Int)), V.k (.int .u8 86)] ++ c.map bK)), (6, .k (.bool b)), (21, .s none (L.map iN)), (22, .k (.int .i64 ((L.length : Nat) : Int))), (23, .k (.int .i64 ((i : Nat) : Int)))]) (fun i b => [(17, .r 5 1 ([V.k (.int .u8 97), V.k (.int .u8 ((UInt8.ofNat (t / 256)).toNat : Int)), V.k (.int .u8 ((UInt8.ofNat t).toNat : Int)), V.k (.int .u8 86)] ++ c.map bK).length)]) (fun i b => i ≤ L.length ∧ b = decide (t ∈ L.take i)) ((L.length - ·)) (0) (false) ⟨by omega, by simp⟩ ⟨rfl, rfl, rfl, rfl, rfl, rfl, trivial⟩ ⟨rfl, trivial⟩ rfl rfW rfW ?_
 rintro i b ⟨hi, hb⟩
 by_cases h : i < L.length
 ·have hn := hlt (L.getD i default) (by rw [List.getD_eq_getElem?_getD, List.getElem?_eq_getElem h]; exact List.getElem_mem _)
  have hk : decide (t ∈ L.take (i + 1)) = (decide (t ∈ L.take i) || decide (L.getD i default = t)) := by
   have e : L.take (i + 1) = L.take i ++ [L.getD i default] := by
    rw [List.take_add_one, List.getD_eq_getElem?_getD, List.getElem?_eq_getElem h]
    rfl
   rw [e, Bool.eq_iff_iff, Bool.or_eq_true, decide_eq_true_eq, decide_eq_true_eq, decide_eq_true_eq, List.mem_append, List.mem_singleton]
   exact ⟨fun h => h.imp id Eq.symm, fun h => h.imp id Eq.symm⟩
  rw [← hb] at hk
  clear hb hlt
  cases b
  ·by_cases he : L.getD i default = t
   ·have hok : i + 1 ≤ L.length ∧ true = decide (t ∈ L.take (i + 1)) := ⟨h, by rw [hk, decide_eq_true he]; rfl⟩
    clear hk
    exact wk trueW trueW trueW
   ·have hok : i + 1 ≤ L.length ∧ false = decide (t ∈ L.take (i + 1)) := ⟨h, by rw [hk, decide_eq_false he]; rfl⟩
    clear hk
    exact wk trueW trueW trueW
  ·have hok : i + 1 ≤ L.length ∧ true = decide (t ∈ L.take (i + 1)) := ⟨h, by rw [hk]; rfl⟩
   clear hk
   exact wk trueW trueW trueW
 ·obtain rfl : i = L.length := by omega
  rw [List.take_length] at hb
  clear hlt
  by_cases he : t ∈ L
  ·rw [if_pos he] at c2
   rw [decide_eq_true he] at hb
   subst hb
   clear he
   exact wk trueW trueW trueW
  ·rw [if_neg he] at c2
   rw [decide_eq_false he] at hb
   subst hb
   clear he
   exact wk trueW trueW trueW
end Fw
end Lf
end Go.Proofs.YtffaobngpbaklaaGreatDoor

/- A part of the proof: texts joined. -/
import Derived.Test.YtffaobngpbaklaaGreatDoorQ18bc7d18
set_option linter.unusedVariables false
set_option linter.unusedSimpArgs false
namespace Go.Proofs.YtffaobngpbaklaaGreatDoor
open Go.RowKit Rg Wm Ar
set_option linter.unusedVariables false
set_option maxRecDepth 100000
namespace Lf
open Pk
theorem strip_cons (a : UInt8) (r : List UInt8) (h : a = 0) : Ps.strip (a :: r) = Ps.strip r := by subst h; rfl
theorem drop_get {l : List UInt8} {i : Nat} (h : i < l.length) : l.drop i = l.getD i default :: l.drop (i + 1) := by
 rw [List.drop_eq_getElem_cons h, List.getD_eq_getElem?_getD, List.getElem?_eq_getElem h]; rfl
theorem u8_zero {a : UInt8} (h : a.toNat = 0) : a = 0 := UInt8.toNat_inj.1 (by rw [h]; rfl)
namespace Pw
set_option maxHeartbeats 1000000 in
theorem Num (x : Nat) : LF Tryz.prog 84 [wV x] (fun _ => .s none ((numL (x % M256)).map bK)) none := by
  have c1 := Wo.Bytes x
  have hl := limbs_len x
  have hs := Pk.strip_num (wordB_num x)
  have hb := wordB_len x
  rw [← hs]
  generalize wordB x = B at *
  clear hs
  refine LFx.mk' tt Tryz.func84 rfl rfl rfl (by kernel_rfl) rfl rfl fun F => ?_
  refine wk ?_ trueW trueW
  refine LC.loop2 (fun i S => [(3, .p 3 0), (4, S)]) (fun i S => [(3, .b (B.map bK))]) (fun i S => Ps.strip (B.drop i) = Ps.strip B ∧ ((i < 32 ∧ S = .sb 3 i (32 - i) (32 - i)) ∨ (i = 32 ∧ S = .s none []))) ((32 - ·)) (0) ((.sb 3 0 (32 - 0) (32 - 0))) ⟨rfl, .inl ⟨by omega, rfl⟩⟩ ⟨rfl, rfl, trivial⟩ ⟨rfl, trivial⟩ rfl rfW rfW ?_
  rintro i S ⟨hstr, ⟨h, rfl⟩ | ⟨rfl, rfl⟩⟩
  · have hd := drop_get (l := B) (i := i) (by omega)
    by_cases hz : (B.getD i default).toNat = 0
    · have hz2 : ((B.getD (i + 0) default).toNat : Int) = 0 := by rw [Nat.add_zero, hz]; rfl
      have hs2 : Ps.strip (B.drop (i + 1)) = Ps.strip B := by rw [← hstr, hd, strip_cons _ _ (u8_zero hz)]
      clear hd
      rcases Nat.lt_or_ge i 31 with h31 | h31
      · have hok : Ps.strip (B.drop (i + 1)) = Ps.strip B ∧ ((i + 1 < 32 ∧ V.sb 3 (i + 1) (32 - (i + 1)) (32 - (i + 1)) = .sb 3 (i + 1) (32 - (i + 1)) (32 - (i + 1))) ∨ (i + 1 = 32 ∧ V.sb 3 (i + 1) (32 - (i + 1)) (32 - (i + 1)) = .s none [])) := ⟨hs2, .inl ⟨by omega, rfl⟩⟩
        exact wk trueW trueW trueW
      · obtain rfl : i = 31 := by omega
        have hok : Ps.strip (B.drop 32) = Ps.strip B ∧ ((32 < 32 ∧ V.s none [] = .sb 3 32 (32 - 32) (32 - 32)) ∨ (32 = 32 ∧ V.s none [] = .s none [])) := ⟨hs2, .inr ⟨rfl, rfl⟩⟩
        exact wk trueW trueW trueW
    · have hz2 : ¬ ((B.getD (i + 0) default).toNat : Int) = 0 := by rw [Nat.add_zero]; omega
      have hv1 : V.s none (((B.drop i).take (32 - i)).map bK) = V.s none ((Ps.strip B).map bK) := by
        rw [← hstr, Ps.strip_id (l := B.drop i) (by rw [hd]; intro e; simp only [List.head?_cons, Option.some.injEq] at e; rw [e] at hz; exact hz rfl), List.take_of_length_le (by rw [List.length_drop]; omega)]
      clear hd hstr
      have hn : ((B.drop i).take (32 - i)).length = 32 - i := by rw [List.length_take, List.length_drop]; omega
      exact wk trueW trueW trueW
  · have hv1 : V.s none [] = V.s none ((Ps.strip B).map bK) := by
      rw [← hstr, List.drop_of_length_le (by omega)]; rfl
    clear hstr
    exact wk trueW trueW trueW
end Pw
end Lf
end Go.Proofs.YtffaobngpbaklaaGreatDoor

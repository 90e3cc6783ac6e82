/- A part of the proof: texts joined. -/
import Derived.Test.YtnmjpbcbldenmaaQ8de3893
/- What is settled is followed: the law, without the program. -/
namespace Go.Proofs.Ytnmjpbcbldenmaa
open Go.RowKit Rg Wm Ar
set_option maxRecDepth 100000
namespace Lf
open Pk
theorem quo_full {n : Nat} (h0 : 0 < n) (h : n ≤ 16) : St.quo (2 ^ n - 1) n = true := by
  have key : ∀ k : Fin 17, 0 < k.val → St.quo (2 ^ k.val - 1) k.val = true := by decide +kernel
  exact key ⟨n, by omega⟩ h0
section
variable (hs : List Hdr) (a : List (List Nat))
def hN (i : Nat) : Nat := (hs.getD i default).number
def lvL (i : Nat) : List Nat := (ofM hs a (hN hs i)).getD []
def lvN (i : Nat) : List Nat := (ofM hs a (hN hs i + 8)).getD []
def liveU (i : Nat) : UpM := ⟨hs.getD i default, 2 ^ (lvL hs a i).length - 1, lvN hs a i⟩
def liveW (i : Nat) : List St.VoteT := (lvL hs a i).map fun s => (s, sumB (hdrB (hs.getD i default)))
def liveS (i : Nat) : StM := ⟨hs.getD i default, lvL hs a i, lvN hs a i⟩
def liveV (o : List St.VoteT) (i : Nat) : List St.VoteT := o ++ (List.range i).flatMap (liveW hs a)
def liveUs (i : Nat) : List UpM := (List.range i).map (liveU hs a)
def condI (i : Nat) : Prop := (0 < i → hN hs (i - 1) < hN hs i ∧ hN hs i / 8 - hN hs (i - 1) / 8 ≤ 1) ∧ ofM hs a (hN hs i + 8) ≠ none
end
theorem liveUs_len (hs : List Hdr) (a : List (List Nat)) (i : Nat) : (liveUs hs a i).length = i := by unfold liveUs; rw [List.length_map, List.length_range]
theorem liveUs_getD (hs : List Hdr) (a : List (List Nat)) {n i : Nat} (h : i < n) : (liveUs hs a n).getD i default = liveU hs a i := by
  unfold liveUs
  rw [List.getD_eq_getElem?_getD, List.getElem?_map, List.getElem?_range h]
  rfl
theorem live_told {hs : List Hdr} {a : List (List Nat)} (R : RightC hs a) {i : Nat} (h : i < hs.length) : ofM hs a (hN hs i) = some (lvL hs a i) ∧ right (lvL hs a i) = true := by
  obtain ⟨l, hl⟩ := R.told _ (Sr.getD_mem h)
  have hl' : ofM hs a (hN hs i) = some l := hl
  unfold lvL
  rw [hl']
  exact ⟨rfl, R.seats _ (ofM_mem hl')⟩
theorem live_next {hs : List Hdr} {a : List (List Nat)} (R : RightC hs a) {i : Nat} (h : ofM hs a (hN hs i + 8) ≠ none) : ofM hs a (hN hs i + 8) = some (lvN hs a i) ∧ right (lvN hs a i) = true := by
  unfold lvN
  cases e : ofM hs a (hN hs i + 8) with
  | none => exact absurd e h
  | some l => exact ⟨rfl, R.seats _ (ofM_mem e)⟩
theorem right_ne {l : List Nat} (h : right l = true) : l ≠ [] := fun f => by
  have := (right_pos h).1
  rw [f] at this
  exact absurd this (by simp)
theorem live_step {hs : List Hdr} {a : List (List Nat)} (R : RightC hs a) {o : List St.VoteT} {i n : Nat} (hn : n = hs.length) (hi : i + 1 < n) (hc : ∀ j, j < n → condI hs a j) :
    applyM (liveS hs a i) (liveU hs a (i + 1)) (liveV hs a o n) = (liveS hs a (i + 1), 0) := by
  obtain ⟨t1, t2⟩ := live_told R (show i < hs.length by omega)
  obtain ⟨u1, u2⟩ := live_told R (show i + 1 < hs.length by omega)
  obtain ⟨c1, c2⟩ := hc (i + 1) hi
  obtain ⟨n1, n2⟩ := live_next R (hc i (by omega)).2
  obtain ⟨m1, m2⟩ := live_next R c2
  obtain ⟨d1, d2⟩ := c1 (by omega)
  rw [Nat.add_sub_cancel] at d1 d2
  have ne1 := right_ne n2
  have ne2 := right_ne m2
  have hj : judgeM (liveS hs a i) (liveU hs a (i + 1)).hdr.number = (lvL hs a (i + 1), 0) := by
    show judgeM (liveS hs a i) (hN hs (i + 1)) = _
    unfold judgeM
    rw [if_neg (show ¬ hN hs (i + 1) ≤ (liveS hs a i).hdr.number from fun f => by have : (liveS hs a i).hdr.number = hN hs i := rfl; omega)]
    by_cases e : hN hs i / 8 = hN hs (i + 1) / 8
    · rw [if_pos (show (liveS hs a i).hdr.number / 8 = _ from e)]
      show (lvL hs a i, 0) = _
      have : some (lvL hs a i) = some (lvL hs a (i + 1)) := by rw [← t1, ← u1]; exact ofM_per e
      rw [Option.some.inj this]
    · rw [if_neg (show ¬ (liveS hs a i).hdr.number / 8 = _ from e), if_neg (by
        rintro (f | f)
        · have : (liveS hs a i).hdr.number = hN hs i := rfl
          omega
        · exact ne1 f)]
      show (lvN hs a i, 0) = _
      have : some (lvN hs a i) = some (lvL hs a (i + 1)) := by rw [← n1, ← u1]; exact ofM_per (by omega)
      rw [Option.some.inj this]
  have hb : badM (liveS hs a i) (liveU hs a (i + 1)) = false := by
    unfold badM
    have e1 : (liveS hs a i).seats = lvL hs a i := rfl
    have e2 : (liveS hs a i).next = lvN hs a i := rfl
    have e3 : (liveU hs a (i + 1)).next = lvN hs a (i + 1) := rfl
    rw [e1, e2, e3, t2, n2, m2]
    simp
  have hq : St.quo (liveU hs a (i + 1)).mask (lvL hs a (i + 1)).length = true := quo_full (right_pos u2).1 (right_pos u2).2
  have hv : St.andn0 (liveU hs a (i + 1)).mask (St.tally (lvL hs a (i + 1)) (sumB (hdrB (liveU hs a (i + 1)).hdr)) (liveV hs a o n)) = true := by
    refine decide_eq_true ((St.andn_zero ?_ (St.tally_lt _ _ _)).2 fun k hk => ?_)
    · show 2 ^ (lvL hs a (i + 1)).length - 1 < _
      have : 2 ^ (lvL hs a (i + 1)).length ≤ 2 ^ 16 := Nat.pow_le_pow_right (by omega) (right_pos u2).2
      omega
    · have hk' : (2 ^ (lvL hs a (i + 1)).length - 1).testBit k = true := hk
      rw [Nat.testBit_two_pow_sub_one, decide_eq_true_eq] at hk'
      have h16 := (right_pos u2).2
      rw [St.tally_bit, decide_eq_true (show k < (lvL hs a (i + 1)).length ∧ k < 64 from ⟨hk', by omega⟩), Bool.true_and]
      refine decide_eq_true (List.mem_append_right _ (List.mem_flatMap.2 ⟨i + 1, List.mem_range.2 hi, List.mem_map.2 ⟨_, Sr.getD_mem hk', rfl⟩⟩))
  have hsum : sumB (enc (Sr.seatI (liveU hs a (i + 1)).next)) = (liveU hs a (i + 1)).hdr.next := R.names _ (Sr.getD_mem (show i + 1 < hs.length by omega)) _ m1
  unfold applyM
  rw [if_neg (by rw [hb]; simp), hj, if_neg (by simp), if_neg (by rw [hq]; simp), if_neg (by rw [hv]; simp), if_neg (fun f => f.2 hsum), if_neg (fun f => ne2 f.1)]
  rfl
theorem live_play {hs : List Hdr} {a : List (List Nat)} (R : RightC hs a) {o : List St.VoteT} {n : Nat} (hn : n = hs.length) (h0 : 0 < n) (hc : ∀ j, j < n → condI hs a j) :
    playM (liveS hs a 0) ((liveUs hs a n).drop 1) (liveV hs a o n) = (liveS hs a (n - 1), List.replicate (n - 1) 0) := by
  have hl : ((liveUs hs a n).drop 1).length = n - 1 := by rw [List.length_drop, liveUs_len]
  have key : ∀ i, i ≤ n - 1 → (((liveUs hs a n).drop 1).take i).foldl (stepM (liveV hs a o n)) (liveS hs a 0, []) = (liveS hs a i, List.replicate i 0) := by
    intro i
    induction i with
    | zero => intro _; rfl
    | succ i ih =>
      intro hi
      have hg : ((liveUs hs a n).drop 1).getD i default = liveU hs a (i + 1) := by
        rw [List.getD_eq_getElem?_getD, List.getElem?_drop, ← List.getD_eq_getElem?_getD, Nat.add_comm 1 i, liveUs_getD hs a (by omega)]
      rw [play_snoc (by omega), ih (by omega), hg]
      have e := live_step R (o := o) hn (show i + 1 < n by omega) hc
      show (if (applyM _ _ _).2 = 0 then _ else _, _) = _
      rw [e]
      simp only [if_true, List.replicate_succ', if_pos]
  have := key (n - 1) (Nat.le_refl _)
  rwa [← hl, List.take_length, hl] at this
end Lf
end Go.Proofs.Ytnmjpbcbldenmaa

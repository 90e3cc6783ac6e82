/- The laws of package nib: walks of the laws' own functions. -/
import Derived.Test.YtjjakacpdofbbaaNib3
namespace Go.Proofs.Ytjjakacpdofbbaa
open Go.RowKit Rp Rg Ops
namespace Nib

theorem str {w : World} {B n cap : Nat} {a : Option Addr} {l : List UInt8} (hS : Sl w B 1 a n cap (l.map byteV)) :
    (convert 22 9 (.slice a n cap)).run Try.prog w = .ok (.string ⟨l.toArray⟩) w := run_str (E := 5) (by kernel_rfl) (by kernel_rfl) (by kernel_rfl) hS
theorem str' {w : World} {B n cap : Nat} {a : Option Addr} {l : List UInt8} (hS : Sl w B 1 a n cap (l.map byteV)) (hB : B ≤ w.heap.size) : ∀ x : Lt w,
    (convert 22 9 (.slice a n cap)).run Try.prog x.v = .ok (.string ⟨l.toArray⟩) x.v := fun x => str (hS.later (Below.mono x.ext hB))

theorem Tag_ok (w : World) (a : Option Addr) (n cap : Nat) (l : List UInt8) (leaf : Bool) (hS : Sl w w.heap.size 1 a n cap (l.map byteV)) (hn : n ≤ 1073741824) (hb : wrongB l = false) :
    Calls Try.prog 12 #[.slice a n cap, .bool leaf] w fun e w' => ∃ a' m cap', e = .returned (.tuple #[.slice a' m cap', .int .i64 0]) ∧
      Sl w' w'.heap.size 1 a' m cap' ((tagL l leaf).map byteV) ∧ Ext w w' := by
  have fin : ∀ (e : Ending) (w' : World), (∃ v m, e = .returned (.tuple #[v, .int .i64 0]) ∧ w'.ownsRow w.heap.size 5 1 v m ((tagL l leaf).map byteV) ∧ Below w.heap.size w w') →
      ∃ a' m cap', e = .returned (.tuple #[.slice a' m cap', .int .i64 0]) ∧ Sl w' w'.heap.size 1 a' m cap' ((tagL l leaf).map byteV) ∧ Ext w w' := by
    rintro e w' ⟨v, m, rfl, hown, hb⟩
    obtain ⟨a', cap', rfl, h⟩ := Sl.of_own hown
    exact ⟨_, _, _, rfl, h, hb⟩
  rcases Nat.mod_two_eq_zero_or_one n with h | h
  · exact (Tag_even w a n cap l leaf hS hn hb h).mono fin
  · exact (Tag_odd w a n cap l leaf hS hn hb h).mono fin

theorem alive6 (w : World) : Calls Try.prog 9 #[] w fun e w' => e = .returned (.bool true) ∧ Ext w w' := by
  go_enter Try.func9, Try.ntmps9
  go_wp2_with fail
  refine (Tag_ok _ _ 3 3 [1, 2, 3] true (Sl.lit' w _ _ 3 1 _ _ rfl (by simp) rfl (by simp [maxLen])) (by omega) (by decide)).mono ?_
  rintro e w1 ⟨a1, m1, cap1, rfl, hS1, hx1⟩
  go_wp2_with fail
  have hm1 := hS1.len
  refine (Untag_ok w1 a1 m1 cap1 _ hS1 (by rw [← hm1]; decide) (by decide +kernel)).mono ?_
  rintro e w2 ⟨a2, m2, cap2, rfl, hS2, hx2⟩
  have hm2 := hS2.len
  have e1 := str (hS1.mono hx2 hx2.size)
  have e2 := str hS2
  have f1 : tagL [1, 2, 3] true = [49, 35] := by decide +kernel
  have f2 : untagPath (halves (tagL [1, 2, 3] true)) = [1, 2, 3] := by decide +kernel
  have f3 : untagLeaf (halves (tagL [1, 2, 3] true)) = true := by decide +kernel
  rw [f1] at e1
  rw [f2] at e2 hS2 hm2
  rw [f3]
  clear f1 f2 f3 hS1 hm1
  have hC := Common w2 a2 m2 cap2 [1, 2, 3] a2 m2 cap2 [1, 2, 3] hS2 hS2 (by rw [← hm2]; decide) (by rw [← hm2]; decide)
  rw [show common [1, 2, 3] [1, 2, 3] = 3 from by decide] at hC
  clear hm2 hS2
  go_wp2_with (go_at_call 14; refine hC.mono ?_; rintro e w3 ⟨rfl, hx3⟩)
  go_ret
  exact ⟨rfl, (((Below.refl _ _).alloc (Nat.le_refl _) _).trans (Below.mono hx1 (by simp))).trans (Below.mono (Ext.trans hx2 hx3) (by have := hx1.size; simp at this; omega))⟩

theorem Halves' (w : World) (a : Option Addr) (n cap : Nat) (l : List UInt8) (hS : Sl w w.heap.size 1 a n cap (l.map byteV)) (hn : n ≤ 2147483647) :
    Calls Try.prog 10 #[.slice a n cap] w fun e w' => ∃ a' cap', e = .returned (.slice a' (2 * n) cap') ∧ Sl w' w'.heap.size 1 a' (2 * n) cap' ((halves l).map byteV) ∧ Ext w w' := by
  refine (Halves w a n cap l hS hn).mono ?_
  rintro e w' ⟨v, rfl, hown, hb⟩
  obtain ⟨a', cap', rfl, h⟩ := Sl.of_own hown
  exact ⟨_, _, rfl, h, hb⟩
theorem Join' (w : World) (a : Option Addr) (n cap : Nat) (l : List UInt8) (hS : Sl w w.heap.size 1 a n cap (l.map byteV)) (hn : n ≤ 2147483647) (hb : badJ l = false) :
    Calls Try.prog 11 #[.slice a n cap] w fun e w' => ∃ a' m cap', e = .returned (.tuple #[.slice a' m cap', .int .i64 0]) ∧
      Sl w' w'.heap.size 1 a' m cap' ((pairs l).map byteV) ∧ Ext w w' := by
  refine (Join_ok w a n cap l hS hn hb).mono ?_
  rintro e w' ⟨v, rfl, hown, hb⟩
  obtain ⟨a', cap', rfl, h⟩ := Sl.of_own hown
  exact ⟨_, _, _, rfl, h, hb⟩

theorem halves_small (l : List UInt8) : wrongB (halves l) = false := by
  induction l with
  | nil => rfl
  | cons x r ih =>
    unfold wrongB at ih ⊢
    simp only [halves, List.any_cons, ih, Bool.or_false, Bool.or_eq_false_iff, decide_eq_false_iff_not, UInt8.not_lt]
    constructor
    · rw [UInt8.le_iff_toNat_le]
      have := UInt8.toNat_lt x
      simp [Nat.shiftRight_eq_div_pow]
      omega
    · rw [UInt8.le_iff_toNat_le]
      have : (x &&& 15).toNat ≤ 15 := by simp; exact Nat.and_le_right
      exact this
theorem badJ_halves (l : List UInt8) : badJ (halves l) = false := by
  unfold badJ
  rw [halves_small, halves_len]
  simp
theorem join_byte (x : UInt8) : (x >>> 4) <<< 4 ||| (x &&& 15) = x := by
  have : ∀ y : BitVec 8, (y >>> 4) <<< 4 ||| (y &&& 15) = y := by decide
  have h := this x.toBitVec
  exact UInt8.toBitVec_inj.1 (by simpa using h)
theorem pairs_halves (l : List UInt8) : pairs (halves l) = l := by
  induction l with
  | nil => rfl
  | cons x r ih => simp [halves, pairs, ih, join_byte]

theorem badJ_cons2 {x y : UInt8} {r : List UInt8} (h : badJ (x :: y :: r) = false) : x.toNat ≤ 15 ∧ y.toNat ≤ 15 ∧ badJ r = false := by
  simp only [badJ, wrongB, Bool.or_eq_false_iff, beq_eq_false_iff_ne, List.any_cons, decide_eq_false_iff_not, UInt8.not_lt, UInt8.le_iff_toNat_le, List.length_cons] at h ⊢
  obtain ⟨h1, h2, h3, h4⟩ := h
  exact ⟨by simpa using h2, by simpa using h3, by omega, h4⟩

theorem halves_pairs : ∀ (n : Nat) (p : List UInt8), p.length ≤ n → badJ p = false → halves (pairs p) = p
  | _, [], _, _ => rfl
  | _, [x], _, h => by simp [badJ] at h
  | 0, _ :: _ :: _, h, _ => by simp at h
  | n + 1, x :: y :: r, hn, h => by
    obtain ⟨hx, hy, hr⟩ := badJ_cons2 h
    have ih := halves_pairs n r (by simp at hn; omega) hr
    have e : (x <<< 4 ||| y).toNat = x.toNat * 16 + y.toNat := by
      rw [UInt8.toNat_or, UInt8.toNat_shiftLeft]
      have : (4 : UInt8).toNat % 8 = 4 := by decide
      rw [this, Nat.shiftLeft_eq, Nat.mod_eq_of_lt (by omega)]
      exact nat_join 4 _ _ (by omega) (by omega)
    have e1 : (x <<< 4 ||| y) >>> 4 = x := by
      refine UInt8.toNat_inj.1 ?_
      rw [UInt8.toNat_shiftRight, e]
      have : (4 : UInt8).toNat % 8 = 4 := by decide
      rw [this, Nat.shiftRight_eq_div_pow]
      omega
    have e2 : (x <<< 4 ||| y) &&& 15 = y := by
      refine UInt8.toNat_inj.1 ?_
      rw [UInt8.toNat_and, e]
      have : (15 : UInt8).toNat = 15 := by decide
      rw [this, nat_mask4]
      omega
    simp [pairs, halves, ih, e1, e2]

theorem byte_lt_iff (x y : UInt8) : x < y ↔ (x >>> 4 < y >>> 4 ∨ (x >>> 4 = y >>> 4 ∧ x &&& 15 < y &&& 15)) := by
  have h4 : (4 : UInt8).toNat % 8 = 4 := by decide
  have h15 : (15 : UInt8).toNat = 15 := by decide
  simp only [UInt8.lt_iff_toNat_lt, ← UInt8.toNat_inj, UInt8.toNat_shiftRight, UInt8.toNat_and, h4, h15, nat_mask4, Nat.shiftRight_eq_div_pow]
  omega
theorem byte_eq_iff (x y : UInt8) : x = y ↔ (x >>> 4 = y >>> 4 ∧ x &&& 15 = y &&& 15) := by
  have h4 : (4 : UInt8).toNat % 8 = 4 := by decide
  have h15 : (15 : UInt8).toNat = 15 := by decide
  simp only [← UInt8.toNat_inj, UInt8.toNat_shiftRight, UInt8.toNat_and, h4, h15, nat_mask4, Nat.shiftRight_eq_div_pow]
  omega
theorem less_halves : ∀ (a b : List UInt8), Op.bytesLess (halves a) (halves b) = Op.bytesLess a b
  | [], [] => rfl
  | _ :: _, [] => rfl
  | [], _ :: _ => rfl
  | x :: a, y :: b => by
    have ih := less_halves a b
    simp only [halves, Op.bytesLess, ih]
    rw [Bool.eq_iff_iff]
    simp only [Bool.or_eq_true, Bool.and_eq_true, decide_eq_true_eq, beq_iff_eq]
    rw [byte_lt_iff x y, byte_eq_iff x y]
    constructor
    · rintro (h | ⟨h1, h2 | ⟨h2, h3⟩⟩)
      · exact .inl (.inl h)
      · exact .inl (.inr ⟨h1, h2⟩)
      · exact .inr ⟨⟨h1, h2⟩, h3⟩
    · rintro ((h | ⟨h1, h2⟩) | ⟨⟨h1, h2⟩, h3⟩)
      · exact .inl h
      · exact .inr ⟨h1, .inl h2⟩
      · exact .inr ⟨h1, .inr ⟨h2, h3⟩⟩

set_option maxHeartbeats 1000000 in
theorem NibBack_walk (w : World) (a : Option Addr) (n cap : Nat) (la : List UInt8) (b : Option Addr) (m capb : Nat) (lb : List UInt8) (p : Option Addr) (r capp : Nat) (lp : List UInt8)
    (hA : Sl w w.heap.size 1 a n cap (la.map byteV)) (hB : Sl w w.heap.size 1 b m capb (lb.map byteV)) (hP : Sl w w.heap.size 1 p r capp (lp.map byteV))
    (hn : n ≤ 1048576) (hm : m ≤ 1048576) (hr : r ≤ 1048576) :
    Calls Try.prog 3 #[.slice a n cap, .slice b m capb, .slice p r capp] w fun e w' => e = .returned (.bool true) ∧ Ext w w' := by
  have hbl := less_halves la lb
  go_enter Try.func3, Try.ntmps3
  go_wp2_with fail
  refine (alive6 w).mono ?_
  rintro e w1 ⟨rfl, hx1⟩
  go_wp2_with fail
  refine (Halves' w1 a n cap la (Sl.lt hA hx1) (by omega)).mono ?_
  rintro e w2 ⟨ax, cx, rfl, hX, hx2⟩
  go_wp2_with fail
  refine (Halves' w2 b m capb lb (Sl.lt hB (hx1.trans hx2)) (by omega)).mono ?_
  rintro e w3 ⟨ay, cy, rfl, hY, hx3⟩
  go_wp2_with fail
  refine (Join' w3 ax (2 * n) cx _ (Sl.lt hX hx3) (by omega) (badJ_halves la)).mono ?_
  rintro e w4 ⟨al, ml, cl, rfl, hL, hx4⟩
  rw [pairs_halves] at hL
  by_cases hj : badJ lp = true
  · go_wp2_with fail
    refine (Join_bad w4 p r capp lp (Sl.lt hP (((hx1.trans hx2).trans hx3).trans hx4)) (by omega) hj).mono ?_
    rintro e w5 ⟨rfl, rfl⟩
    go_wp2
    refine Rg.region [([0, 1, 2, 3, 4, 5, 6, 7, 8, 9, 10, 11, 12, 13, 16, 17], 14)] [15, 18, 19, 20, 21, 22, 23, 24, 25, 26, 27, 28, 29, 30, 31, 32, 33, 34] [] (by kernel_rfl) (by kernel_rfl) fun w' hw' => ?_
    have sl := str' (Sl.lt hL hw') (Nat.le_refl _)
    have sa := str' (Sl.lt hA ((((hx1.trans hx2).trans hx3).trans hx4).trans hw')) (Nat.le_refl _)
    have sb := str' (Sl.lt hB ((((hx1.trans hx2).trans hx3).trans hx4).trans hw')) (Nat.le_refl _)
    have sx := str' (Sl.lt hX ((hx3.trans hx4).trans hw')) (Nat.le_refl _)
    have sy := str' (Sl.lt hY (hx4.trans hw')) (Nat.le_refl _)
    simp only [Rg.walk, Rg.pick, Rg.nth, List.map_cons, List.map_nil]
    repeat (go_big_quiet_step (fail))
    refine wpQuiet_nil ?_
    go_wp2
    refine ⟨Ext.refl _, ?_⟩
    repeat (go_big_quiet_step (fail))
    refine wpQuiet_nil ?_
    go_wp2
    go_ret
    exact ⟨rfl, (((hx1.trans hx2).trans hx3).trans hx4).trans hw'⟩
  · have hj' : badJ lp = false := by simpa using hj
    have hpp := halves_pairs _ lp (Nat.le_refl _) hj'
    go_wp2_with fail
    refine (Join' w4 p r capp lp (Sl.lt hP (((hx1.trans hx2).trans hx3).trans hx4)) (by omega) hj').mono ?_
    rintro e w5 ⟨am, mm, cm, rfl, hM, hx5⟩
    have hmm := hM.len
    have hpl := hP.len
    have hmm2 : mm ≤ 1048576 := by have := halves_len (pairs lp); rw [hpp] at this; omega
    have hC := fun w' (hw' : Ext w5 w') => Halves' w' am mm cm (pairs lp) (Sl.lt hM hw') (by omega)
    have hx5' := (((hx1.trans hx2).trans hx3).trans hx4).trans hx5
    rw [hpp] at hC
    go_wp2
    refine Rg.region [([0, 1, 2, 3, 4, 5, 6, 7, 8, 9, 10, 11, 12, 13, 16, 17], 14)] [15, 18, 19, 20, 21, 22, 23, 24, 25, 26, 27, 28, 29, 30, 31, 32, 33, 34] [] (by kernel_rfl) (by kernel_rfl) fun w' hw' => ?_
    have sl := str' (Sl.lt hL (hx5.trans hw')) (Nat.le_refl _)
    have sa := str' (Sl.lt hA (hx5'.trans hw')) (Nat.le_refl _)
    have sp := str' (Sl.lt hP (hx5'.trans hw')) (Nat.le_refl _)
    simp only [Rg.walk, Rg.pick, Rg.nth, List.map_cons, List.map_nil]
    repeat (go_big_quiet_step (fail))
    refine wpQuiet_nil ?_
    clear sl sa
    go_wp2_with (go_at_call 10; refine (hC w' hw').mono ?_; rintro e w6 ⟨ah, ch, rfl, hH, hx6⟩)
    refine ⟨hx6, ?_⟩
    have hx6' := (hx5'.trans hw').trans hx6
    have sa := str' (Sl.lt hA hx6') (Nat.le_refl _)
    have sb := str' (Sl.lt hB hx6') (Nat.le_refl _)
    have sx := str' (Sl.lt hX ((((hx3.trans hx4).trans hx5).trans hw').trans hx6)) (Nat.le_refl _)
    have sy := str' (Sl.lt hY (((hx4.trans hx5).trans hw').trans hx6)) (Nat.le_refl _)
    have sh := str' hH (Nat.le_refl _)
    repeat (go_big_quiet_step (fail))
    refine wpQuiet_nil ?_
    go_wp2
    go_ret
    exact ⟨rfl, hx6'⟩
end Nib
end Go.Proofs.Ytjjakacpdofbbaa

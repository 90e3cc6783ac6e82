/- Walks of package nib: Tag, Untag, Common. -/
import Derived.Test.YtjjakacpdofbbaaNib
namespace Go.Proofs.Ytjjakacpdofbbaa
open Go.RowKit Rp Rg Ops
namespace Nib

/-- The first half byte of a tag. -/
def tagHead (odd leaf : Bool) : UInt8 := (if odd then 1 else 0) + (if leaf then 2 else 0)
def tagL (l : List UInt8) (leaf : Bool) : List UInt8 := pairs (tagHead (l.length % 2 == 1) leaf :: (if l.length % 2 == 1 then l else 0 :: l))

theorem Tag_bad (w : World) (a : Option Addr) (n cap : Nat) (l : List UInt8) (leaf : Bool) (hS : Sl w w.heap.size 1 a n cap (l.map byteV)) (hn : n ≤ 1073741824) (hb : wrongB l = true) :
    Calls Try.prog 12 #[.slice a n cap, .bool leaf] w fun e w' => e = .returned (.tuple #[.slice none 0 0, .int .i64 1]) ∧ w = w' := by
  have hC := wrong w a n cap l hS (by omega)
  rw [hb] at hC
  go_enter Try.func12, Try.ntmps12
  go_wp2_with (go_at_call 21; refine hC.mono ?_; rintro e w' ⟨rfl, rfl⟩)
  go_ret2
  exact ⟨rfl, rfl⟩

theorem badJ_tag (l : List UInt8) (leaf : Bool) (hb : wrongB l = false) : badJ (tagHead (l.length % 2 == 1) leaf :: (if l.length % 2 == 1 then l else 0 :: l)) = false := by
  have h1 : wrongB (tagHead (l.length % 2 == 1) leaf :: (if l.length % 2 == 1 then l else 0 :: l)) = false := by
    unfold wrongB at hb ⊢
    have ht : decide (15 < tagHead (l.length % 2 == 1) leaf) = false := by
      cases (l.length % 2 == 1) <;> cases leaf <;> decide
    rw [List.any_cons, ht]
    split
    · simpa using hb
    · simp only [List.any_cons, hb]
      decide
  unfold badJ
  rw [h1, Bool.or_false, beq_eq_false_iff_ne]
  split
  · rename_i h; simp at h ⊢; omega
  · rename_i h; simp at h ⊢; omega

set_option maxHeartbeats 400000 in
theorem Tag_odd (w : World) (a : Option Addr) (n cap : Nat) (l : List UInt8) (leaf : Bool) (hS : Sl w w.heap.size 1 a n cap (l.map byteV)) (hn : n ≤ 1073741824) (hb : wrongB l = false) (hodd : n % 2 = 1) :
    Calls Try.prog 12 #[.slice a n cap, .bool leaf] w fun e w' => ∃ v m, e = .returned (.tuple #[v, .int .i64 0]) ∧
      w'.ownsRow w.heap.size 5 1 v m ((tagL l leaf).map byteV) ∧ Below w.heap.size w w' := by
  have hC := wrong w a n cap l hS (by omega)
  rw [hb] at hC
  have hnl := hS.len
  have hbj := badJ_tag l leaf hb
  have e1 : (l.length % 2 == 1) = true := by rw [hnl, hodd]; rfl
  have hT : tagL l leaf = pairs (tagHead true leaf :: l) := by unfold tagL; rw [e1]; rfl
  rw [e1] at hbj
  have HB : Hid (badJ (tagHead true leaf :: l) = false) := hbj
  have HT := Lib.hid hT
  have ho : (n : Int) % 2 = 1 := by omega
  clear hbj e1 hT hodd
  cases leaf
  · go_enter Try.func12, Try.ntmps12
    go_wp2_with (first | (go_at_call 21; refine hC.mono ?_; rintro e w' ⟨rfl, rfl⟩) | (refine app (o := ⟨some 28, _, _, _, _, _⟩) elB rfl _ _ rfl rfl (own_lit' w _ _ _ 1 _ w.heap.size rfl (Nat.le_refl _) rfl (by simp [maxLen])) rfl (hS.later ((Below.refl _ _).alloc (Nat.le_refl _) _)) (bytes_oneCell l) (by omega) (by omega) (by simp) ?_; intro v1 w1 hown1 hg1))
    have hg2 := hg1.row (k := some w.heap.size) rfl
    have hb1 : Below w.heap.size w w1 := ((Below.refl _ _).alloc (Nat.le_refl _) _).grown hg2 (by simp) (fun k hk => by cases hk; exact Nat.le_refl _)
    have hown2 : w1.ownsRow w.heap.size 5 1 v1 (1 + n) ((tagHead true false :: l).map byteV) := hown1
    clear hg1 hg2 hown1 hC
    obtain ⟨a1, cap1, rfl, hS1⟩ := Sl.of_own hown2
    refine (Join_ok w1 a1 _ cap1 _ hS1 (by omega) HB.out).mono ?_
    rintro e w2 ⟨v, rfl, hown3, hb3⟩
    clear hown2 hS1
    go_wp2
    go_ret2
    exact ⟨_, _, rfl, by rw [HT.out]; exact hown3.base hb1.size, hb1.trans (hb3.mono hb1.size)⟩
  · go_enter Try.func12, Try.ntmps12
    go_wp2_with (first | (go_at_call 21; refine hC.mono ?_; rintro e w' ⟨rfl, rfl⟩) | (refine app (o := ⟨some 28, _, _, _, _, _⟩) elB rfl _ _ rfl rfl (own_lit' w _ _ _ 1 _ w.heap.size rfl (Nat.le_refl _) rfl (by simp [maxLen])) rfl (hS.later ((Below.refl _ _).alloc (Nat.le_refl _) _)) (bytes_oneCell l) (by omega) (by omega) (by simp) ?_; intro v1 w1 hown1 hg1))
    have hg2 := hg1.row (k := some w.heap.size) rfl
    have hb1 : Below w.heap.size w w1 := ((Below.refl _ _).alloc (Nat.le_refl _) _).grown hg2 (by simp) (fun k hk => by cases hk; exact Nat.le_refl _)
    have hown2 : w1.ownsRow w.heap.size 5 1 v1 (1 + n) ((tagHead true true :: l).map byteV) := hown1
    clear hg1 hg2 hown1 hC
    obtain ⟨a1, cap1, rfl, hS1⟩ := Sl.of_own hown2
    refine (Join_ok w1 a1 _ cap1 _ hS1 (by omega) HB.out).mono ?_
    rintro e w2 ⟨v, rfl, hown3, hb3⟩
    clear hown2 hS1
    go_wp2
    go_ret2
    exact ⟨_, _, rfl, by rw [HT.out]; exact hown3.base hb1.size, hb1.trans (hb3.mono hb1.size)⟩

set_option maxHeartbeats 400000 in
theorem Tag_even (w : World) (a : Option Addr) (n cap : Nat) (l : List UInt8) (leaf : Bool) (hS : Sl w w.heap.size 1 a n cap (l.map byteV)) (hn : n ≤ 1073741824) (hb : wrongB l = false) (hodd : n % 2 = 0) :
    Calls Try.prog 12 #[.slice a n cap, .bool leaf] w fun e w' => ∃ v m, e = .returned (.tuple #[v, .int .i64 0]) ∧
      w'.ownsRow w.heap.size 5 1 v m ((tagL l leaf).map byteV) ∧ Below w.heap.size w w' := by
  have hC := wrong w a n cap l hS (by omega)
  rw [hb] at hC
  have hnl := hS.len
  have hbj := badJ_tag l leaf hb
  have e1 : (l.length % 2 == 1) = false := by rw [hnl, hodd]; rfl
  have hT : tagL l leaf = pairs (tagHead false leaf :: 0 :: l) := by unfold tagL; rw [e1]; rfl
  rw [e1] at hbj
  have HB : Hid (badJ (tagHead false leaf :: 0 :: l) = false) := hbj
  have HT := Lib.hid hT
  have ho : (n : Int) % 2 = 0 := by omega
  clear hbj e1 hT hodd
  cases leaf
  · go_enter Try.func12, Try.ntmps12
    go_wp2_with (first | (go_at_call 21; refine hC.mono ?_; rintro e w' ⟨rfl, rfl⟩) | (refine app (o := ⟨some 25, _, _, _, _, _⟩) elB rfl _ _ rfl rfl ((own_lit' w _ _ _ 1 _ w.heap.size rfl (Nat.le_refl _) rfl (by simp [maxLen])).alloc _) rfl (Sl.lit' _ _ _ _ 1 _ _ (by simp) (Nat.lt_succ_self _) rfl (by simp [maxLen])) (by simp [Value.oneCell']) (by omega) (by omega) (by simp; omega) ?_; intro v0 w0 hown0 hg0; have hb0 := (((Below.refl w.heap.size w).alloc (Nat.le_refl _) _).alloc (by simp) _).grown (hg0.row (k := some w.heap.size) rfl) (by simp; omega) (fun k hk => by cases hk; exact Nat.le_refl _)) | (refine app (o := ⟨some 28, _, _, _, _, _⟩) elB rfl _ _ rfl rfl hown0 rfl (hS.later hb0) (bytes_oneCell l) (by omega) (by omega) hb0.size ?_; intro v1 w1 hown1 hg1))
    have hb1 : Below w.heap.size w w1 := hb0.grown hg1 hb0.size (fun k hk => (hown0.lt k hk).1)
    have hown2 : w1.ownsRow w.heap.size 5 1 v1 (2 + n) ((tagHead false false :: 0 :: l).map byteV) := hown1
    clear hg1 hg0 hown1 hown0 hC hb0
    obtain ⟨a1, cap1, rfl, hS1⟩ := Sl.of_own hown2
    refine (Join_ok w1 a1 _ cap1 _ hS1 (by omega) HB.out).mono ?_
    rintro e w2 ⟨v, rfl, hown3, hb3⟩
    clear hown2 hS1
    go_wp2
    go_ret2
    exact ⟨_, _, rfl, by rw [HT.out]; exact hown3.base hb1.size, hb1.trans (hb3.mono hb1.size)⟩
  · go_enter Try.func12, Try.ntmps12
    go_wp2_with (first | (go_at_call 21; refine hC.mono ?_; rintro e w' ⟨rfl, rfl⟩) | (refine app (o := ⟨some 25, _, _, _, _, _⟩) elB rfl _ _ rfl rfl ((own_lit' w _ _ _ 1 _ w.heap.size rfl (Nat.le_refl _) rfl (by simp [maxLen])).alloc _) rfl (Sl.lit' _ _ _ _ 1 _ _ (by simp) (Nat.lt_succ_self _) rfl (by simp [maxLen])) (by simp [Value.oneCell']) (by omega) (by omega) (by simp; omega) ?_; intro v0 w0 hown0 hg0; have hb0 := (((Below.refl w.heap.size w).alloc (Nat.le_refl _) _).alloc (by simp) _).grown (hg0.row (k := some w.heap.size) rfl) (by simp; omega) (fun k hk => by cases hk; exact Nat.le_refl _)) | (refine app (o := ⟨some 28, _, _, _, _, _⟩) elB rfl _ _ rfl rfl hown0 rfl (hS.later hb0) (bytes_oneCell l) (by omega) (by omega) hb0.size ?_; intro v1 w1 hown1 hg1))
    have hb1 : Below w.heap.size w w1 := hb0.grown hg1 hb0.size (fun k hk => (hown0.lt k hk).1)
    have hown2 : w1.ownsRow w.heap.size 5 1 v1 (2 + n) ((tagHead false true :: 0 :: l).map byteV) := hown1
    clear hg1 hg0 hown1 hown0 hC hb0
    obtain ⟨a1, cap1, rfl, hS1⟩ := Sl.of_own hown2
    refine (Join_ok w1 a1 _ cap1 _ hS1 (by omega) HB.out).mono ?_
    rintro e w2 ⟨v, rfl, hown3, hb3⟩
    clear hown2 hS1
    go_wp2
    go_ret2
    exact ⟨_, _, rfl, by rw [HT.out]; exact hown3.base hb1.size, hb1.trans (hb3.mono hb1.size)⟩

end Nib
end Go.Proofs.Ytjjakacpdofbbaa

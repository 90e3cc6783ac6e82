/- The laws NibMost and NibTagBack: walks of the laws' own functions. -/
import Derived.Test.YtjjakacpdofbbaaNibLaws
namespace Go.Proofs.Ytjjakacpdofbbaa
open Go.RowKit Rp Rg Ops
namespace Nib
theorem common_comm : ∀ (p q : List UInt8), common p q = common q p
  | [], [] => rfl
  | [], _ :: _ => rfl
  | _ :: _, [] => rfl
  | x :: p, y :: q => by
    by_cases e : x = y
    · subst e; simp [common, common_comm p q]
    · simp [common, e, Ne.symm e]
theorem common_take : ∀ (p q : List UInt8), p.take (common p q) = q.take (common p q)
  | [], _ => by simp [common]
  | _ :: _, [] => by simp [common]
  | x :: p, y :: q => by
    by_cases e : x = y
    · subst e; simp [common, common_take p q]
    · simp [common, e]

theorem NibMost_walk (w : World) (a : Option Addr) (n cap : Nat) (p : List UInt8) (b : Option Addr) (m cap2 : Nat) (q : List UInt8)
    (hP : Sl w w.heap.size 1 a n cap (p.map byteV)) (hQ : Sl w w.heap.size 1 b m cap2 (q.map byteV)) (hn : n ≤ 1048576) (hm : m ≤ 1048576) :
    Calls Try.prog 5 #[.slice a n cap, .slice b m cap2] w fun e w' => e = .returned (.bool true) ∧ Ext w w' := by
  have hpl := hP.len
  have hql := hQ.len
  have hle := common_le p q
  go_enter Try.func5, Try.ntmps5
  go_wp2_with fail
  refine (alive6 w).mono ?_
  rintro e w1 ⟨rfl, hx1⟩
  go_wp2_with fail
  refine (Common w1 a n cap p b m cap2 q (Sl.lt hP hx1) (Sl.lt hQ hx1) (by omega) (by omega)).mono ?_
  rintro e w2 ⟨rfl, hx2⟩
  have hC := fun w' (hw' : Ext w2 w') => Common w' b m cap2 q a n cap p (Sl.lt hQ ((hx1.trans hx2).trans hw')) (Sl.lt hP ((hx1.trans hx2).trans hw')) (by omega) (by omega)
  rw [common_comm q p] at hC
  have htk := common_take p q
  generalize hk : common p q = k at *
  have HK := Lib.hid hk
  have HT := Lib.hid htk
  clear hk htk
  have d0 : decide ((k : Int) < 0) = false := by simp
  have d1 : decide (n < k) = false := by simp; omega
  have d2 : decide (m < k) = false := by simp; omega
  have k0 : (0 : Int) ≤ (k : Int) := by omega
  have k1 : (k : Int) ≤ (cap : Int) := by have := hP.2.1; omega
  have k2 : (k : Int) ≤ (cap2 : Int) := by have := hQ.2.1; omega
  go_wp2
  refine Rg.region [([0, 1, 2, 3, 4, 5], 6)] [7, 8, 9, 10, 11, 12, 13, 14, 15, 16, 17, 18, 19, 20, 21, 22, 23, 24, 25, 26, 27, 28, 29, 30, 31] [] (by kernel_rfl) (by kernel_rfl) fun w' hw' => ?_
  simp only [Rg.walk, Rg.pick, Rg.nth, List.map_cons, List.map_nil]
  repeat (go_big_quiet_step (fail))
  refine wpQuiet_nil ?_
  go_wp2_with (go_at_call 14; refine (hC w' hw').mono ?_; rintro e w3 ⟨rfl, hx3⟩)
  refine ⟨hx3, ?_⟩
  have hx := ((hx1.trans hx2).trans hw').trans hx3
  have hPk : Sl w3 w3.heap.size 1 a k cap ((p.take k).map byteV) := by simpa using (Sl.lt hP hx).take (k := k) (by omega)
  have hQk : Sl w3 w3.heap.size 1 b k cap2 ((q.take k).map byteV) := by simpa using (Sl.lt hQ hx).take (k := k) (by omega)
  have sp := str' hPk (Nat.le_refl _)
  have sq := str' hQk (Nat.le_refl _)
  rw [← HT.out] at sq
  repeat (go_big_quiet_step (fail))
  refine wpQuiet_nil ?_
  clear sp sq hC
  have hP3 := Sl.lt hP hx
  have hQ3 := Sl.lt hQ hx
  by_cases e1 : k = n
  · subst e1
    go_wp2
    refine Rg.region [] [0, 1, 2, 3, 4, 5, 6, 7, 8, 9, 10, 11, 12, 13, 14, 15, 16, 17, 18, 19, 20, 21] [] (by kernel_rfl) (by kernel_rfl) fun w4 hw4 => ?_
    simp only [Rg.walk, Rg.pick, Rg.nth, List.map_nil]
    repeat (go_big_quiet_step (fail))
    refine wpQuiet_nil ?_
    go_wp2
    go_ret
    exact ⟨rfl, hx.trans hw4⟩
  · have b1 : ((k : Int) == (n : Int)) = false := by simp; omega
    by_cases e2 : k = m
    · subst e2
      go_wp2
      refine Rg.region [] [0, 1, 2, 3, 4, 5, 6, 7, 8, 9, 10, 11, 12, 13, 14, 15, 16, 17, 18, 19, 20, 21] [] (by kernel_rfl) (by kernel_rfl) fun w4 hw4 => ?_
      simp only [Rg.walk, Rg.pick, Rg.nth, List.map_nil]
      repeat (go_big_quiet_step (fail))
      refine wpQuiet_nil ?_
      go_wp2
      go_ret
      exact ⟨rfl, hx.trans hw4⟩
    · have b2 : ((k : Int) == (m : Int)) = false := by simp; omega
      obtain ⟨ba, oa, rfl, _, hc1⟩ := hP3.cell (i := k) (by omega)
      obtain ⟨bb, ob, rfl, _, hc2⟩ := hQ3.cell (i := k) (by omega)
      have hne : ((p[k].toNat : Int) != (q[k].toNat : Int)) = true := by
        have hk := HK.out
        subst hk
        rw [bne_iff_ne]
        intro h
        exact common_at p q (by omega) (by omega) (UInt8.toNat_inj.1 (by omega))
      have k3 : (k : Int) < (n : Int) := by omega
      have k4 : (k : Int) < (m : Int) := by omega
      go_wp2
      refine Rg.region [] [0, 1, 2, 3, 4, 5, 6, 7, 8, 9, 10, 11, 12, 13, 14, 15, 16, 17, 18, 19, 20, 21] [] (by kernel_rfl) (by kernel_rfl) fun w4 hw4 => ?_
      have c1 := Rg.later (hw4.cell hc1)
      have c2 := Rg.later (hw4.cell hc2)
      simp only [Rg.walk, Rg.pick, Rg.nth, List.map_nil]
      repeat (go_big_quiet_step (fail))
      refine wpQuiet_nil ?_
      go_wp2
      go_ret
      exact ⟨rfl, hx.trans hw4⟩

theorem tag_seq (l : List UInt8) (leaf : Bool) (hb : wrongB l = false) : halves (tagL l leaf) = tagHead (l.length % 2 == 1) leaf :: (if l.length % 2 == 1 then l else 0 :: l) :=
  halves_pairs _ _ (Nat.le_refl _) (badJ_tag l leaf hb)
theorem untag_tag (l : List UInt8) (leaf : Bool) (hb : wrongB l = false) :
    untagBad (halves (tagL l leaf)) = false ∧ untagPath (halves (tagL l leaf)) = l ∧ untagLeaf (halves (tagL l leaf)) = leaf := by
  rw [tag_seq l leaf hb]
  cases ho : (l.length % 2 == 1) with
  | true =>
    cases l with
    | nil => simp at ho
    | cons y r =>
      simp only [if_true, untagBad, untagPath, untagLeaf]
      cases leaf
      · refine ⟨?_, ?_, ?_⟩
        · have h1 : decide (3 < tagHead true false) = false := by decide
          have h2 : (tagHead true false &&& 1 == 0) = false := by decide
          rw [h1, h2]; rfl
        · have h2 : (tagHead true false &&& 1 == 1) = true := by decide
          rw [h2]; rfl
        · decide
      · refine ⟨?_, ?_, ?_⟩
        · have h1 : decide (3 < tagHead true true) = false := by decide
          have h2 : (tagHead true true &&& 1 == 0) = false := by decide
          rw [h1, h2]; rfl
        · have h2 : (tagHead true true &&& 1 == 1) = true := by decide
          rw [h2]; rfl
        · decide
  | false =>
    simp only [Bool.false_eq_true, if_false, untagBad, untagPath, untagLeaf]
    cases leaf
    · exact ⟨by decide, by have h2 : (tagHead false false &&& 1 == 1) = false := by decide
                           rw [h2]; rfl, by decide⟩
    · exact ⟨by decide, by have h2 : (tagHead false true &&& 1 == 1) = false := by decide
                           rw [h2]; rfl, by decide⟩

theorem untagPath_len : ∀ h : List UInt8, (untagPath h).length ≤ h.length
  | [] => by simp [untagPath]
  | [_] => by simp [untagPath]
  | x :: y :: r => by simp only [untagPath]; split <;> simp <;> omega

theorem wrong_cons {x : UInt8} {r : List UInt8} (h : wrongB (x :: r) = false) : wrongB r = false := by
  unfold wrongB at h ⊢
  simp only [List.any_cons, Bool.or_eq_false_iff] at h
  exact h.2

theorem tag_untag (b : List UInt8) (hb : untagBad (halves b) = false) : wrongB (untagPath (halves b)) = false ∧ tagL (untagPath (halves b)) (untagLeaf (halves b)) = b := by
  have hw := halves_small b
  have hp := pairs_halves b
  have hl := halves_len b
  generalize halves b = h at *
  match h, hb with
  | [], hb => simp [untagBad] at hb
  | [_], hb => simp [untagBad] at hb
  | x :: y :: r, hb =>
    have hr2 : r.length % 2 = 0 := by simp at hl; omega
    have w1 := wrong_cons hw
    have w2 := wrong_cons w1
    simp only [untagBad, Bool.or_eq_false_iff, Bool.and_eq_false_iff, decide_eq_false_iff_not] at hb
    obtain ⟨h3, h4⟩ := hb
    have hx : x = 0 ∨ x = 1 ∨ x = 2 ∨ x = 3 := by
      have h3 : ¬ 3 < x.toNat := by simpa [UInt8.lt_iff_toNat_lt] using h3
      have : x.toNat = 0 ∨ x.toNat = 1 ∨ x.toNat = 2 ∨ x.toNat = 3 := by omega
      rcases this with h | h | h | h
      · left; exact UInt8.toNat_inj.1 h
      · right; left; exact UInt8.toNat_inj.1 h
      · right; right; left; exact UInt8.toNat_inj.1 h
      · right; right; right; exact UInt8.toNat_inj.1 h
    have o1 : ((y :: r).length % 2 == 1) = true := by simp; omega
    have o2 : (r.length % 2 == 1) = false := by rw [hr2]; rfl
    rcases hx with rfl | rfl | rfl | rfl
    · have hy : y = 0 := by
        rcases h4 with h4 | h4
        · exact absurd h4 (by decide)
        · simpa using h4
      subst hy
      have e : untagPath (0 :: 0 :: r) = r := rfl
      rw [e]
      refine ⟨w2, ?_⟩
      unfold tagL
      rw [o2]
      exact hp
    · have e : untagPath (1 :: y :: r) = y :: r := rfl
      rw [e]
      refine ⟨w1, ?_⟩
      unfold tagL
      rw [o1]
      exact hp
    · have hy : y = 0 := by
        rcases h4 with h4 | h4
        · exact absurd h4 (by decide)
        · simpa using h4
      subst hy
      have e : untagPath (2 :: 0 :: r) = r := rfl
      rw [e]
      refine ⟨w2, ?_⟩
      unfold tagL
      rw [o2]
      exact hp
    · have e : untagPath (3 :: y :: r) = y :: r := rfl
      rw [e]
      refine ⟨w1, ?_⟩
      unfold tagL
      rw [o1]
      exact hp

set_option maxHeartbeats 1000000 in
theorem NibTagBack_walk (w : World) (a : Option Addr) (n cap : Nat) (lp : List UInt8) (leaf : Bool) (b : Option Addr) (m capb : Nat) (lb : List UInt8)
    (hP : Sl w w.heap.size 1 a n cap (lp.map byteV)) (hB : Sl w w.heap.size 1 b m capb (lb.map byteV)) (hn : n ≤ 1048576) (hm : m ≤ 1048576) :
    Calls Try.prog 4 #[.slice a n cap, .bool leaf, .slice b m capb] w fun e w' => e = .returned (.bool true) ∧ Ext w w' := by
  have hbl := hB.len
  have hpl := hP.len
  go_enter Try.func4, Try.ntmps4
  go_wp2_with fail
  refine (alive6 w).mono ?_
  rintro e w1 ⟨rfl, hx1⟩
  go_wp2_with fail
  by_cases hw : wrongB lp = true
  · refine (Tag_bad w1 a n cap lp leaf (Sl.lt hP hx1) (by omega) hw).mono ?_
    rintro e w2 ⟨rfl, rfl⟩
    go_wp2_with fail
    refine (Untag_bad w1 none 0 0 [] ⟨rfl, Nat.le_refl _, by simp [maxLen], fun _ => rfl, fun h => by omega⟩ (by omega) rfl).mono ?_
    rintro e w3 ⟨rfl, hx3⟩
    have HX := hx1.trans hx3
    go_wp2_with fail
    by_cases hb : untagBad (halves lb) = true
    · refine (Untag_bad w3 b m capb lb (Sl.lt hB HX) (by omega) hb).mono ?_
      rintro e w7 ⟨rfl, hx7⟩
      go_wp2_with fail
      refine (Tag_ok w7 none 0 0 [] false ⟨rfl, Nat.le_refl _, by simp [maxLen], fun _ => rfl, fun h => by omega⟩ (by omega) (by decide)).mono ?_
      rintro e w8 ⟨a8, m8, c8, rfl, hS8, hx8⟩
      go_wp2
      go_ret
      exact ⟨rfl, (HX.trans hx7).trans hx8⟩
    · have hb' : untagBad (halves lb) = false := by simpa using hb
      obtain ⟨hu1, hu2⟩ := tag_untag lb hb'
      refine (Untag_ok w3 b m capb lb (Sl.lt hB HX) (by omega) hb').mono ?_
      rintro e w7 ⟨a7, m7, c7, rfl, hS7, hx7⟩
      have hl7 := hS7.len
      have hm7 : m7 ≤ 2097152 := by have := untagPath_len (halves lb); rw [halves_len] at this; omega
      go_wp2_with fail
      refine (Tag_ok w7 a7 m7 c7 _ (untagLeaf (halves lb)) hS7 (by omega) hu1).mono ?_
      rintro e w8 ⟨a8, m8, c8, rfl, hS8, hx8⟩
      rw [hu2] at hS8
      have s1 := str hS8
      have s2 := str (Sl.lt hB ((HX.trans hx7).trans hx8))
      clear hS8 hS7 hu1 hu2
      go_wp2
      go_ret
      exact ⟨rfl, (HX.trans hx7).trans hx8⟩
  · have hw' : wrongB lp = false := by simpa using hw
    obtain ⟨t1, t2, t3⟩ := untag_tag lp leaf hw'
    refine (Tag_ok w1 a n cap lp leaf (Sl.lt hP hx1) (by omega) hw').mono ?_
    rintro e w2 ⟨a2, m2, c2, rfl, hS2, hx2⟩
    have hl2 := hS2.len
    have hm2 : m2 ≤ 1048578 := by
      have h := tag_seq lp leaf hw'
      have h2 := halves_len (tagL lp leaf)
      rw [h] at h2
      simp at h2
      split at h2 <;> first | omega | (simp at h2; omega)
    go_wp2_with fail
    refine (Untag_ok w2 a2 m2 c2 _ hS2 (by omega) t1).mono ?_
    rintro e w3 ⟨a3, m3, c3, rfl, hS3, hx3⟩
    rw [t2] at hS3
    rw [t3]
    have HX := (hx1.trans hx2).trans hx3
    have s1 := str hS3
    have s2 := str (Sl.lt hP HX)
    have hlf : (leaf != leaf) = false := by simp
    clear t1 t2 t3 hS2 hS3
    go_wp2_with fail
    clear s1 s2
    by_cases hb : untagBad (halves lb) = true
    · refine (Untag_bad w3 b m capb lb (Sl.lt hB HX) (by omega) hb).mono ?_
      rintro e w7 ⟨rfl, hx7⟩
      go_wp2_with fail
      refine (Tag_ok w7 none 0 0 [] false ⟨rfl, Nat.le_refl _, by simp [maxLen], fun _ => rfl, fun h => by omega⟩ (by omega) (by decide)).mono ?_
      rintro e w8 ⟨a8, m8, c8, rfl, hS8, hx8⟩
      go_wp2
      go_ret
      exact ⟨rfl, (HX.trans hx7).trans hx8⟩
    · have hb' : untagBad (halves lb) = false := by simpa using hb
      obtain ⟨hu1, hu2⟩ := tag_untag lb hb'
      refine (Untag_ok w3 b m capb lb (Sl.lt hB HX) (by omega) hb').mono ?_
      rintro e w7 ⟨a7, m7, c7, rfl, hS7, hx7⟩
      have hl7 := hS7.len
      have hm7 : m7 ≤ 2097152 := by have := untagPath_len (halves lb); rw [halves_len] at this; omega
      go_wp2_with fail
      refine (Tag_ok w7 a7 m7 c7 _ (untagLeaf (halves lb)) hS7 (by omega) hu1).mono ?_
      rintro e w8 ⟨a8, m8, c8, rfl, hS8, hx8⟩
      rw [hu2] at hS8
      have s1 := str hS8
      have s2 := str (Sl.lt hB ((HX.trans hx7).trans hx8))
      clear hS8 hS7 hu1 hu2
      go_wp2
      go_ret
      exact ⟨rfl, (HX.trans hx7).trans hx8⟩
end Nib
end Go.Proofs.Ytjjakacpdofbbaa

/- Walks of package nib: Untag, Common. -/
import Derived.Test.YtjjakacpdofbbaaNib2
namespace Go.Proofs.Ytjjakacpdofbbaa
open Go.RowKit Rp Rg Ops
namespace Nib
def untagBad : List UInt8 → Bool
  | x :: y :: _ => decide (3 < x) || (x &&& 1 == 0 && y != 0)
  | _ => true
def untagPath : List UInt8 → List UInt8
  | x :: y :: r => if x &&& 1 == 1 then y :: r else r
  | _ => []
def untagLeaf : List UInt8 → Bool
  | x :: _ => x &&& 2 != 0
  | _ => false

theorem Untag_bad (w : World) (a : Option Addr) (n cap : Nat) (l : List UInt8) (hS : Sl w w.heap.size 1 a n cap (l.map byteV)) (hn : n ≤ 1073741824) (hb : untagBad (halves l) = true) :
    Calls Try.prog 13 #[.slice a n cap] w fun e w' => e = .returned (.tuple #[.slice none 0 0, .bool false, .int .i64 1]) ∧ Below w.heap.size w w' := by
  have hC := Halves w a n cap l hS (by omega)
  have hnl := hS.len
  cases l with
  | nil =>
    obtain rfl : n = 0 := by simpa using hnl.symm
    go_enter Try.func13, Try.ntmps13
    go_wp2_with (go_at_call 10; refine hC.mono ?_; rintro e w1 ⟨v, rfl, hown, hb1⟩; obtain ⟨a1, cap1, rfl, hS1⟩ := Sl.of_own hown; clear hown)
    go_ret3
    exact ⟨rfl, hb1⟩
  | cons c r =>
    have hn1 : 1 ≤ n := by simp at hnl; omega
    simp only [halves, untagBad, Bool.or_eq_true, Bool.and_eq_true, decide_eq_true_eq, beq_iff_eq, bne_iff_ne] at hb
    generalize hx : c >>> 4 = x at *
    generalize hy : c &&& 15 = y at *
    have hC' : Calls Try.prog 10 #[.slice a n cap] w fun e w' => ∃ g cap', e = .returned (.slice (some ⟨g, 0, none⟩) (2 * n) cap') ∧ 2 * n ≤ cap' ∧ cap' ≤ maxLen ∧
        w'.cell? ⟨g, 0, none⟩ = some (.int .u8 (x.toNat : Int)) ∧ w'.cell? ⟨g, 1, none⟩ = some (.int .u8 (y.toNat : Int)) ∧ Below w.heap.size w w' := by
      refine hC.mono ?_
      rintro e w1 ⟨v, rfl, hown, hb1⟩
      simp only [halves, hx, hy, List.map_cons] at hown
      obtain ⟨g, cap', rfl, h1, h2, h3, h4, h5⟩ := own_pos hown (by omega)
      exact ⟨g, cap', rfl, h1, h2, h5 0 _ rfl, h5 1 _ rfl, hb1⟩
    clear hC
    obtain h | h | h | h | h : x = 0 ∨ x = 1 ∨ x = 2 ∨ x = 3 ∨ 3 < x.toNat := by
      rcases Nat.lt_or_ge 3 x.toNat with h | h
      · simp [h]
      · have : x.toNat = 0 ∨ x.toNat = 1 ∨ x.toNat = 2 ∨ x.toNat = 3 := by omega
        rcases this with h | h | h | h
        · left; exact UInt8.toNat_inj.1 h
        · right; left; exact UInt8.toNat_inj.1 h
        · right; right; left; exact UInt8.toNat_inj.1 h
        · right; right; right; left; exact UInt8.toNat_inj.1 h
    · subst h
      have hy0 : ((y.toNat : Int) != 0) = true := by
        rw [bne_iff_ne]
        intro h0
        exact hb.elim (by simp) fun hh => hh.2 (UInt8.toNat_inj.1 (by simpa using h0))
      clear hb
      go_enter Try.func13, Try.ntmps13
      go_wp2_with (go_at_call 10; refine hC'.mono ?_; rintro e w1 ⟨g, cap', rfl, hcap, hmax, hc0, hc1, hb1⟩)
      go_ret3
      exact ⟨rfl, hb1⟩
    · exact absurd hb (by subst h; simp)
    · subst h
      have hy0 : ((y.toNat : Int) != 0) = true := by
        rw [bne_iff_ne]
        intro h0
        exact hb.elim (by simp) fun hh => hh.2 (UInt8.toNat_inj.1 (by simpa using h0))
      clear hb
      go_enter Try.func13, Try.ntmps13
      go_wp2_with (go_at_call 10; refine hC'.mono ?_; rintro e w1 ⟨g, cap', rfl, hcap, hmax, hc0, hc1, hb1⟩)
      go_ret3
      exact ⟨rfl, hb1⟩
    · exact absurd hb (by subst h; simp; intro hh; exact absurd hh (by decide))
    · clear hb
      go_enter Try.func13, Try.ntmps13
      go_wp2_with (go_at_call 10; refine hC'.mono ?_; rintro e w1 ⟨g, cap', rfl, hcap, hmax, hc0, hc1, hb1⟩)
      go_ret3
      exact ⟨rfl, hb1⟩

set_option maxHeartbeats 800000 in
theorem Untag_ok (w : World) (a : Option Addr) (n cap : Nat) (l : List UInt8) (hS : Sl w w.heap.size 1 a n cap (l.map byteV)) (hn : n ≤ 1073741824) (hb : untagBad (halves l) = false) :
    Calls Try.prog 13 #[.slice a n cap] w fun e w' => ∃ a' m cap', e = .returned (.tuple #[.slice a' m cap', .bool (untagLeaf (halves l)), .int .i64 0]) ∧
      Sl w' w'.heap.size 1 a' m cap' ((untagPath (halves l)).map byteV) ∧ Below w.heap.size w w' := by
  have hC := Halves w a n cap l hS (by omega)
  have hnl := hS.len
  cases l with
  | nil => simp [halves, untagBad] at hb
  | cons c r =>
    have hn1 : 1 ≤ n := by simp at hnl; omega
    simp only [halves, untagBad, Bool.or_eq_false_iff, Bool.and_eq_false_iff, decide_eq_false_iff_not, beq_eq_false_iff_ne, bne_eq_false_iff_eq] at hb
    simp only [halves, untagLeaf, untagPath] at hC ⊢
    generalize hx : c >>> 4 = x at *
    generalize hy : c &&& 15 = y at *
    have hC' : Calls Try.prog 10 #[.slice a n cap] w fun e w' => ∃ g cap', e = .returned (.slice (some ⟨g, 0, none⟩) (2 * n) cap') ∧ 2 * n ≤ cap' ∧ cap' ≤ maxLen ∧
        w'.cell? ⟨g, 0, none⟩ = some (.int .u8 (x.toNat : Int)) ∧ w'.cell? ⟨g, 1, none⟩ = some (.int .u8 (y.toNat : Int)) ∧ Below w.heap.size w w' ∧
        Sl w' w'.heap.size 1 (some ⟨g, 0, none⟩) (2 * n) cap' (byteV x :: byteV y :: (halves r).map byteV) := by
      refine hC.mono ?_
      rintro e w1 ⟨v, rfl, hown, hb1⟩
      simp only [List.map_cons] at hown
      obtain ⟨g, cap', rfl, h1, h2, h3, h4, h5⟩ := own_pos hown (by omega)
      obtain ⟨_, _, hv, hS1⟩ := Sl.of_own hown
      cases hv
      exact ⟨g, cap', rfl, h1, h2, h5 0 _ rfl, h5 1 _ rfl, hb1, hS1⟩
    clear hC hx hy hS
    obtain h | h | h | h : x = 0 ∨ x = 1 ∨ x = 2 ∨ x = 3 := by
      have h3 : ¬ 3 < x.toNat := by simpa [UInt8.lt_iff_toNat_lt] using hb.1
      have : x.toNat = 0 ∨ x.toNat = 1 ∨ x.toNat = 2 ∨ x.toNat = 3 := by omega
      rcases this with h | h | h | h
      · left; exact UInt8.toNat_inj.1 h
      · right; left; exact UInt8.toNat_inj.1 h
      · right; right; left; exact UInt8.toNat_inj.1 h
      · right; right; right; exact UInt8.toNat_inj.1 h
    · subst h
      obtain rfl : y = 0 := hb.2.resolve_left (by decide)
      clear hb
      go_enter Try.func13, Try.ntmps13
      go_wp2_with (go_at_call 10; refine hC'.mono ?_; rintro e w1 ⟨g, cap', rfl, hcap, hmax, hc0, hc1, hb1, hS1⟩)
      refine Rg.region [] [0, 1, 2, 3, 4, 5, 6, 7, 8, 9] [] (by kernel_rfl) (by kernel_rfl) fun w' hw' => ?_
      have c0 := Rg.later (hw'.cell hc0)
      simp only [Rg.walk, Rg.pick, Rg.nth, List.map_nil]
      repeat (go_big_quiet_step (fail))
      refine wpQuiet_nil ?_
      have hS2 := cut_if (hS1.mono hw' hw'.size) (lo := 2) (hi := 2 * n) (by omega) (Nat.le_refl _)
      have hb2 := hb1.trans (Below.mono hw' hb1.size)
      clear hS1 hb1 hC' hc0 hc1 c0 hw'
      go_wp2
      all_goals
        go_ret3
        refine ⟨_, _, _, rfl, ?_, hb2⟩
        rw [List.take_of_length_le (by have := hnl; simp [halves_len] at this ⊢; omega)] at hS2
        simpa [*, Addr.add_lit] using hS2
    · subst h
      clear hb
      go_enter Try.func13, Try.ntmps13
      go_wp2_with (go_at_call 10; refine hC'.mono ?_; rintro e w1 ⟨g, cap', rfl, hcap, hmax, hc0, hc1, hb1, hS1⟩)
      refine Rg.region [] [0, 1, 2, 3, 4, 5, 6, 7, 8, 9] [] (by kernel_rfl) (by kernel_rfl) fun w' hw' => ?_
      have c0 := Rg.later (hw'.cell hc0)
      simp only [Rg.walk, Rg.pick, Rg.nth, List.map_nil]
      repeat (go_big_quiet_step (fail))
      refine wpQuiet_nil ?_
      have hS2 := cut_if (hS1.mono hw' hw'.size) (lo := 1) (hi := 2 * n) (by omega) (Nat.le_refl _)
      rw [if_neg (by omega)] at hS2
      have hb2 := hb1.trans (Below.mono hw' hb1.size)
      clear hS1 hb1 hC' hc0 hc1 c0 hw'
      go_wp2
      all_goals
        go_ret3
        refine ⟨_, _, _, rfl, ?_, hb2⟩
        rw [List.take_of_length_le (by have := hnl; simp [halves_len] at this ⊢; omega)] at hS2
        simpa [*, Addr.add_lit] using hS2
    · subst h
      obtain rfl : y = 0 := hb.2.resolve_left (by decide)
      clear hb
      go_enter Try.func13, Try.ntmps13
      go_wp2_with (go_at_call 10; refine hC'.mono ?_; rintro e w1 ⟨g, cap', rfl, hcap, hmax, hc0, hc1, hb1, hS1⟩)
      refine Rg.region [] [0, 1, 2, 3, 4, 5, 6, 7, 8, 9] [] (by kernel_rfl) (by kernel_rfl) fun w' hw' => ?_
      have c0 := Rg.later (hw'.cell hc0)
      simp only [Rg.walk, Rg.pick, Rg.nth, List.map_nil]
      repeat (go_big_quiet_step (fail))
      refine wpQuiet_nil ?_
      have hS2 := cut_if (hS1.mono hw' hw'.size) (lo := 2) (hi := 2 * n) (by omega) (Nat.le_refl _)
      have hb2 := hb1.trans (Below.mono hw' hb1.size)
      clear hS1 hb1 hC' hc0 hc1 c0 hw'
      go_wp2
      all_goals
        go_ret3
        refine ⟨_, _, _, rfl, ?_, hb2⟩
        rw [List.take_of_length_le (by have := hnl; simp [halves_len] at this ⊢; omega)] at hS2
        simpa [*, Addr.add_lit] using hS2
    · subst h
      clear hb
      go_enter Try.func13, Try.ntmps13
      go_wp2_with (go_at_call 10; refine hC'.mono ?_; rintro e w1 ⟨g, cap', rfl, hcap, hmax, hc0, hc1, hb1, hS1⟩)
      refine Rg.region [] [0, 1, 2, 3, 4, 5, 6, 7, 8, 9] [] (by kernel_rfl) (by kernel_rfl) fun w' hw' => ?_
      have c0 := Rg.later (hw'.cell hc0)
      simp only [Rg.walk, Rg.pick, Rg.nth, List.map_nil]
      repeat (go_big_quiet_step (fail))
      refine wpQuiet_nil ?_
      have hS2 := cut_if (hS1.mono hw' hw'.size) (lo := 1) (hi := 2 * n) (by omega) (Nat.le_refl _)
      rw [if_neg (by omega)] at hS2
      have hb2 := hb1.trans (Below.mono hw' hb1.size)
      clear hS1 hb1 hC' hc0 hc1 c0 hw'
      go_wp2
      all_goals
        go_ret3
        refine ⟨_, _, _, rfl, ?_, hb2⟩
        rw [List.take_of_length_le (by have := hnl; simp [halves_len] at this ⊢; omega)] at hS2
        simpa [*, Addr.add_lit] using hS2

def common : List UInt8 → List UInt8 → Nat
  | x :: p, y :: q => if x = y then common p q + 1 else 0
  | _, _ => 0
theorem common_le : ∀ (p q : List UInt8), common p q ≤ p.length ∧ common p q ≤ q.length
  | [], _ => by simp [common]
  | _ :: _, [] => by simp [common]
  | x :: p, y :: q => by
    have := common_le p q
    simp only [common]
    split <;> simp <;> omega
theorem common_lt : ∀ (p q : List UInt8) (k : Nat) (_ : k < common p q) (h1 : k < p.length) (h2 : k < q.length), p[k] = q[k]
  | [], _, _, h, _, _ => by simp [common] at h
  | _ :: _, [], _, h, _, _ => by simp [common] at h
  | x :: p, y :: q, k, h, h1, h2 => by
    simp only [common] at h
    split at h
    · rename_i e
      cases k with
      | zero => simpa using e
      | succ k => simpa using common_lt p q k (by omega) (by simpa using h1) (by simpa using h2)
    · omega
theorem common_at : ∀ (p q : List UInt8) (h1 : common p q < p.length) (h2 : common p q < q.length), p[common p q] ≠ q[common p q]
  | [], _, h1, _ => by simp [common] at h1
  | _ :: _, [], _, h2 => by simp [common] at h2
  | x :: p, y :: q, h1, h2 => by
    by_cases e : x = y
    · subst e
      have e2 : common (x :: p) (x :: q) = common p q + 1 := by simp [common]
      simp only [e2]
      simpa using common_at p q (by rw [e2] at h1; simpa using h1) (by rw [e2] at h2; simpa using h2)
    · have e2 : common (x :: p) (y :: q) = 0 := by simp [common, e]
      simp only [e2]
      simpa using e

set_option maxHeartbeats 400000 in
theorem Common (w : World) (a : Option Addr) (n cap : Nat) (p : List UInt8) (b : Option Addr) (m cap2 : Nat) (q : List UInt8)
    (hP : Sl w w.heap.size 1 a n cap (p.map byteV)) (hQ : Sl w w.heap.size 1 b m cap2 (q.map byteV)) (hn : n ≤ 1073741824) (_hm : m ≤ 1073741824) :
    Calls Try.prog 14 #[.slice a n cap, .slice b m cap2] w fun e w' => e = .returned (.int .i64 (common p q)) ∧ Ext w w' := by
  have hpl := hP.len
  have hql := hQ.len
  have hle := common_le p q
  go_enter Try.func14, Try.ntmps14
  go_wp2
  go_loopw [5] (fun i wr => ∃ k : Nat, k ≤ common p q ∧ i = .int .i64 k ∧ Ext w wr) (fun i _ => common p q - (intOf i).toNat)
  case atStart => exact ⟨0, Nat.zero_le _, rfl, Ext.refl _⟩
  case round =>
    obtain ⟨k, hk, rfl, hx⟩ := hrel
    by_cases hlt : k < n ∧ k < m
    · obtain ⟨h1, h2⟩ := hlt
      obtain ⟨b1, o1, rfl, _, hc1⟩ := hP.cell (i := k) (by omega)
      obtain ⟨b2, o2, rfl, _, hc2⟩ := hQ.cell (i := k) (by omega)
      have hmin : decide ((k : Int) < if m < n then (m : Int) else (n : Int)) = true := by split <;> simp <;> omega
      by_cases hkc : k < common p q
      · have he : ((p[k].toNat : Int) == (q[k].toNat : Int)) = true := by rw [common_lt p q k hkc (by omega) (by omega)]; simp
        go_wp2
        refine Rg.region [] [0, 1, 2, 3, 4, 5, 6, 7, 8, 9, 10, 11, 12, 13, 14, 15, 16, 17] [] (by kernel_rfl) (by kernel_rfl) fun w' hw' => ?_
        have c1 := Rg.later (hw'.cell (hx.cell hc1))
        have c2 := Rg.later (hw'.cell (hx.cell hc2))
        simp only [Rg.walk, Rg.pick, Rg.nth, List.map_nil]
        repeat (go_big_quiet_step (fail))
        refine wpQuiet_nil ?_
        clear c1 c2 hc1 hc2
        go_wp2
        go_roundw
        case rel => exact ⟨k + 1, by omega, by go_num, hx.trans hw'⟩
        case measure => simp [intOf]; omega
      · obtain rfl : k = common p q := by omega
        have he : ((p[common p q].toNat : Int) == (q[common p q].toNat : Int)) = false := by
          rw [beq_eq_false_iff_ne]
          intro h
          exact common_at p q (by omega) (by omega) (UInt8.toNat_inj.1 (by omega))
        go_wp2
        refine Rg.region [] [0, 1, 2, 3, 4, 5, 6, 7, 8, 9, 10, 11, 12, 13, 14, 15, 16, 17] [] (by kernel_rfl) (by kernel_rfl) fun w' hw' => ?_
        have c1 := Rg.later (hw'.cell (hx.cell hc1))
        have c2 := Rg.later (hw'.cell (hx.cell hc2))
        simp only [Rg.walk, Rg.pick, Rg.nth, List.map_nil]
        repeat (go_big_quiet_step (fail))
        refine wpQuiet_nil ?_
        clear c1 c2 hc1 hc2
        go_wp2
        all_goals
          go_ret
          exact ⟨rfl, hx.trans hw'⟩
    · obtain rfl : k = common p q := by omega
      have hmin : decide ((common p q : Int) < if m < n then (m : Int) else (n : Int)) = false := by split <;> simp <;> omega
      go_wp2
      refine Rg.region [] [0, 1, 2, 3, 4, 5, 6, 7, 8, 9, 10, 11, 12, 13, 14, 15, 16, 17] [] (by kernel_rfl) (by kernel_rfl) fun w' hw' => ?_
      simp only [Rg.walk, Rg.pick, Rg.nth, List.map_nil]
      repeat (go_big_quiet_step (fail))
      refine wpQuiet_nil ?_
      go_wp2
      all_goals
        go_ret
        exact ⟨rfl, hx.trans hw'⟩
end Nib
end Go.Proofs.Ytjjakacpdofbbaa

/- Walks of package nib. -/
import Derived.Test.YtjjakacpdofbbaaOps
import Derived.Lib.Hide
namespace Go.Proofs.Ytjjakacpdofbbaa
open Go.RowKit Rp Rg Ops
theorem elB : El Try.prog 22 5 1 1 := ⟨by kernel_rfl, by
  obtain ⟨i, h1, h2, h3, h4⟩ := info_parts (P := Try.prog) (e := 5) (z := .int .u8 0) (size := 1) (bytes := 1) (by kernel_rfl)
  exact ⟨i, _, h1, h2, h3, h4, rfl⟩, by omega⟩

namespace Nib
def halves : List UInt8 → List UInt8
  | [] => []
  | x :: r => x >>> 4 :: (x &&& 15) :: halves r

theorem halves_snoc (l : List UInt8) (x : UInt8) : halves (l ++ [x]) = halves l ++ [x >>> 4, x &&& 15] := by
  induction l with
  | nil => rfl
  | cons y r ih => simp [halves, ih]

theorem halves_len (l : List UInt8) : (halves l).length = 2 * l.length := by
  induction l with
  | nil => rfl
  | cons x r ih => simp [halves, ih]; omega

theorem hi_cell (x : UInt8) : byteV (x >>> 4) = .int .u8 ((x.toNat : Int) / 16) := by
  have : (x >>> 4).toNat = x.toNat / 16 := by simp [UInt8.toNat_shiftRight, Nat.shiftRight_eq_div_pow]
  simp [byteV, this]
theorem lo_cell (x : UInt8) : byteV (x &&& 15) = .int .u8 (bits BinOp.and IntKind.u8 (x.toNat : Int) 15) := by
  have h := u8_and_nat x.toNat 15 (UInt8.toNat_lt x) (by omega)
  have e : ((15 : Nat) : Int) = 15 := rfl
  rw [e] at h
  rw [h]
  simp [byteV]

set_option maxHeartbeats 400000 in
theorem Halves (w : World) (a : Option Addr) (n cap : Nat) (l : List UInt8) (hS : Sl w w.heap.size 1 a n cap (l.map byteV)) (hn : n ≤ 2147483647) :
    Calls Try.prog 10 #[.slice a n cap] w fun e w' =>
      ∃ v, e = .returned v ∧ w'.ownsRow w.heap.size 5 1 v (2 * n) ((halves l).map byteV) ∧ Below w.heap.size w w' := by
  have hnl : l.length = n := by have := hS.1; simpa using this
  go_enter Try.func10, Try.ntmps10
  go_wp2
  go_loopw [3, 8] (fun v i wr => ∃ k : Nat, k ≤ n ∧ i = .int .i64 k ∧ wr.ownsRow w.heap.size 5 1 v (2 * k) ((halves (l.take k)).map byteV) ∧ Below w.heap.size w wr) (fun _ i _ => n - (intOf i).toNat)
  case atStart => exact ⟨0, Nat.zero_le _, rfl, by simpa [halves] using World.ownsRow_nil w w.heap.size 5 1, Below.refl _ _⟩
  case round =>
    obtain ⟨k, hk, rfl, hown, hb⟩ := hrel
    by_cases hlt : k < n
    · obtain ⟨b, o, rfl, hbl, hc⟩ := hS.at hlt
      have hlk : k < l.length := by omega
      have hcell : wr.cell? ⟨b, o + k, none⟩ = some (byteV l[k]) := by
        rw [hb.cell (p := ⟨b, o + k, none⟩) hbl]; exact hc k _ (by simp [hlk])
      clear hc
      unfold byteV at hcell
      go_wp2_with (at_builtin; refine app elB rfl _ _ rfl rfl (hown.alloc _) rfl (Sl.lit wr _ 5 2 1 rfl (by simp [maxLen])) ?h1 ?h2 ?h3 ?h4 ?hK)
      case h1 => simp [Value.oneCell']
      case h2 => omega
      case h3 => omega
      case h4 => have := hb.size; simp; omega
      case hK =>
        intro v' w' hown' hg
        have hrow : w'.ownsRow w.heap.size 5 1 v' (2 * (k + 1)) ((halves (l.take (k + 1))).map byteV) := by
          rw [List.take_succ_eq_append_getElem hlk, halves_snoc]
          simpa [hi_cell, lo_cell, Nat.mul_add] using hown'
        have hb' : Below w.heap.size w w' := (hb.alloc hb.size _).grown hg (by have := hb.size; simp; omega) (fun k hk => (hown.lt k hk).1)
        clear hown' hg hcell
        go_wp2
        go_roundw
        case rel => exact ⟨k + 1, by omega, by go_num, hrow, hb'⟩
        case measure => simp [intOf]; omega
    · obtain rfl : k = n := by omega
      go_wp2
      go_ret
      exact ⟨_, rfl, by simpa [← hnl] using hown, hb⟩

def wrongB (l : List UInt8) : Bool := l.any fun x => decide (15 < x)

theorem wrong (w : World) (a : Option Addr) (n cap : Nat) (l : List UInt8) (hS : Sl w w.heap.size 1 a n cap (l.map byteV)) (hn : n ≤ 2147483647) :
    Calls Try.prog 21 #[.slice a n cap] w fun e w' => e = .returned (.bool (wrongB l)) ∧ w = w' := by
  have hnl := hS.len
  go_enter Try.func21, Try.ntmps21
  go_wp2
  go_loop [7] (fun i => ∃ k : Nat, k ≤ n ∧ i = .int .i64 k ∧ wrongB (l.take k) = false) (fun i => n - (intOf i).toNat)
  case atStart => exact ⟨0, Nat.zero_le _, rfl, rfl⟩
  case round =>
    obtain ⟨k, hk, rfl, hw⟩ := hrel
    by_cases hlt : k < n
    · obtain ⟨b, o, rfl, hbl, hc⟩ := hS.cell (i := k) (by omega)
      have hsn : wrongB (l.take (k + 1)) = decide (15 < l[k]) := by
        rw [List.take_succ_eq_append_getElem (by omega)]
        unfold wrongB at hw ⊢
        rw [List.any_append, hw]
        simp
      have HS := Lib.hid hsn
      have HW := Lib.hid hw
      clear hsn hw
      by_cases hx : 15 < l[k].toNat
      · have htrue : wrongB l = true := by
          unfold wrongB
          rw [List.any_eq_true]
          exact ⟨l[k], List.getElem_mem _, by simpa [UInt8.lt_iff_toNat_lt] using hx⟩
        have HT := Lib.hid htrue
        clear htrue
        go_wp2
        go_ret
        exact ⟨by rw [HT.out]; rfl, rfl⟩
      · go_wp2
        go_round
        case rel => exact ⟨k + 1, by omega, by go_num, by rw [HS.out]; simpa [UInt8.lt_iff_toNat_lt] using hx⟩
        case measure => simp [intOf]; omega
    · obtain rfl : k = n := by omega
      go_wp2
      go_ret
      exact ⟨by rw [← hnl] at hw; simpa using hw.symm, rfl⟩

def pairs : List UInt8 → List UInt8
  | x :: y :: r => (x <<< 4 ||| y) :: pairs r
  | _ => []

theorem pairs_snoc : ∀ (m : Nat) (l : List UInt8) (_ : l.length = 2 * m) (x y : UInt8), pairs (l ++ [x, y]) = pairs l ++ [x <<< 4 ||| y]
  | 0, l, h, x, y => by
    have : l = [] := List.eq_nil_of_length_eq_zero (by omega)
    subst this; rfl
  | m + 1, [], h, _, _ => by simp at h
  | m + 1, [_], h, _, _ => by simp at h; omega
  | m + 1, a :: b :: r, h, x, y => by
    have := pairs_snoc m r (by simp at h; omega) x y
    simp [pairs, this]

theorem join_cell (x y : UInt8) : byteV (x <<< 4 ||| y) = .int .u8 (bits BinOp.or IntKind.u8 ((x.toNat : Int) * 16 % 256) (y.toNat : Int)) := by
  have h := u8_or_nat (x.toNat * 16 % 256) y.toNat (Nat.mod_lt _ (by omega)) (UInt8.toNat_lt y)
  have e : (((x.toNat * 16 % 256 : Nat)) : Int) = (x.toNat : Int) * 16 % 256 := by omega
  rw [e] at h
  rw [h]
  simp [byteV, Nat.shiftLeft_eq]

/-- What Join refuses. -/
def badJ (l : List UInt8) : Bool := l.length % 2 == 1 || wrongB l

theorem Join_bad (w : World) (a : Option Addr) (n cap : Nat) (l : List UInt8) (hS : Sl w w.heap.size 1 a n cap (l.map byteV)) (hn : n ≤ 2147483647) (hb : badJ l = true) :
    Calls Try.prog 11 #[.slice a n cap] w fun e w' => e = .returned (.tuple #[.slice none 0 0, .int .i64 1]) ∧ w = w' := by
  have hnl := hS.len
  by_cases hodd : n % 2 = 1
  · go_enter Try.func11, Try.ntmps11
    go_wp2
    go_ret2
    exact ⟨rfl, rfl⟩
  · have hw : wrongB l = true := by
      simp only [badJ, hnl, Bool.or_eq_true, beq_iff_eq] at hb
      exact hb.resolve_left hodd
    have hC := wrong w a n cap l hS hn
    rw [hw] at hC
    have hodd' : ((n : Int) % 2 == 1) = false := by simp; omega
    go_enter Try.func11, Try.ntmps11
    go_wp2_with (go_at_call 21; refine hC.mono ?_; rintro e w' ⟨rfl, rfl⟩)
    go_ret2
    exact ⟨rfl, rfl⟩

theorem Join_ok (w : World) (a : Option Addr) (n cap : Nat) (l : List UInt8) (hS : Sl w w.heap.size 1 a n cap (l.map byteV)) (hn : n ≤ 2147483647) (hb : badJ l = false) :
    Calls Try.prog 11 #[.slice a n cap] w fun e w' => ∃ v, e = .returned (.tuple #[v, .int .i64 0]) ∧
      w'.ownsRow w.heap.size 5 1 v (n / 2) ((pairs l).map byteV) ∧ Below w.heap.size w w' := by
  have hnl := hS.len
  simp only [badJ, hnl, Bool.or_eq_false_iff, beq_eq_false_iff_ne] at hb
  obtain ⟨m, hm⟩ : ∃ m, n = 2 * m := ⟨n / 2, by omega⟩
  have hC := wrong w a n cap l hS hn
  rw [hb.2] at hC
  have hodd' : ((n : Int) % 2 == 1) = false := by simp; omega
  have Hm := Lib.hid hm
  clear hm hb
  go_enter Try.func11, Try.ntmps11
  go_wp2_with (go_at_call 21; refine hC.mono ?_; rintro e w' ⟨rfl, rfl⟩)
  clear hC
  go_loopw [0, 4] (fun p v wr => ∃ k, 2 * k ≤ n ∧ (∃ a' cap', p = .slice a' (n - 2 * k) cap' ∧ Sl wr w.heap.size 1 a' (n - 2 * k) cap' ((l.drop (2 * k)).map byteV)) ∧
      wr.ownsRow w.heap.size 5 1 v k ((pairs (l.take (2 * k))).map byteV) ∧ Below w.heap.size w wr)
    (fun p _ _ => sln p)
  case atStart => exact ⟨0, by omega, ⟨a, cap, rfl, by simpa using hS⟩, by simpa [pairs] using World.ownsRow_nil w w.heap.size 5 1, Below.refl _ _⟩
  case round =>
    obtain ⟨k, hk, ⟨a', cap', rfl, hS'⟩, hown, hbl⟩ := hrel
    by_cases hlt : 2 * k < n
    · have hld : (l.drop (2 * k)).length = n - 2 * k := hS'.len
      have h2 : 2 * k + 2 ≤ n := by have := Hm.out; omega
      obtain ⟨b, o, ha, hlb, hc0⟩ := hS'.cell (i := 0) (by omega)
      obtain ⟨b2, o2, ha2, _, hc1⟩ := hS'.cell (i := 1) (by omega)
      subst ha
      cases ha2
      simp only [List.getElem_drop, Nat.add_zero] at hc0 hc1
      go_wp2
      refine Rg.region [([0, 1, 2, 3, 4, 5, 6, 7, 8], 9)] [] [10, 11] (by kernel_rfl) (by kernel_rfl) fun w' hw' => ?_
      have c0 := Rg.later (hw'.cell hc0)
      have c1 := Rg.later (hw'.cell hc1)
      have hown' : w'.ownsRow w.heap.size 5 1 u4 k ((pairs (l.take (2 * k))).map byteV) := hown.ext hw'
      have hbl' : Below w.heap.size w w' := hbl.trans (Below.mono hw' hbl.size)
      simp only [Rg.walk, Rg.pick, Rg.nth, List.map_cons, List.map_nil]
      repeat (go_big_quiet_step (fail))
      refine wpQuiet_nil ?_
      clear c0 c1 hc0 hc1
      go_wp2
      refine ⟨(Below.refl _ _).alloc (Nat.le_refl _) _, wpQuiet_nil ?_⟩
      go_wp2_with (at_builtin; refine app elB rfl _ _ rfl rfl (hown'.alloc _) rfl (Sl.lit w' _ 5 1 1 rfl (by simp [maxLen])) ?h1 ?h2 ?h3 ?h4 ?hK)
      case h1 => simp [Value.oneCell']
      case h2 => omega
      case h3 => omega
      case h4 => have := hbl'.size; simp; omega
      case hK =>
        intro v' w1 hown1 hg
        have hrow : w1.ownsRow w.heap.size 5 1 v' (k + 1) ((pairs (l.take (2 * (k + 1)))).map byteV) := by
          have e : l.take (2 * (k + 1)) = l.take (2 * k) ++ [l[2 * k], l[2 * k + 1]] := take_two l (2 * k) (by omega)
          rw [e, pairs_snoc k _ (by simp; omega)]
          simpa [join_cell] using hown1
        have hb1 : Below w.heap.size w w1 := (hbl'.alloc hbl'.size _).grown hg (by have := hbl'.size; simp; omega) (fun k hk => (hown'.lt k hk).1)
        have hS1 := (hS'.later (Below.mono hw' hbl.size)).later (((Below.refl w.heap.size w').alloc hbl'.size _).grown hg (by have := hbl'.size; simp; omega) (fun k hk => (hown'.lt k hk).1))
        clear hown1 hg hown hown' hbl' hS'
        go_wp2_with (refine cutLo (o := ⟨some 17, _, _, _, _, _⟩) elB _ _ rfl rfl (lo := 2) rfl rfl hS1 (by omega) ?_; intro b' cap2 hS2)
        go_roundw
        case rel =>
          refine ⟨k + 1, by omega, ⟨b', cap2, by rw [show n - 2 * k - 2 = n - 2 * (k + 1) from by omega], ?_⟩, hrow, hb1⟩
          rw [show n - 2 * (k + 1) = n - 2 * k - 2 from by omega, show 2 * (k + 1) = 2 * k + 2 from by omega]
          simpa [List.drop_drop, Nat.add_comm] using hS2
        case measure => simp [sln]; omega
    · obtain rfl : n = 2 * k := by omega
      go_wp2
      go_ret2
      refine ⟨_, rfl, ?_, hbl⟩
      rw [show 2 * k / 2 = k from by omega]
      simpa [← hnl] using hown
end Nib
end Go.Proofs.Ytjjakacpdofbbaa

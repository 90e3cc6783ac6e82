/- LightSkip: the law's function answers true at every input of bulk at most 1048576, and touches no old memory; from its walk to the given statement. Conditions: the statement's own bound, nothing else. -/
import Derived.Test.YtnmjpbcbldenmaaQ6e2be88
/- Seats: what is alive. -/
namespace Go.Proofs.Ytnmjpbcbldenmaa
open Go.RowKit Rg
set_option linter.unusedVariables false
set_option maxRecDepth 100000
namespace Lf
namespace St
def h1 : List UInt8 := [1, 0, 0, 0, 0, 0, 0, 0, 0, 0, 0, 0, 0, 0, 0, 0, 0, 0, 0, 0, 0, 0, 0, 0, 0, 0, 0, 0, 0, 0, 0, 0]
theorem named5 : named [3, 5, 8] 5 = [3, 8] := by
  rw [named_s _ (by decide)]
  have e1 : tz 64 5 = 0 := by kernel_rfl
  have e2 : 5 &&& (5 - 1) = 4 := by decide
  have e3 : tz 64 4 = 2 := by kernel_rfl
  have e4 : 4 &&& (4 - 1) = 0 := by decide
  rw [e1, e2, named_s _ (by decide), e3, e4, named_0]
  rfl
theorem tally5 : tally [3, 5, 8] h1 [(3, h1), (8, h1)] = 5 := by kernel_rfl
theorem andn5 : andn 5 5 = 0 := by kernel_rfl
theorem quo5 : quo 5 3 = true := by kernel_rfl
theorem quo4 : quo 4 3 = false := by kernel_rfl
end St
end Lf
end Go.Proofs.Ytnmjpbcbldenmaa

/- Seats: two quorums meet; the tally is all that have voted. -/
namespace Go.Proofs.Ytnmjpbcbldenmaa
open Go.RowKit Rg
set_option linter.unusedVariables false
set_option maxRecDepth 100000
namespace Lf
namespace St
theorem andn_bit {a b : Nat} (hb : b < 18446744073709551616) (i : Nat) : (andn a b).testBit i = (a.testBit i && (decide (i < 64) && !b.testBit i)) := by
  unfold andn
  rw [Nat.testBit_and, show 18446744073709551615 - b = 2 ^ 64 - (b + 1) from by omega, Nat.testBit_two_pow_sub_succ (by simpa using hb)]
theorem bit_lt {a i : Nat} (ha : a < 18446744073709551616) (h : a.testBit i = true) : i < 64 := Classical.byContradiction fun hn => by
  rw [Nat.testBit_lt_two_pow (Nat.lt_of_lt_of_le (show a < 2 ^ 64 by simpa using ha) (Nat.pow_le_pow_right (by omega) (by omega)))] at h
  cases h
theorem andn_zero {a b : Nat} (ha : a < 18446744073709551616) (hb : b < 18446744073709551616) : andn a b = 0 ↔ ∀ i, a.testBit i = true → b.testBit i = true := by
  constructor
  · intro h i hi
    have h1 := andn_bit (a := a) hb i
    rw [h, hi] at h1
    have := bit_lt ha hi
    simp [this] at h1
    exact h1
  · intro h
    apply Nat.eq_of_testBit_eq
    intro i
    rw [andn_bit hb, Nat.zero_testBit]
    cases e : a.testBit i
    · rfl
    · rw [h i e]; simp
theorem quo_spec {x n : Nat} (hx : x < 18446744073709551616) (h : quo x n = true) : n ≤ 16 ∧ x < 2 ^ n ∧ 2 * n ≤ 3 * pc x n := by
  have h1 := of_decide_eq_true h
  obtain ⟨h0, hn, h2, h3⟩ := h1
  have hlt : x < 2 ^ n := by
    apply Nat.lt_pow_two_of_testBit
    intro i hi
    cases e : x.testBit i
    · rfl
    · have h4 := (andn_zero hx (lowN_lt n)).1 h2 i e
      unfold lowN at h4
      rw [if_neg (by omega), Nat.testBit_two_pow_sub_one] at h4
      have := of_decide_eq_true h4
      omega
  have hs : x < 65536 := Nat.lt_of_lt_of_le hlt (Nat.le_trans (Nat.pow_le_pow_right (by omega) hn) (by decide))
  rw [ones_pc hs] at h3
  have h4 := pc_stable hlt (16 - n)
  rw [show n + (16 - n) = 16 from by omega] at h4
  rw [h4] at h3
  exact ⟨hn, hlt, h3⟩
theorem meet {l : List Nat} {a b : Nat} (ha : a < 18446744073709551616) (hb : b < 18446744073709551616) (h1 : quo a l.length = true) (h2 : quo b l.length = true) : l.length ≤ 3 * (named l (a &&& b)).length := by
  obtain ⟨a1, a2, a3⟩ := quo_spec ha h1
  obtain ⟨_, b2, b3⟩ := quo_spec hb h2
  have h := pc_and a b l.length
  have hlt : a &&& b < 2 ^ l.length := Nat.lt_of_le_of_lt Nat.and_le_left a2
  rw [named_len l (by omega) _ hlt]
  have h4 := pc_stable hlt (64 - l.length)
  rw [show l.length + (64 - l.length) = 64 from by omega] at h4
  rw [h4]
  omega
end St
end Lf
end Go.Proofs.Ytnmjpbcbldenmaa

/- Seats: slices of votes: Index, Contains, Grow, Concat. -/
namespace Go.Proofs.Ytnmjpbcbldenmaa
open Go.RowKit Rg
set_option linter.unusedVariables false
set_option maxRecDepth 100000
namespace Lf
namespace St
abbrev voteKs : List IntKind := .u64 :: List.replicate 32 .u8
theorem vote_kinds {v : VoteT} (h : VoteOk v) : KindsOf (voteC v) voteKs := .cons (KindsOf.map1 (fun _ => rfl) h.h)
theorem voteC_inj {p q : VoteT} (h : voteC p = voteC q) : p = q := voteK_inj (by
  rw [voteC_k, voteC_k] at h
  have hinj : ∀ (a b : List Value), a.map V.k = b.map V.k → a = b := by
    intro a
    induction a with
    | nil => intro b h; cases b with
      | nil => rfl
      | cons => simp at h
    | cons x r ih => intro b h; cases b with
      | nil => simp at h
      | cons y s =>
        simp only [List.map_cons, List.cons.injEq, V.k.injEq] at h
        rw [h.1, ih s h.2]
  unfold voteK
  rw [hinj _ _ h])
theorem getD_mem {α : Type} {l : List α} {i : Nat} {d : α} (h : i < l.length) : l.getD i d ∈ l := by
  rw [List.getD_eq_getElem?_getD, List.getElem?_eq_getElem h]; exact List.getElem_mem h
theorem refs_ks (m : List (Nat × M)) : ∀ l : List Value, V.refs.go m (l.map V.k) = true
  | [] => rfl
  | x :: r => by rw [List.map_cons, V.refs.go, refs_ks m r]; rfl
theorem refs_voteC (m : List (Nat × M)) (v : VoteT) : V.refs.go m (voteC v) = true := by rw [voteC_k]; exact refs_ks m _
theorem Index_yes (votes : List VoteT) (v : VoteT) (hv : ∀ v ∈ votes, VoteOk v) (hn : votes.length < 4611686018427387904) (hok : VoteOk v) (k : Nat) (hk : k < votes.length) (he : votes.getD k default = v) (hlt : ∀ j, j < k → votes.getD j default ≠ v) :
    LF Try.prog 68 [.s none (votes.map voteV), voteV v] (fun _ => .k (.int .i64 ((k : Nat) : Int))) none := by
  have hk1 := vote_kinds hok
  have hl1 := voteC_len hok
  have hrf := refs_voteC
  unfold voteV
  refine LFx.mk' tt Try.func68 rfl rfl rfl (by kernel_rfl) rfl rfl fun F => ?_
  refine wk ?_ trueW trueW
  refine LC.loopN (fun i => [(0, .s none (votes.map voteV)), (3, .p 3 0), (6, .s none (votes.map voteV)), (7, .k (.int .i64 ((votes.length : Nat) : Int))), (8, .k (.int .i64 ((i : Nat) : Int)))]) (fun i => [(3, .b (voteC v))]) (fun i => i ≤ k) ((votes.length - ·)) (0) (by omega) ⟨rfl, rfl, rfl, rfl, rfl, trivial⟩ ⟨rfl, trivial⟩ rfl rfW rfW ?_
  intro i hi
  have hlt' : i < votes.length := by omega
  have hvi := hv _ (getD_mem (d := default) hlt')
  have hk2 := vote_kinds hvi
  have hl2 := voteC_len hvi
  by_cases h : i = k
  · subst h
    have hq : voteC v = voteC (votes.getD i default) := by rw [he]
    exact wk trueW trueW trueW
  · have hok : i + 1 ≤ k := by omega
    have hq : ¬ voteC v = voteC (votes.getD i default) := fun e => hlt i (by omega) (voteC_inj e).symm
    exact wk trueW trueW trueW
theorem Index_no (votes : List VoteT) (v : VoteT) (hv : ∀ v ∈ votes, VoteOk v) (hn : votes.length < 4611686018427387904) (hok : VoteOk v) (hno : v ∉ votes) :
    LF Try.prog 68 [.s none (votes.map voteV), voteV v] (fun _ => .k (.int .i64 (-1))) none := by
  have hk1 := vote_kinds hok
  have hl1 := voteC_len hok
  have hrf := refs_voteC
  unfold voteV
  refine LFx.mk' tt Try.func68 rfl rfl rfl (by kernel_rfl) rfl rfl fun F => ?_
  refine wk ?_ trueW trueW
  refine LC.loopN (fun i => [(0, .s none (votes.map voteV)), (3, .p 3 0), (6, .s none (votes.map voteV)), (7, .k (.int .i64 ((votes.length : Nat) : Int))), (8, .k (.int .i64 ((i : Nat) : Int)))]) (fun i => [(3, .b (voteC v))]) (fun i => i ≤ votes.length) ((votes.length - ·)) (0) (by omega) ⟨rfl, rfl, rfl, rfl, rfl, trivial⟩ ⟨rfl, trivial⟩ rfl rfW rfW ?_
  intro i hi
  by_cases h : i < votes.length
  · have hvi := hv _ (getD_mem (d := default) h)
    have hk2 := vote_kinds hvi
    have hl2 := voteC_len hvi
    have hok : i + 1 ≤ votes.length := by omega
    have hq : ¬ voteC v = voteC (votes.getD i default) := fun e => hno (by rw [voteC_inj e]; exact getD_mem h)
    exact wk trueW trueW trueW
  · exact wk trueW trueW trueW
theorem first_at {votes : List VoteT} {v : VoteT} (h : v ∈ votes) : ∃ k, k < votes.length ∧ votes.getD k default = v ∧ ∀ j, j < k → votes.getD j default ≠ v := by
  have : ∀ n, n < votes.length → votes.getD n default = v → ∃ k, k < votes.length ∧ votes.getD k default = v ∧ ∀ j, j < k → votes.getD j default ≠ v := by
    intro n
    induction n using Nat.strongRecOn with
    | ind n ih =>
      intro h1 h2
      by_cases h3 : ∃ j, j < n ∧ votes.getD j default = v
      · obtain ⟨j, h4, h5⟩ := h3
        exact ih j h4 (by omega) h5
      · exact ⟨n, h1, h2, fun j h4 h5 => h3 ⟨j, h4, h5⟩⟩
  obtain ⟨n, h1, h2⟩ := List.mem_iff_getElem.1 h
  exact this n h1 (by rw [List.getD_eq_getElem?_getD, List.getElem?_eq_getElem h1]; exact h2)
theorem Contains (votes : List VoteT) (v : VoteT) (hv : ∀ v ∈ votes, VoteOk v) (hn : votes.length < 4611686018427387904) (hok : VoteOk v) :
    LF Try.prog 29 [.s none (votes.map voteV), voteV v] (fun _ => .k (.bool (decide (v ∈ votes)))) none := by
  have hl1 := voteC_len hok
  have hrf := refs_voteC
  by_cases h : v ∈ votes
  · rw [decide_eq_true h]
    obtain ⟨k, h1, h2, h3⟩ := first_at h
    have c1 := Index_yes votes v hv hn hok k h1 h2 h3
    unfold voteV at *
    refine LFx.mk' tt Try.func29 rfl rfl rfl (by kernel_rfl) rfl rfl fun F => ?_
    exact wk trueW trueW trueW
  · rw [decide_eq_false h]
    have c1 := Index_no votes v hv hn hok h
    unfold voteV at *
    refine LFx.mk' tt Try.func29 rfl rfl rfl (by kernel_rfl) rfl rfl fun F => ?_
    exact wk trueW trueW trueW
abbrev votesV (l : List VoteT) : V := .s none (l.map voteV)
theorem sizes_v {l : List VoteT} (h : ∀ v ∈ l, VoteOk v) : ∀ e ∈ l.map voteV, e.cells.length = 33 := fun e he => by
  obtain ⟨v, hv, rfl⟩ := List.mem_map.1 he
  exact voteC_len (h v hv)
theorem bare_v (v : VoteT) : (voteV v).bare = some (voteV v) := by
  unfold voteV
  rw [voteC_k]
  exact bare_am (f := V.k) (fun _ => rfl)
end St
end Lf
end Go.Proofs.Ytnmjpbcbldenmaa

/- The light client: what is alive. -/
namespace Go.Proofs.Ytnmjpbcbldenmaa
open Go.RowKit Rg Wm Ar
set_option linter.unusedVariables false
set_option maxRecDepth 100000
namespace Lf
open Pk
def hdrKinds : List IntKind := List.replicate 32 .u8 ++ (.u64 :: .u64 :: (List.replicate 8 .u8 ++ (.u64 :: .u64 :: (List.replicate 32 .u8 ++ (List.replicate 32 .u8 ++ (List.replicate 32 .u8 ++ (List.replicate 32 .u8 ++ List.replicate 32 .u8)))))))
theorem hdr_kinds {h : Hdr} (k : h.ok) : KindsOf (hdrC h) hdrKinds := by
  have hu : ∀ (n : Nat) {cs : List V} {ks : List IntKind}, KindsOf cs ks → KindsOf (uK n :: cs) (.u64 :: ks) := fun n _ _ h => .cons h
  have hb : ∀ {l : List UInt8} {n : Nat} {cs : List V} {ks : List IntKind}, l.length = n → KindsOf cs ks → KindsOf (l.map bK ++ cs) (List.replicate n .u8 ++ ks) := fun hl h => KindsOf.maps (fun _ => rfl) h hl
  rw [hdrC_eq]
  exact hb k.parent (hu _ (hu _ (hb k.keeper (hu _ (hu _ (hb k.bloom (hb k.state (hb k.txs (hb k.receipts (KindsOf.map1 (fun _ => rfl) k.next))))))))))
def zerosH : List Z := List.replicate 32 (.int .u8) ++ (Z.int .u64 :: Z.int .u64 :: (List.replicate 8 (.int .u8) ++ (Z.int .u64 :: Z.int .u64 :: List.replicate 160 (.int .u8))))
abbrev hdrPl : List (Nat × Nat) := [(0, 32), (32, 1), (33, 1), (34, 8), (42, 1), (43, 1), (44, 32), (76, 32), (108, 32), (140, 32), (172, 32)]
def numH (n : Nat) (x : List UInt8) : Hdr := ⟨List.replicate 32 0, n, 0, List.replicate 8 0, 0, 0, List.replicate 32 0, List.replicate 32 0, List.replicate 32 0, List.replicate 32 0, x⟩
theorem numH_ok {n : Nat} {x : List UInt8} (hn : n < 18446744073709551616) (hx : x.length = 32) : (numH n x).ok := ⟨rfl, hn, (by decide : 0 < 18446744073709551616), rfl, (by decide : 0 < 18446744073709551616), (by decide : 0 < 18446744073709551616), rfl, rfl, rfl, rfl, hx⟩
theorem hdr_b1 (n : Nat) : ∃ cs, vfill (fun i => hdrPl[i]?) (zerosH.map Z.v) [(1, uK n)] = some cs ∧ V.cv.go (fun _ => false) true cs = hdrC (numH n (List.replicate 32 0)) := by
  refine ⟨_, rfl, ?_⟩
  rw [hdrC_eq]
  rfl
theorem hdr_b2 (n : Nat) {x : List UInt8} (hx : x.length = 32) : ∃ cs, vfill (fun i => hdrPl[i]?) (zerosH.map Z.v) [(1, uK n), (10, .a (x.map bK))] = some cs ∧ V.cv.go (fun _ => false) true cs = hdrC (numH n x) := by
  have hl := len_b x hx
  have e1 : splice (zerosH.map Z.v) 32 [uK n] = hdrC (numH n (List.replicate 32 0)) := by rw [hdrC_eq]; rfl
  have k0 := numH_ok (n := 0) (x := List.replicate 32 0) (by decide) rfl
  have hp : ∀ y : List UInt8, hdrC (numH n y) = hdrC (numH n []) ++ y.map bK := fun y => by
    rw [hdrC_eq, hdrC_eq]
    simp only [numH, List.map_nil, List.append_nil, List.append_assoc, List.cons_append]
  have hpl : (hdrC (numH n [])).length = 172 := by rw [hdrC_eq]; rfl
  have e2 : splice (hdrC (numH n (List.replicate 32 0))) 172 (x.map bK) = hdrC (numH n x) := by
    rw [hp, hp x]
    unfold splice
    rw [hl, List.take_append_of_le_length (by omega), List.take_of_length_le (by omega), List.drop_of_length_le (by simp; omega), List.append_nil]
  refine ⟨hdrC (numH n x), ?_, cv_hdrC _ _ _⟩
  have z0 : (zerosH.map Z.v).length = 204 := rfl
  have z1 : (hdrC (numH n (List.replicate 32 0))).length = 204 := by rw [hdrC_eq]; rfl
  have e5 : (V.a (x.map bK)).ok = true := rfl
  have e6 : (uK n).ok = true := rfl
  simp only [vfill, hdrPl, cells_a, cells_uK, List.getElem?_cons_zero, List.getElem?_cons_succ, e1, e2, e5, e6, hl, z0, z1]
  rfl
theorem store_b1 {h : Hdr} (k : h.ok) (l : List Nat) : ∃ cs, vfill (fun i => [(0, 204), (204, 1), (205, 1)][i]?) (zerosS.map Z.v) [(0, .a (hdrC h)), (1, sV l)] = some cs ∧ V.cv.go (fun _ => false) true cs = hx h (sV l) (sV []) := by
  have hl := hdrC_len k
  refine ⟨hdrC h ++ [sV l, .nil], ?_, ?_⟩
  · have hz : (zerosS.map Z.v).length = 206 := rfl
    have e1 : splice (zerosS.map Z.v) 0 (hdrC h) = hdrC h ++ [.nil, .nil] := by
      unfold splice
      rw [List.take_zero, List.nil_append, Nat.zero_add, hl]
      rfl
    have e2 : splice (hdrC h ++ [.nil, .nil]) 204 [sV l] = hdrC h ++ [sV l, .nil] := by
      unfold splice
      rw [List.take_append_of_le_length (by omega), List.take_of_length_le (by omega)]
      have := drop_at hl (b := [V.nil, V.nil]) 1
      rw [show 204 + [sV l].length = 204 + 1 from rfl, this]
      simp
    have e4 : (V.a (hdrC h)).ok = true := rfl
    have e5 : ∀ l, (sV l).ok = true := fun _ => rfl
    have n1 : (hdrC h ++ [V.nil, V.nil]).length = 206 := by rw [List.length_append, hl]; rfl
    simp only [vfill, cells_a, cells_s, List.getElem?_cons_zero, List.getElem?_cons_succ, e1, e2, e4, e5, hl, hz, n1]
    rfl
  · rw [cv_app, cv_hdrC, hx_eq]
    rfl
def zerosU : List Z := List.replicate 32 (.int .u8) ++ (Z.int .u64 :: Z.int .u64 :: (List.replicate 8 (.int .u8) ++ (Z.int .u64 :: Z.int .u64 :: (List.replicate 160 (.int .u8) ++ [Z.int .u64, Z.sl]))))
theorem upd_b2 {h : Hdr} (k : h.ok) (m : Nat) : ∃ cs, vfill (fun i => [(0, 204), (204, 1), (205, 1)][i]?) (zerosU.map Z.v) [(0, .a (hdrC h)), (1, uK m)] = some cs ∧ V.cv.go (fun _ => false) true cs = hx h (uK m) (sV []) := by
  have hl := hdrC_len k
  refine ⟨hdrC h ++ [uK m, .nil], ?_, ?_⟩
  · have hz : (zerosU.map Z.v).length = 206 := rfl
    have e1 : splice (zerosU.map Z.v) 0 (hdrC h) = hdrC h ++ [uK 0, .nil] := by
      unfold splice
      rw [List.take_zero, List.nil_append, Nat.zero_add, hl]
      rfl
    have e2 : splice (hdrC h ++ [uK 0, .nil]) 204 [uK m] = hdrC h ++ [uK m, .nil] := by
      unfold splice
      rw [List.take_append_of_le_length (by omega), List.take_of_length_le (by omega)]
      have := drop_at hl (b := [uK 0, V.nil]) 1
      rw [show 204 + [uK m].length = 204 + 1 from rfl, this]
      simp
    have e4 : (V.a (hdrC h)).ok = true := rfl
    have e5 : (uK m).ok = true := rfl
    have n1 : (hdrC h ++ [uK 0, V.nil]).length = 206 := by rw [List.length_append, hl]; rfl
    simp only [vfill, cells_a, cells_uK, List.getElem?_cons_zero, List.getElem?_cons_succ, e1, e2, e4, e5, hl, hz, n1]
    rfl
  · rw [cv_app, cv_hdrC, hx_eq]
    rfl
theorem upd_b3 {h : Hdr} (k : h.ok) (m : Nat) (b : List Nat) (o : Option Nat) : ∃ cs, vfill (fun i => [(0, 204), (204, 1), (205, 1)][i]?) (zerosU.map Z.v) [(0, .a (hdrC h)), (1, uK m), (2, .s o (b.map uK))] = some cs ∧ V.cv.go (fun _ => false) true cs = hx h (uK m) (sV b) := by
  have hl := hdrC_len k
  refine ⟨hdrC h ++ [uK m, .s o (b.map uK)], ?_, ?_⟩
  · have hz : (zerosU.map Z.v).length = 206 := rfl
    have e1 : splice (zerosU.map Z.v) 0 (hdrC h) = hdrC h ++ [uK 0, .nil] := by
      unfold splice
      rw [List.take_zero, List.nil_append, Nat.zero_add, hl]
      rfl
    have e2 : splice (hdrC h ++ [uK 0, .nil]) 204 [uK m] = hdrC h ++ [uK m, .nil] := by
      unfold splice
      rw [List.take_append_of_le_length (by omega), List.take_of_length_le (by omega)]
      have := drop_at hl (b := [uK 0, V.nil]) 1
      rw [show 204 + [uK m].length = 204 + 1 from rfl, this]
      simp
    have e3 : splice (hdrC h ++ [uK m, .nil]) 205 [.s o (b.map uK)] = hdrC h ++ [uK m, .s o (b.map uK)] := by
      have := hx_set (a := uK m) (b := .nil) (c := .s o (b.map uK)) k rfl
      rwa [hx_eq, hx_eq] at this
    have e4 : (V.a (hdrC h)).ok = true := rfl
    have e5 : (uK m).ok = true := rfl
    have e6 : (V.s o (b.map uK)).ok = true := rfl
    have n1 : (hdrC h ++ [uK 0, V.nil]).length = 206 := by rw [List.length_append, hl]; rfl
    have n2 : (hdrC h ++ [uK m, V.nil]).length = 206 := by rw [List.length_append, hl]; rfl
    simp only [vfill, cells_a, cells_s, cells_uK, List.getElem?_cons_zero, List.getElem?_cons_succ, e1, e2, e3, e4, e5, e6, hl, hz, n1, n2]
    rfl
  · rw [cv_app, cv_hdrC, hx_eq]
    cases o <;> rfl
namespace Sr
set_option maxHeartbeats 2000000 in
theorem Begin (h : Hdr) (l : List Nat) (k : h.ok) (hl : seats64 l) (hn : l.length < 2000000) (hr : right l = true) : LF Try.prog 41 [.a (hdrC h), .s none (l.map uK)] (fun _ => .t [.a (storeC ⟨h, l, []⟩), .k (.int .i64 0)]) none := by
  have c1 := RightB l hl (by omega)
  have c2 := CloneU l (by omega)
  rw [hr] at c1
  obtain ⟨cs, b1, b2⟩ := store_b1 k l
  have h1 := hdrC_len k
  have h2 := hx_len k (sV l) (sV [])
  have h3 : 0 + (hx h (sV l) (sV [])).length ≤ 206 := by omega
  have hrf := hx_refsS
  have hrg := hdrC_refs
  simp only [storeC]
  refine LFx.mk' tt Try.func41 rfl rfl rfl (by kernel_rfl) rfl rfl fun F => ?_
  exact wk trueW trueW trueW
end Sr
end Lf
end Go.Proofs.Ytnmjpbcbldenmaa

/- The light client: what is alive. -/
namespace Go.Proofs.Ytnmjpbcbldenmaa
open Go.RowKit Rg Wm Ar
set_option linter.unusedVariables false
set_option maxRecDepth 100000
namespace Lf
open Pk
theorem cv_hx (keep : Nat → Bool) (nn : Bool) (h : Hdr) (a b : V) : V.cv.go keep nn (hx h a b) = hx h (a.cv keep nn) (b.cv keep nn) := by
  rw [hx_eq, hx_eq, cv_app, cv_hdrC]; rfl
namespace Sr
def S7 : List UInt8 := sumB (enc (seatI [7]))
theorem S7_eq : S7 = sumB (enc (seatI [7])) := rfl
theorem S7_len : S7.length = 32 := sumB_len _
def h3 : Hdr := numH 3 (List.replicate 32 0)
def h5 : Hdr := numH 5 S7
def T5 : List UInt8 := sumB (hdrB h5)
theorem T5_eq : T5 = sumB (hdrB h5) := rfl
theorem T5_len : T5.length = 32 := sumB_len _
attribute [irreducible] S7 T5
theorem h3_ok : h3.ok := numH_ok (by decide) rfl
theorem h5_ok : h5.ok := numH_ok (by decide) S7_len
def s3 : StM := ⟨h3, [1, 2], []⟩
def u5 : UpM := ⟨h5, 3, [7]⟩
def u6 : UpM := ⟨h5, 3, []⟩
def v5 : List St.VoteT := [(1, T5), (2, T5)]
theorem s3_ok : s3.ok := ⟨h3_ok, by unfold s3 seats64; decide, by unfold s3 seats64; decide, by decide, by decide⟩
theorem u5_ok : u5.ok := ⟨h5_ok, by decide, by unfold u5 seats64; decide, by decide⟩
theorem u6_ok : u6.ok := ⟨h5_ok, by decide, by unfold u6 seats64; decide, by decide⟩
theorem v5_ok : ∀ v ∈ v5, St.VoteOk v := fun v hv => by
  simp only [v5, List.mem_cons, List.not_mem_nil, or_false] at hv
  rcases hv with rfl | rfl
  · exact ⟨by decide, T5_len⟩
  · exact ⟨by decide, T5_len⟩
theorem judge35 (un : List Nat) (m : Nat) : judgeM s3 (⟨h5, m, un⟩ : UpM).hdr.number = ([1, 2], 0) := by
  unfold judgeM s3
  simp [h3, h5, numH]
theorem right12 : right [1, 2] = true := by decide
theorem right7 : right [7] = true := by decide
theorem tally5 : St.tally [1, 2] T5 v5 = 3 := by
  have h0 : St.talF [1, 2] T5 v5 0 = true := decide_eq_true (by simp [v5])
  have h1 : St.talF [1, 2] T5 v5 1 = true := decide_eq_true (by simp [v5])
  show St.tal _ 2 = 3
  simp [St.tal, h0, h1]
theorem tally6 : St.tally [1, 2] T5 [(1, T5)] = 1 := by
  have h0 : St.talF [1, 2] T5 [(1, T5)] 0 = true := decide_eq_true (by simp)
  have h1 : St.talF [1, 2] T5 [(1, T5)] 1 = false := decide_eq_false (by simp)
  show St.tal _ 2 = 1
  simp [St.tal, h0, h1]
theorem quo32 : St.quo 3 2 = true := by kernel_rfl
theorem apply5 : applyM s3 u5 v5 = (⟨h5, [1, 2], [7]⟩, 0) := by
  unfold applyM
  have hb : badM s3 u5 = false := by unfold badM s3 u5; rw [right12, right7]; rfl
  have hj := judge35 [7] 3
  rw [hb, if_neg (by decide)]
  have hj' : judgeM s3 u5.hdr.number = ([1, 2], 0) := hj
  rw [hj', if_neg (by simp)]
  show (if St.quo 3 2 = false then (zeroS, 26) else _) = _
  rw [quo32, if_neg (by decide)]
  show (if St.andn0 3 (St.tally [1, 2] (sumB (hdrB h5)) v5) = false then (zeroS, 27) else _) = _
  rw [← T5_eq, tally5, if_neg (by decide)]
  rw [if_neg (fun h => h.2 S7_eq.symm), if_neg (by simp [u5])]
  rfl
theorem apply6 : applyM s3 u6 [(1, T5)] = (zeroS, 27) := by
  unfold applyM
  have hb : badM s3 u6 = false := by unfold badM s3 u6; rw [right12]; rfl
  have hj' : judgeM s3 u6.hdr.number = ([1, 2], 0) := judge35 [] 3
  rw [hb, if_neg (by decide)]
  rw [hj', if_neg (by simp)]
  show (if St.quo 3 2 = false then (zeroS, 26) else _) = _
  rw [quo32, if_neg (by decide)]
  show (if St.andn0 3 (St.tally [1, 2] (sumB (hdrB h5)) [(1, T5)]) = false then (zeroS, 27) else _) = _
  rw [← T5_eq, tally6, if_pos (by decide)]
set_option maxHeartbeats 4000000 in
theorem alive23 : LF Try.prog 21 [] (fun _ => .k (.bool true)) none := by
  have c1 := Begin h3 [1, 2] h3_ok (by unfold seats64; decide) (by decide) right12
  have c2 := SeatSum [7] (by decide) (by decide)
  have c3 := HSumB h5 h5_ok
  have cA := Apply s3 u5 v5 s3_ok u5_ok v5_ok (by decide)
  have cB := Apply s3 u6 [(1, T5)] s3_ok u6_ok (fun v hv => v5_ok v (by simp at hv; subst hv; simp [v5])) (by decide)
  have c4 := (St.EqualU [7] [7] (by decide) (by decide)).1 rfl
  rw [apply5] at cA
  rw [apply6] at cB
  rw [← S7_eq] at c2
  rw [← T5_eq] at c3
  obtain ⟨d1, e1, e2⟩ := hdr_b1 3
  obtain ⟨d2, e3, e4⟩ := hdr_b2 5 S7_len
  obtain ⟨d3, e5, e6⟩ := St.vote_b 1 T5 T5_len
  obtain ⟨d4, e7, e8⟩ := St.vote_b 2 T5 T5_len
  obtain ⟨d5, e9, e10⟩ := upd_b3 h5_ok 3 [7] (some 28)
  obtain ⟨d6, e11, e12⟩ := upd_b2 h5_ok 3
  have k3 := h3_ok
  have k5 := h5_ok
  have l3 := hdrC_len h3_ok
  have l5 := hdrC_len h5_ok
  have le5 : 0 + (hdrC h5).length ≤ 204 := by omega
  have hk := hdr_kinds h5_ok
  have hls := S7_len
  have hlt := T5_len
  have g3 : numH 3 (List.replicate 32 0) = h3 := rfl
  have g5 : numH 5 S7 = h5 := rfl
  rw [g3] at e2
  rw [g5] at e4
  clear g3 g5
  have ld1 := @hx_a
  have ld2 := @hx_b
  have ld3 := @hx_h
  have hrf := hx_refsS
  have hr3 : V.refs.go [] [V.a (hdrC h5)] = true := by rw [V.refs.go, V.refs, hdrC_refs]; rfl
  have hr4 : V.refs.go [] [V.a (hdrC h3), sV [1, 2]] = true := by rw [V.refs.go, V.refs, hdrC_refs]; rfl
  have ls3 := hx_len h3_ok (sV [1, 2]) (sV [])
  have ls5 := hx_len h5_ok (sV [1, 2]) (sV [7])
  have ls0 := hx_len zeroH_ok (sV []) (sV [])
  have lf3 : 0 + (hx h3 (sV [1, 2]) (sV [])).length ≤ 206 := by omega
  have lf5 : 0 + (hx h5 (sV [1, 2]) (sV [7])).length ≤ 206 := by omega
  have lf0 : 0 + (hx zeroH (sV []) (sV [])).length ≤ 206 := by omega
  have hft0 : V.cv.go (fun _ => false) false [V.a (hdrC h3), V.s (some 11) [uK 1, uK 2]] = [V.a (hdrC h3), sV [1, 2]] := by
    simp only [V.cv.go, V.cv, cv_hdrC, cond_false]; rfl
  have hft1 : V.cv.go (fun _ => false) false [V.a (hx h3 (sV [1, 2]) (sV [])), V.a (hx h5 (uK 3) (sV [7])), V.s (some 24) [St.voteV (1, T5), St.voteV (2, T5)]] = [V.a (hx h3 (sV [1, 2]) (sV [])), V.a (hx h5 (uK 3) (sV [7])), V.s none (v5.map St.voteV)] := by
    simp only [V.cv.go, V.cv, cv_hx, cond_false]; rfl
  have hbr := St.bare_v
  have hz2 : ∀ e ∈ [St.voteV (1, T5), St.voteV (2, T5)], e.cells.length = 33 := fun e he => by
    simp only [List.mem_cons, List.not_mem_nil, or_false] at he
    rcases he with rfl | rfl
    · exact St.voteC_len (v5_ok (1, T5) (by simp [v5]))
    · exact St.voteC_len (v5_ok (2, T5) (by simp [v5]))
  have cBeg := c1
  clear c1
  simp only [storeC, updC, s3, u5, u6, zeroS] at *
  have hr5 : V.refs.go [] [V.a (hx h3 (sV [1, 2]) (sV [])), V.a (hx h5 (uK 3) (sV [7])), V.s none (v5.map St.voteV)] = true := by
    simp only [V.refs.go, V.refs, hx_refsS, hx_refsU]; rfl
  have hr6 : V.refs.go [] [V.a (hx h3 (sV [1, 2]) (sV [])), V.a (hx h5 (uK 3) (sV [])), V.s none ([((1 : Nat), T5)].map St.voteV)] = true := by
    simp only [V.refs.go, V.refs, hx_refsS, hx_refsU]; rfl
  refine LFx.mk' tt Try.func21 rfl rfl rfl (by kernel_rfl) rfl rfl fun F => ?_
  refine wk ?_ trueW trueW
  refine DR.pp rfl rfl (Does.call cBeg rfl rfl (Fits.cv (fun _ => false) false hft0) hr4) rfl ?_
  refine wk ?_ trueW trueW
  refine DR.pp rfl rfl (Does.call cA rfl rfl (Fits.cv (fun _ => false) false hft1) hr5) rfl ?_
  refine wk ?_ trueW trueW
  refine DR.pp rfl rfl (Does.call cB rfl rfl (Fits.same _) hr6) rfl ?_
  exact wk trueW trueW trueW
end Sr
end Lf
end Go.Proofs.Ytnmjpbcbldenmaa

/- Who comes next is said by what is settled. -/
namespace Go.Proofs.Ytnmjpbcbldenmaa
open Go.RowKit Rg Wm Ar
set_option linter.unusedVariables false
set_option maxRecDepth 100000
namespace Lf
open Pk
theorem zeroS_ok : zeroS.ok := ⟨zeroH_ok, fun x hx => (by cases hx), fun x hx => (by cases hx), by decide, by decide⟩
theorem apply_ok {s : StM} {u : UpM} (k : s.ok) (ku : u.ok) (votes : List St.VoteT) : (applyM s u votes).1.ok := by
  obtain ⟨j1, j2, _⟩ := judge_ok k u.hdr.number
  unfold applyM
  split
  · exact zeroS_ok
  · split
    · exact zeroS_ok
    · split
      · exact zeroS_ok
      · split
        · exact zeroS_ok
        · split
          · exact zeroS_ok
          · refine ⟨ku.hdr, j1, ?_, j2, ?_⟩
            · show seats64 (if _ then _ else _)
              split
              · exact k.next
              · exact ku.next
            · show (if _ then _ else _ : List Nat).length < _
              split
              · exact k.nl
              · exact ku.nl
theorem apply_err {s : StM} {u : UpM} (k : s.ok) (votes : List St.VoteT) : (applyM s u votes).2 < 100 := by
  obtain ⟨_, _, j3⟩ := judge_ok k u.hdr.number
  unfold applyM
  repeat' split
  all_goals first | exact j3 | decide | exact (by decide : 0 < 100)
/-- What is so of what is taken. -/
structure Taken (s : StM) (u : UpM) (votes : List St.VoteT) (x : StM) : Prop where
  good : badM s u = false
  judge : (judgeM s u.hdr.number).2 = 0
  quo : St.quo u.mask x.seats.length = true
  voted : andn u.mask (St.tally x.seats (sumB (hdrB u.hdr)) votes) = 0
  sum : u.next ≠ [] → sumB (enc (Sr.seatI u.next)) = u.hdr.next
  hdr : x.hdr = u.hdr
  seats : x.seats = (judgeM s u.hdr.number).1
  next : x.next = if u.next = [] ∧ s.hdr.number / 8 = u.hdr.number / 8 then s.next else u.next
theorem taken {s : StM} {u : UpM} {votes : List St.VoteT} (h : (applyM s u votes).2 = 0) : Taken s u votes (applyM s u votes).1 := by
  unfold applyM at *
  by_cases h1 : badM s u = true
  · rw [if_pos h1] at h; cases h
  · rw [if_neg h1] at h ⊢
    by_cases h2 : (judgeM s u.hdr.number).2 ≠ 0
    · rw [if_pos h2] at h; exact absurd h h2
    · rw [if_neg h2] at h ⊢
      by_cases h3 : St.quo u.mask (judgeM s u.hdr.number).1.length = false
      · rw [if_pos h3] at h; cases h
      · rw [if_neg h3] at h ⊢
        by_cases h4 : St.andn0 u.mask (St.tally (judgeM s u.hdr.number).1 (sumB (hdrB u.hdr)) votes) = false
        · rw [if_pos h4] at h; cases h
        · rw [if_neg h4] at h ⊢
          by_cases h5 : u.next ≠ [] ∧ sumB (enc (Sr.seatI u.next)) ≠ u.hdr.next
          · rw [if_pos h5] at h; cases h
          · rw [if_neg h5]
            refine ⟨by simpa using h1, Classical.not_not.1 h2, by simpa using h3, ?_, fun hn => Classical.byContradiction fun hs => h5 ⟨hn, hs⟩, rfl, rfl, rfl⟩
            unfold St.andn0 at h4
            simpa using h4
namespace Sr
set_option maxHeartbeats 4000000 in
theorem LightNext (s : StM) (u : UpM) (votes : List St.VoteT) (k : s.ok) (ku : u.ok) (hv : ∀ v ∈ votes, St.VoteOk v) (hnv : votes.length < 4611686018427387904) :
    LF Try.prog 6 [.a (storeC s), .a (updC u), .s none (votes.map St.voteV)] (fun _ => .k (.bool true)) none := by
  have c1 := alive23
  have c2 := Apply s u votes k ku hv hnv
  have kx := apply_ok k ku votes
  have hT := taken (s := s) (u := u) (votes := votes)
  have he := apply_err (u := u) k votes
  have kh := k.hdr
  have kh2 := ku.hdr
  have hn1 := kh.number
  have hn2 := kh2.number
  have c4 := Period s.hdr.number hn1
  have c5 := Period u.hdr.number hn2
  generalize applyM s u votes = r at *
  obtain ⟨x, e⟩ := r
  simp only at *
  have khx := kx.hdr
  have c3 := SeatSum x.next kx.next (by have := kx.nl; omega)
  have hE := St.EqualU x.next s.next (by have := kx.nl; omega) (by have := k.nl; omega)
  have hsl := sumB_len (enc (seatI x.next))
  have hnx := khx.next
  have ld1 := @hx_a
  have ld2 := @hx_b
  have ld3 := @hx_n
  have ld4 := @hx_h
  have ld5 := @hx_x
  have hrf := hx_refsS
  have hrg := hx_refsU
  have hls := hx_len kh (sV s.seats) (sV s.next)
  have hlu := hx_len kh2 (uK u.mask) (sV u.next)
  have hlx := hx_len khx (sV x.seats) (sV x.next)
  have hle := (Nat.le_of_eq (hx_len khx (sV x.seats) (sV x.next)) : (hx x.hdr (sV x.seats) (sV x.next)).length ≤ 206)
  have hle0 : 0 + (hx x.hdr (sV x.seats) (sV x.next)).length ≤ 206 := by omega
  have hxn := kx.nl
  have hun := ku.nl
  by_cases h0 : e = 0
  · have T := hT h0
    have t5 := T.sum
    have t8 := T.next
    have t6 := T.hdr
    clear hT T
    subst h0
    by_cases hx0 : x.next = []
    · have hx0l : x.next.length = 0 := by rw [hx0]; rfl
      clear t8 t5 hE c3 kx k ku hv
      obtain ⟨h, sa, sn⟩ := s
      obtain ⟨h2, mk, un⟩ := u
      obtain ⟨h3, xa, xn⟩ := x
      simp only [storeC, updC] at *
      refine LFx.mk' tt Try.func6 rfl rfl rfl (by kernel_rfl) rfl rfl fun F => ?_
      exact wk trueW trueW trueW
    · have hx1 : ¬ x.next.length = 0 := fun f => hx0 (List.eq_nil_of_length_eq_zero f)
      by_cases hs : sumB (enc (seatI x.next)) = x.hdr.next
      · clear t8 t5 hE kx k ku hv
        generalize sumB (enc (seatI x.next)) = sm at *
        obtain ⟨h, sa, sn⟩ := s
        obtain ⟨h2, mk, un⟩ := u
        obtain ⟨h3, xa, xn⟩ := x
        simp only [storeC, updC] at *
        generalize h.number / 8 = p at *
        generalize h2.number / 8 = q at *
        by_cases hpq : p = q
        · refine LFx.mk' tt Try.func6 rfl rfl rfl (by kernel_rfl) rfl rfl fun F => ?_
          exact wk trueW trueW trueW
        · refine LFx.mk' tt Try.func6 rfl rfl rfl (by kernel_rfl) rfl rfl fun F => ?_
          exact wk trueW trueW trueW
      · have hc : u.next = [] ∧ s.hdr.number / 8 = u.hdr.number / 8 := Classical.byContradiction fun f => by
          rw [if_neg f] at t8
          rw [t8, t6] at hs
          exact hs (t5 (by rw [← t8]; exact hx0))
        rw [if_pos hc] at t8
        have c6 := hE.1 t8
        obtain ⟨hc1, hc2⟩ := hc
        have hc3 : u.next.length = 0 := by rw [hc1]; rfl
        clear t8 t5 hE kx k ku hv hc1
        generalize sumB (enc (seatI x.next)) = sm at *
        obtain ⟨h, sa, sn⟩ := s
        obtain ⟨h2, mk, un⟩ := u
        obtain ⟨h3, xa, xn⟩ := x
        simp only [storeC, updC] at *
        generalize h.number / 8 = p at *
        generalize h2.number / 8 = q at *
        refine LFx.mk' tt Try.func6 rfl rfl rfl (by kernel_rfl) rfl rfl fun F => ?_
        exact wk trueW trueW trueW
  · clear hT hE c3 kx k ku hv
    obtain ⟨h, sa, sn⟩ := s
    obtain ⟨h2, mk, un⟩ := u
    obtain ⟨h3, xa, xn⟩ := x
    simp only [storeC, updC] at *
    refine LFx.mk' tt Try.func6 rfl rfl rfl (by kernel_rfl) rfl rfl fun F => ?_
    exact wk trueW trueW trueW
end Sr
end Lf
end Go.Proofs.Ytnmjpbcbldenmaa

/- One update behind the other; what is rejected is as if it had not come. -/
namespace Go.Proofs.Ytnmjpbcbldenmaa
open Go.RowKit Rg Wm Ar
set_option linter.unusedVariables false
set_option maxRecDepth 100000
namespace Lf
open Pk
abbrev updV (u : UpM) : V := .a (updC u)
abbrev eK (e : Nat) : V := .k (.int .i64 ((e : Nat) : Int))
def stepM (votes : List St.VoteT) (p : StM × List Nat) (u : UpM) : StM × List Nat := (if (applyM p.1 u votes).2 = 0 then (applyM p.1 u votes).1 else p.1, p.2 ++ [(applyM p.1 u votes).2])
def playM (s : StM) (us : List UpM) (votes : List St.VoteT) : StM × List Nat := us.foldl (stepM votes) (s, [])
theorem play_snoc {votes : List St.VoteT} {p : StM × List Nat} {us : List UpM} {i : Nat} (h : i < us.length) : (us.take (i + 1)).foldl (stepM votes) p = stepM votes ((us.take i).foldl (stepM votes) p) (us.getD i default) := by
  rw [Sr.take_get h, List.foldl_append]; rfl
theorem play_ok {s : StM} {us : List UpM} (k : s.ok) (ku : ∀ u ∈ us, UpM.ok u) (votes : List St.VoteT) : ∀ i, i ≤ us.length → ((us.take i).foldl (stepM votes) (s, [])).1.ok ∧ ((us.take i).foldl (stepM votes) (s, [])).2.length = i
  | 0, _ => ⟨k, rfl⟩
  | i + 1, h => by
    obtain ⟨h1, h2⟩ := play_ok k ku votes i (by omega)
    rw [play_snoc (by omega)]
    have hm : us.getD i default ∈ us := by rw [List.getD_eq_getElem?_getD, List.getElem?_eq_getElem (show i < us.length by omega)]; exact List.getElem_mem _
    generalize (us.take i).foldl (stepM votes) (s, []) = p at *
    unfold stepM
    refine ⟨?_, by rw [List.length_append, h2]; rfl⟩
    show StM.ok (if _ then _ else _)
    split
    · exact apply_ok h1 (ku _ hm) votes
    · exact h1
theorem play_len {s : StM} {us : List UpM} (k : s.ok) (ku : ∀ u ∈ us, UpM.ok u) (votes : List St.VoteT) : (playM s us votes).1.ok ∧ (playM s us votes).2.length = us.length := by
  have := play_ok k ku votes us.length (Nat.le_refl _)
  rwa [List.take_length] at this
/-- Those that were taken. -/
def goodR : List UpM → List Nat → List UpM
  | u :: us, e :: es => if e = 0 then u :: goodR us es else goodR us es
  | _, _ => []
theorem goodR_mem : ∀ {us : List UpM} {es : List Nat} {u : UpM}, u ∈ goodR us es → u ∈ us
  | [], _, _, h => by simp [goodR] at h
  | _ :: _, [], _, h => by simp [goodR] at h
  | u :: us, e :: es, v, h => by
    rw [goodR] at h
    split at h
    · rcases List.mem_cons.1 h with h | h
      · exact h ▸ List.mem_cons_self
      · exact List.mem_cons_of_mem _ (goodR_mem h)
    · exact List.mem_cons_of_mem _ (goodR_mem h)
theorem goodR_len : ∀ (us : List UpM) (es : List Nat), (goodR us es).length ≤ us.length
  | [], _ => by simp [goodR]
  | _ :: _, [] => by simp [goodR]
  | u :: us, e :: es => by
    have := goodR_len us es
    rw [goodR]
    split <;> simp <;> omega
theorem goodR_snoc : ∀ {us : List UpM} {es : List Nat} {u : UpM} {e : Nat}, us.length = es.length → goodR (us ++ [u]) (es ++ [e]) = goodR us es ++ (if e = 0 then [u] else [])
  | [], [], u, e, _ => by simp [goodR]
  | v :: us, f :: es, u, e, h => by
    have := goodR_snoc (us := us) (es := es) (u := u) (e := e) (by simpa using h)
    simp only [List.cons_append, goodR]
    rw [this]
    split <;> simp
/-- What the run hands on, from any beginning. -/
theorem run_good (votes : List St.VoteT) : ∀ (us : List UpM) (S : StM) (o o2 : List Nat), ∃ S' es, us.foldl (stepM votes) (S, o) = (S', o ++ es) ∧ es.length = us.length ∧ (goodR us es).foldl (stepM votes) (S, o2) = (S', o2 ++ List.replicate (goodR us es).length 0)
  | [], S, o, o2 => ⟨S, [], by simp, rfl, by simp [goodR]⟩
  | u :: us, S, o, o2 => by
    rw [List.foldl_cons]
    by_cases h : (applyM S u votes).2 = 0
    · obtain ⟨S', es, h1, h2, h3⟩ := run_good votes us (applyM S u votes).1 (o ++ [(applyM S u votes).2]) (o2 ++ [0])
      refine ⟨S', (applyM S u votes).2 :: es, ?_, by simp [h2], ?_⟩
      · have e1 : stepM votes (S, o) u = ((applyM S u votes).1, o ++ [(applyM S u votes).2]) := by unfold stepM; simp only; rw [if_pos h]
        rw [e1, h1]; simp
      · rw [goodR, if_pos h, List.foldl_cons]
        have e2 : stepM votes (S, o2) u = ((applyM S u votes).1, o2 ++ [0]) := by unfold stepM; simp only; rw [if_pos h, h]
        rw [e2, h3, List.length_cons, List.replicate_succ]
        simp
    · obtain ⟨S', es, h1, h2, h3⟩ := run_good votes us S (o ++ [(applyM S u votes).2]) o2
      refine ⟨S', (applyM S u votes).2 :: es, ?_, by simp [h2], ?_⟩
      · have e1 : stepM votes (S, o) u = (S, o ++ [(applyM S u votes).2]) := by unfold stepM; simp only; rw [if_neg h]
        rw [e1, h1]; simp
      · rw [goodR, if_neg h]
        exact h3
theorem play_good (s : StM) (us : List UpM) (votes : List St.VoteT) : playM s (goodR us (playM s us votes).2) votes = ((playM s us votes).1, List.replicate (goodR us (playM s us votes).2).length 0) := by
  obtain ⟨S', es, h1, h2, h3⟩ := run_good votes us s [] []
  unfold playM
  rw [h1]
  simp only [List.nil_append] at h3 ⊢
  exact h3
def setP (n : Nat) (us : List V) (a b : V) : Option (V × V) := match us with
  | [c] => cond (Nat.beq n 204) (some (c, b)) (cond (Nat.beq n 205) (some (a, c)) none)
  | _ => none
theorem hx_setP {h : Hdr} {a b c d : V} {n : Nat} {us : List V} (k : h.ok) (hu : setP n us a b = some (c, d)) : splice (hx h a b) n us = hx h c d := by
  unfold setP at hu
  split at hu
  · rename_i x
    cases h1 : Nat.beq n 204
    · rw [h1] at hu
      cases h2 : Nat.beq n 205
      · rw [h2] at hu; cases hu
      · rw [h2] at hu
        obtain rfl := Nat.eq_of_beq_eq_true h2
        cases hu
        exact hx_set k rfl
    · rw [h1] at hu
      obtain rfl := Nat.eq_of_beq_eq_true h1
      cases hu
      have hl := hdrC_len k
      rw [hx_eq, hx_eq]
      unfold splice
      rw [List.take_append_of_le_length (by omega), List.take_of_length_le (by omega)]
      have := drop_at hl (b := [a, b]) 1
      rw [show 204 + [c].length = 204 + 1 from rfl, this]
      simp
  · cases hu
theorem cvT (S : StM) (out : List Nat) : V.cv (fun _ => false) false (.t [.a (hx S.hdr (sV S.seats) (sV S.next)), .s (some 60) (out.map eK)]) = .t [.a (hx S.hdr (sV S.seats) (sV S.next)), .s none (out.map eK)] := by
  have h : V.cv.go (fun _ => false) false (hx S.hdr (sV S.seats) (sV S.next)) = hx S.hdr (sV S.seats) (sV S.next) := by rw [hx_eq, cv_app, cv_hdrC]; rfl
  simp only [V.cv, V.cv.go, h]
  rfl
namespace Sr
theorem updV_len {u : UpM} (k : u.ok) : (updV u).cells.length = 206 := hx_len k.hdr _ _
set_option maxHeartbeats 8000000 in
theorem Play (s : StM) (us : List UpM) (votes : List St.VoteT) (k : s.ok) (ku : ∀ u ∈ us, UpM.ok u) (hn : us.length < 10000000) (hv : ∀ v ∈ votes, St.VoteOk v) (hnv : votes.length < 4611686018427387904) :
    LF Try.prog 34 [.a (storeC s), .s none (us.map updV), .s none (votes.map St.voteV)] (fun _ => .t [.a (storeC (playM s us votes).1), .s none ((playM s us votes).2.map eK)]) none := by
  have kh := k.hdr
  have c2 := CloneU s.seats (by have := k.sl; omega)
  have c3 := CloneU s.next (by have := k.nl; omega)
  have hall := play_ok k ku votes
  have ld1 := @hx_a
  have ld2 := @hx_b
  have hrf := hx_refsS
  have hrg := hx_refsU
  have hls := hx_len kh (sV s.seats) (sV s.next)
  have hl2 : 205 + 1 ≤ (hx s.hdr (sV s.seats) (sV s.next)).length := by omega
  have sp1 := @hx_setP
  have hfin : (us.take us.length).foldl (stepM votes) (s, []) = playM s us votes := by rw [List.take_length]; rfl
  rw [← hfin]
  clear hfin
  simp only [storeC] at *
  refine LFx.mk' tt Try.func34 rfl rfl rfl (by kernel_rfl) rfl rfl fun F => ?_
  refine wk ?_ trueW trueW
  refine LC.nilrow 8 60 66 1 rfl rfl rfl ?_
  refine LC.loop2 (fun i S => [(2, .s none (votes.map St.voteV)), (3, .p 3 0), (6, .p 6 0), (8, .s (some 60) (S.2.map eK)), (21, .s none (us.map updV)), (22, .k (.int .i64 ((us.length : Nat) : Int))), (23, .k (.int .i64 ((i : Nat) : Int)))]) (fun i S => [(3, .b (hx S.1.hdr (sV S.1.seats) (sV S.1.next))), (6, .b (zerosS.map Z.v)), (60, .r 66 1 S.2.length)]) (fun i S => i ≤ us.length ∧ S = (us.take i).foldl (stepM votes) (s, [])) ((us.length - ·)) (0) ((s, [])) ⟨by omega, rfl⟩ ⟨rfl, rfl, rfl, rfl, rfl, rfl, rfl, trivial⟩ ⟨rfl, rfl, rfl, trivial⟩ rfl rfW rfW ?_
  rintro i S ⟨hi, hS⟩
  obtain ⟨kS, hSl⟩ := hall i hi
  rw [← hS] at kS hSl
  have khS := kS.hdr
  have hlS := hx_len khS (sV S.1.seats) (sV S.1.next)
  by_cases h : i < us.length
  · have hm : us.getD i default ∈ us := by rw [List.getD_eq_getElem?_getD, List.getElem?_eq_getElem h]; exact List.getElem_mem _
    have kU := ku _ hm
    have hlU := updV_len kU
    have hlU0 : 0 + (updV (us.getD i default)).cells.length ≤ 206 := by omega
    have cA := Apply S.1 (us.getD i default) votes kS kU hv hnv
    have kx := apply_ok kS kU votes
    have hsn := play_snoc (votes := votes) (p := (s, [])) h
    rw [← hS] at hsn
    unfold stepM at hsn
    have c4 := cA
    clear cA c2 c3 hall hS hv ku hls
    generalize applyM S.1 (us.getD i default) votes = r at *
    obtain ⟨x, e⟩ := r
    obtain ⟨S1, out⟩ := S
    simp only at *
    have khx := kx.hdr
    have hlx := hx_len khx (sV x.seats) (sV x.next)
    have hle0 : 0 + (hx x.hdr (sV x.seats) (sV x.next)).length ≤ 206 := by omega
    have hle1 : 0 + (hx x.hdr (sV x.seats) (sV x.next)).length ≤ (hx S1.hdr (sV S1.seats) (sV S1.next)).length := by omega
    have hle2 : (hx x.hdr (sV x.seats) (sV x.next)).length = (hx S1.hdr (sV S1.seats) (sV S1.next)).length := by omega
    by_cases he : e = 0
    · rw [if_pos he] at hsn
      have hok : i + 1 ≤ us.length ∧ (x, out ++ [e]) = (us.take (i + 1)).foldl (stepM votes) (s, []) := ⟨h, hsn.symm⟩
      subst he
      clear hsn
      refine wk ?_ trueW trueW
      exact LNext2.go (y := i + 1) (z := (x, out ++ [0])) (by repeat (first | exact True.intro | refine And.intro rfl ?_)) (by repeat (first | exact True.intro | refine And.intro rfl ?_)) rfl rfW rfW hok (by omega)
    · rw [if_neg he] at hsn
      have hok : i + 1 ≤ us.length ∧ (S1, out ++ [e]) = (us.take (i + 1)).foldl (stepM votes) (s, []) := ⟨h, hsn.symm⟩
      clear hsn
      refine wk ?_ trueW trueW
      exact LNext2.go (y := i + 1) (z := (S1, out ++ [e])) (by repeat (first | exact True.intro | refine And.intro rfl ?_)) (by repeat (first | exact True.intro | refine And.intro rfl ?_)) rfl rfW rfW hok (by omega)
  · obtain rfl : i = us.length := by omega
    rw [← hS]
    have hle0 : 0 + (hx S.1.hdr (sV S.1.seats) (sV S.1.next)).length ≤ 206 := by omega
    clear hS hall hv ku hls c2 c3
    obtain ⟨S1, out⟩ := S
    simp only at *
    refine wk ?_ trueW trueW
    refine LRet.ret_ (u := .t [.a (hx S1.hdr (sV S1.seats) (sV S1.next)), .s (some 60) (out.map eK)]) (resV_2 (res1_cell rfl rfl rfl (part_whole rfl hlS)) rfl) (LFU.cvV false ?_ ?_)
    · have e : V.cv (fun _ => false) false (.t [.a (hx S1.hdr (sV S1.seats) (sV S1.next)), .s (some 60) (out.map eK)]) = .t [.a (hx S1.hdr (sV S1.seats) (sV S1.next)), .s none (out.map eK)] := cvT S1 out
      rw [e]
      simp only [V.refs, V.refs.go, hrf]
      rfl
    · exact cvT S1 out
end Sr
end Lf
end Go.Proofs.Ytnmjpbcbldenmaa

/- Stores held against each other. -/
namespace Go.Proofs.Ytnmjpbcbldenmaa
open Go.RowKit Rg Wm Ar
set_option linter.unusedVariables false
set_option maxRecDepth 100000
namespace Lf
open Pk
namespace Sr
theorem sameSeats (l : List Nat) (hn : l.length < 1073741824) : LF Try.prog 79 [.s none (l.map uK), .s none (l.map uK)] (fun _ => .k (.bool true)) none := by
  refine LFx.mk' tt Try.func79 rfl rfl rfl (by kernel_rfl) rfl rfl fun F => ?_
  refine wk ?_ trueW trueW
  refine LC.loopN (fun i => [(0, .s none (l.map uK)), (1, .s none (l.map uK)), (12, .k (.int .i64 ((l.length : Nat) : Int))), (13, .k (.int .i64 ((i : Nat) : Int)))]) (fun i => []) (fun i => i ≤ l.length) ((l.length - ·)) (0) (by omega) ⟨rfl, rfl, rfl, rfl, trivial⟩ trivial rfl rfW rfW ?_
  intro i hi
  by_cases h : i < l.length
  · have hok : i + 1 ≤ l.length := h
    exact wk trueW trueW trueW
  · exact wk trueW trueW trueW
theorem SameStore (x : StM) (k : x.ok) : LF Try.prog 42 [.a (storeC x), .a (storeC x)] (fun _ => .k (.bool true)) none := by
  have c1 := sameSeats x.seats (by have := k.sl; omega)
  have c2 := sameSeats x.next (by have := k.nl; omega)
  have kx := k.hdr
  have ld1 := @hx_a
  have ld2 := @hx_b
  have ld3 := @hx_h
  have hrf := hx_refsS
  have hk := hdr_kinds kx
  have hlx := hx_len kx (sV x.seats) (sV x.next)
  clear k
  obtain ⟨h, a, b⟩ := x
  simp only [storeC] at *
  refine LFx.mk' tt Try.func42 rfl rfl rfl (by kernel_rfl) rfl rfl fun F => ?_
  exact wk trueW trueW trueW
end Sr
end Lf
end Go.Proofs.Ytnmjpbcbldenmaa

/- What is rejected is as if it had not come. -/
namespace Go.Proofs.Ytnmjpbcbldenmaa
open Go.RowKit Rg Wm Ar
set_option linter.unusedVariables false
set_option maxRecDepth 100000
namespace Lf
open Pk
namespace Sr
set_option maxHeartbeats 8000000 in
theorem LightSkip (s : StM) (us : List UpM) (votes : List St.VoteT) (k : s.ok) (ku : ∀ u ∈ us, UpM.ok u) (hn : us.length < 10000000) (hv : ∀ v ∈ votes, St.VoteOk v) (hnv : votes.length < 4611686018427387904) :
    LF Try.prog 11 [.a (storeC s), .s none (us.map updV), .s none (votes.map St.voteV)] (fun _ => .k (.bool true)) none := by
  have c1 := alive23
  have c2 := Play s us votes k ku hn hv hnv
  obtain ⟨kX, hXl⟩ := play_len k ku votes
  have hgl := goodR_len us (playM s us votes).2
  have cP := Play s (goodR us (playM s us votes).2) votes k (fun u hu => ku u (goodR_mem hu)) (by omega) hv hnv
  rw [play_good] at cP
  generalize hr : playM s us votes = r at *
  obtain ⟨X, res⟩ := r
  simp only at *
  have c4 := SameStore X kX
  have kh := k.hdr
  have khX := kX.hdr
  have ld1 := @hx_a
  have hrf := hx_refsS
  have hls := hx_len kh (sV s.seats) (sV s.next)
  have hlX := hx_len khX (sV X.seats) (sV X.next)
  have hle0 : 0 + (hx X.hdr (sV X.seats) (sV X.next)).length ≤ 206 := by omega
  clear hr k kX hv
  simp only [storeC] at *
  refine LFx.mk' tt Try.func11 rfl rfl rfl (by kernel_rfl) rfl rfl fun F => ?_
  refine wk ?_ trueW trueW
  refine LC.nilrow 9 60 64 206 rfl rfl rfl ?_
  refine LC.loop2 (fun i G => [(2, .s none (votes.map St.voteV)), (3, .p 3 0), (7, .p 7 0), (8, .s none (res.map eK)), (9, .s (some 60) (G.map updV)), (30, .s none (us.map updV)), (31, .k (.int .i64 ((us.length : Nat) : Int))), (32, .k (.int .i64 ((i : Nat) : Int)))]) (fun i G => [(3, .b (hx s.hdr (sV s.seats) (sV s.next))), (7, .b (hx X.hdr (sV X.seats) (sV X.next))), (60, .r 64 206 G.length)]) (fun i G => i ≤ us.length ∧ G = goodR (us.take i) (res.take i)) ((us.length - ·)) (0) ([]) ⟨by omega, rfl⟩ ⟨rfl, rfl, rfl, rfl, rfl, rfl, rfl, rfl, trivial⟩ ⟨rfl, rfl, rfl, trivial⟩ rfl rfW rfW ?_
  rintro i G ⟨hi, hG⟩
  have hGl : G.length ≤ i := by
    have := goodR_len (us.take i) (res.take i)
    rw [← hG, List.length_take] at this
    omega
  have hz : ∀ e ∈ G.map updV, e.cells.length = 206 := fun e he => by
    obtain ⟨u, hu, rfl⟩ := List.mem_map.1 he
    rw [hG] at hu
    exact updV_len (ku u (List.mem_of_mem_take (goodR_mem hu)))
  by_cases h : i < us.length
  · have hm : us.getD i default ∈ us := by rw [List.getD_eq_getElem?_getD, List.getElem?_eq_getElem h]; exact List.getElem_mem _
    have kU := ku _ hm
    have hlU := updV_len kU
    have hlU0 : 0 + (updV (us.getD i default)).cells.length ≤ 206 := by omega
    have hbr : ∀ u : UpM, (updV u).bare = some (updV u) := fun u => hx_bareU _ _ _
    have hrg := hx_refsU
    have hri : i < res.length := by omega
    have hsn := goodR_snoc (us := us.take i) (es := res.take i) (u := us.getD i default) (e := res.getD i default) (by rw [List.length_take, List.length_take]; omega)
    rw [← take_get h, ← take_get hri, ← hG] at hsn
    clear cP c2 hG ku c4
    by_cases he : res.getD i default = 0
    · rw [if_pos he] at hsn
      have hok : i + 1 ≤ us.length ∧ G ++ [us.getD i default] = goodR (us.take (i + 1)) (res.take (i + 1)) := ⟨h, hsn.symm⟩
      clear hsn
      exact wk trueW trueW trueW
    · rw [if_neg he, List.append_nil] at hsn
      have hok : i + 1 ≤ us.length ∧ G = goodR (us.take (i + 1)) (res.take (i + 1)) := ⟨h, hsn.symm⟩
      clear hsn
      exact wk trueW trueW trueW
  · obtain rfl : i = us.length := by omega
    rw [List.take_length, ← hXl, List.take_length] at hG
    rw [← hG] at cP
    have hft : V.cv.go (fun _ => false) false [V.a (hx s.hdr (sV s.seats) (sV s.next)), V.s (some 60) (G.map updV), V.s none (votes.map St.voteV)] = [V.a (hx s.hdr (sV s.seats) (sV s.next)), V.s none (G.map updV), V.s none (votes.map St.voteV)] := by
      simp only [V.cv.go, V.cv, cv_hx, cond_false]
    have hr3 : V.refs.go [] [V.a (hx s.hdr (sV s.seats) (sV s.next)), V.s none (G.map updV), V.s none (votes.map St.voteV)] = true := by
      rw [V.refs.go, V.refs, hx_refsS]; rfl
    clear hG ku c2
    refine wk ?_ trueW trueW
    refine DR.pp rfl rfl (Does.call cP rfl rfl (Fits.cv (fun _ => false) false hft) hr3) rfl ?_
    refine wk ?_ trueW trueW
    refine LC.loopN (fun j => [(7, .p 7 0), (9, .s (some 60) (G.map updV)), (12, .p 12 0), (13, .s none ((List.replicate G.length 0).map eK)), (54, .s none ((List.replicate G.length 0).map eK)), (55, .k (.int .i64 (((List.replicate G.length 0).length : Nat) : Int))), (56, .k (.int .i64 ((j : Nat) : Int)))]) (fun j => [(7, .b (hx X.hdr (sV X.seats) (sV X.next))), (12, .b (hx X.hdr (sV X.seats) (sV X.next))), (60, .r 64 206 G.length)]) (fun j => j ≤ G.length) ((G.length - ·)) (0) (by omega) ⟨rfl, rfl, rfl, rfl, rfl, rfl, rfl, trivial⟩ ⟨rfl, rfl, rfl, trivial⟩ rfl rfW rfW ?_
    intro j hj
    have hrl : (List.replicate G.length 0).length = G.length := List.length_replicate
    by_cases h2 : j < G.length
    · have hok : j + 1 ≤ G.length := h2
      have h0 : (List.replicate G.length 0).getD j default = 0 := by rw [List.getD_eq_getElem?_getD, List.getElem?_replicate, if_pos h2]; rfl
      exact wk trueW trueW trueW
    · exact wk trueW trueW trueW
end Sr
end Lf
end Go.Proofs.Ytnmjpbcbldenmaa

/- What the given statement tells of an argument: a lifted value by a datum of one's own, and a bound of its bulk. -/
namespace Go.Proofs.Ytnmjpbcbldenmaa
open Go.RowKit Rg Rp Go.WideShapes Go.ChangeShapes
namespace Lf
/-- Cells and what they read. -/
def RO (W : World) : List V → List Value → Prop
  | [], [] => True
  | u :: us, c :: cs => (u.one = true ∧ Rep W allS u c) ∧ RO W us cs
  | _, _ => False
theorem RO.append {W : World} : ∀ {us : List V} {cs : List Value} {vs : List V} {ds : List Value}, RO W us cs → RO W vs ds → RO W (us ++ vs) (cs ++ ds)
  | [], [], _, _, _, h => h
  | u :: us, c :: cs, _, _, h, k => ⟨h.1, RO.append h.2 k⟩
  | [], _ :: _, _, _, h, _ => h.elim
  | _ :: _, [], _, _, h, _ => h.elim
theorem RO.spec {W : World} : ∀ {us : List V} {cs : List Value}, RO W us cs → us.length = cs.length ∧ ∀ (j : Nat) u c, us[j]? = some u → cs[j]? = some c → u.one = true ∧ Rep W allS u c
  | [], [], _ => ⟨rfl, fun j u c h => by simp at h⟩
  | u :: us, c :: cs, h => by
    obtain ⟨h1, h2⟩ := RO.spec h.2
    refine ⟨by simp [h1], fun j a b ha hb => ?_⟩
    cases j with
    | zero => simp at ha hb; subst ha; subst hb; exact h.1
    | succ j => simp at ha hb; exact h2 j a b ha hb
  | [], _ :: _, h => h.elim
  | _ :: _, [], h => h.elim
theorem RO.flatten {W : World} : ∀ {uss : List (List V)} {css : List (List Value)}, uss.length = css.length → (∀ (j : Nat) us cs, uss[j]? = some us → css[j]? = some cs → RO W us cs) → RO W uss.flatten css.flatten
  | [], [], _, _ => trivial
  | us :: uss, cs :: css, hl, h => by
    rw [List.flatten_cons, List.flatten_cons]
    exact (h 0 us cs rfl rfl).append (RO.flatten (by simpa using hl) fun j a b ha hb => h (j + 1) a b (by simpa using ha) (by simpa using hb))
  | [], _ :: _, hl, _ => by simp at hl
  | _ :: _, [], hl, _ => by simp at hl
theorem mapM_some {α β : Type} {f : α → Option β} : ∀ {l : List α} {r : List β}, l.mapM f = some r → r.length = l.length ∧ ∀ (j : Nat) a, l[j]? = some a → ∃ b, r[j]? = some b ∧ f a = some b
  | [], r, h => by simp at h; subst h; simp
  | a :: l, r, h => by
    simp only [List.mapM_cons, Option.bind_eq_bind, Option.pure_def] at h
    obtain ⟨b, hb, h⟩ := Option.bind_eq_some_iff.1 h
    obtain ⟨bs, hbs, h⟩ := Option.bind_eq_some_iff.1 h
    cases h
    obtain ⟨h1, h2⟩ := mapM_some hbs
    refine ⟨by simp [h1], fun j x hj => ?_⟩
    cases j with
    | zero => simp at hj; subst hj; exact ⟨b, rfl, hb⟩
    | succ j => simp at hj; exact h2 j x hj
theorem list_choose {α : Type} {p : Nat → α → Prop} : ∀ (n : Nat), (∀ j, j < n → ∃ x, p j x) → ∃ xs : List α, xs.length = n ∧ ∀ j x, xs[j]? = some x → p j x
  | 0, _ => ⟨[], rfl, by simp⟩
  | n + 1, h => by
    obtain ⟨xs, hl, hx⟩ := list_choose n fun j hj => h j (by omega)
    obtain ⟨x, hp⟩ := h n (by omega)
    refine ⟨xs ++ [x], by simp [hl], fun j y hj => ?_⟩
    rcases Nat.lt_or_ge j xs.length with hlt | hge
    · rw [List.getElem?_append_left hlt] at hj; exact hx j y hj
    · rw [List.getElem?_append_right hge] at hj
      have : j - xs.length = 0 := by
        rcases Nat.eq_zero_or_pos (j - xs.length) with h0 | h0
        · exact h0
        · rw [List.getElem?_eq_none (by simp; omega)] at hj; cases hj
      rw [this] at hj
      simp at hj; subst hj
      obtain rfl : j = n := by omega
      exact hp
theorem range_flatten {s : Nat} : ∀ {n : Nat} {cs : List Value}, cs.length = n * s → ((List.range n).map fun i => (cs.drop (i * s)).take s).flatten = cs
  | 0, cs, h => by simp at h; subst h; rfl
  | n + 1, cs, h => by
    rw [List.range_succ_eq_map, List.map_cons, List.flatten_cons, List.map_map, Nat.zero_mul, List.drop_zero]
    have e := range_flatten (s := s) (n := n) (cs := cs.drop s) (by rw [List.length_drop, h, Nat.succ_mul]; omega)
    have e2 : ((List.range n).map ((fun i => (cs.drop (i * s)).take s) ∘ Nat.succ)) = (List.range n).map fun i => ((cs.drop s).drop (i * s)).take s := by
      refine List.map_congr_left fun i _ => ?_
      simp only [Function.comp, List.drop_drop, Nat.succ_mul]
      rw [Nat.add_comm]
    rw [e2, e]
    exact List.take_append_drop _ _
theorem flat_inv {α : Type} {f : α → List V} {k : Nat} (hk : 0 < k) : ∀ {l : List α} {J : Nat} {u : V}, (∀ a ∈ l, (f a).length = k) → (l.flatMap f)[J]? = some u → ∃ a, l[J / k]? = some a ∧ (f a)[J % k]? = some u
  | [], J, u, _, h => by simp at h
  | a :: l, J, u, hf, h => by
    rw [List.flatMap_cons] at h
    have ha := hf a (by simp)
    rcases Nat.lt_or_ge J k with hlt | hge
    · rw [List.getElem?_append_left (by omega)] at h
      exact ⟨a, by rw [Nat.div_eq_of_lt hlt]; rfl, by rw [Nat.mod_eq_of_lt hlt]; exact h⟩
    · rw [List.getElem?_append_right (by omega), ha] at h
      obtain ⟨b, h1, h2⟩ := flat_inv hk (fun a ha => hf a (by simp [ha])) h
      obtain ⟨J', rfl⟩ : ∃ J', J = J' + k := ⟨J - k, by omega⟩
      rw [Nat.add_sub_cancel] at h1 h2
      exact ⟨b, by rw [Nat.add_div_right _ hk]; exact h1, by rw [Nat.add_mod_right]; exact h2⟩
theorem sum_le {α β : Type} {f : α → Nat} {g : β → Nat} : ∀ {l : List α} {m : List β}, l.length = m.length → (∀ (j : Nat) a b, l[j]? = some a → m[j]? = some b → f a ≤ g b) → (l.map f).sum ≤ (m.map g).sum
  | [], [], _, _ => Nat.le_refl _
  | a :: l, b :: m, hl, h => by
    simp only [List.map_cons, List.sum_cons]
    exact Nat.add_le_add (h 0 a b rfl rfl) (sum_le (by simpa using hl) fun j x y hx hy => h (j + 1) x y (by simpa using hx) (by simpa using hy))
  | [], _ :: _, hl, _ => by simp at hl
  | _ :: _, [], hl, _ => by simp at hl
section
variable {H : Type} {enc : TypeId × Value → H} {P : Program} {W : World}
theorem sum_bulk (xs : List (DataW H × List MemPlace)) : (xs.map fun x => Rows.uptoBulk x.1).sum = Rows.uptoBulkAll (xs.map (·.1)) := by
  induction xs with
  | nil => simp [Rows.uptoBulkAll]
  | cons x r ih => simp [Rows.uptoBulkAll, ih]
/-- Cells of a type, as the given reader takes them: lifted by a datum of one's own. -/
structure Opn (enc : TypeId × Value → H) (P : Program) (W : World) (n T : Nat) {α : Type} (f : α → List V) (ok : α → Prop) (sz : α → Nat) : Prop where
  go : ∀ cs x, DataW.trod enc P W 0 (fun _ => true) true n T cs = some x → ∃ a, RO W (f a) cs ∧ ok a ∧ sz a ≤ Rows.uptoBulk x.1
theorem Opn.zero {T : Nat} {α : Type} {f : α → List V} {ok : α → Prop} {sz : α → Nat} : Opn enc P W 0 T f ok sz := ⟨fun cs x h => by simp [DataW.trod] at h⟩
theorem Opn.map {n T : Nat} {α β : Type} {f : α → List V} {ok : α → Prop} {sz : α → Nat} {f' : β → List V} {ok' : β → Prop} {sz' : β → Nat} (g : α → β) (h : Opn enc P W n T f ok sz) (hf : ∀ a, ok a → f' (g a) = f a) (hok : ∀ a, ok a → ok' (g a)) (hs : ∀ a, ok a → sz' (g a) ≤ sz a) : Opn enc P W n T f' ok' sz' :=
  ⟨fun cs x hx => by
    obtain ⟨a, h1, h2, h3⟩ := h.go cs x hx
    exact ⟨g a, by rw [hf a h2]; exact h1, hok a h2, Nat.le_trans (hs a h2) h3⟩⟩
theorem Opn.bool {n T : Nat} (hT : P.underlying T = some .bool) : Opn enc P W n T (fun b : Bool => [.k (.bool b)]) (fun _ => True) (fun _ => 1) := ⟨fun cs x h => by
  cases n with
  | zero => simp [DataW.trod] at h
  | succ n =>
    unfold DataW.trod at h
    rw [hT] at h
    split at h <;> rename_i hu <;> first | (cases hu; done) | skip
    all_goals first | (cases h; exact ⟨_, ⟨⟨rfl, .k _⟩, trivial⟩, trivial, by simp [Rows.uptoBulk]⟩) | cases h⟩
theorem Opn.int {n T : Nat} {k : IntKind} (hT : P.underlying T = some (.int k)) : Opn enc P W n T (fun z : Int => [.k (.int k z)]) (fun z => k.min ≤ z ∧ z ≤ k.max) (fun _ => 1) := ⟨fun cs x h => by
  cases n with
  | zero => simp [DataW.trod] at h
  | succ n =>
    unfold DataW.trod at h
    rw [hT] at h
    split at h <;> rename_i hu <;> first | (cases hu; done) | skip
    all_goals first | cases h | skip
    cases hu
    split at h
    · rename_i hw
      cases h
      obtain ⟨rfl, hw⟩ := hw
      exact ⟨_, ⟨⟨rfl, .k _⟩, trivial⟩, by simpa [Lit.wf] using hw, by simp [Rows.uptoBulk]⟩
    · cases h⟩
theorem Opn.str {n T : Nat} (hT : P.underlying T = some .string) : Opn enc P W n T (fun s : ByteArray => [.k (.string s)]) (fun s => s.size ≤ maxLen) (fun s => s.size + 1) := ⟨fun cs x h => by
  cases n with
  | zero => simp [DataW.trod] at h
  | succ n =>
    unfold DataW.trod at h
    rw [hT] at h
    split at h <;> rename_i hu <;> first | (cases hu; done) | skip
    all_goals first | cases h | skip
    split at h
    · rename_i hw
      cases h
      exact ⟨_, ⟨⟨rfl, .k _⟩, trivial⟩, hw, by simp [Rows.uptoBulk]⟩
    · cases h⟩
/-- A slice. -/
theorem Opn.sl {n T e k : Nat} {α : Type} {f : α → List V} {ok : α → Prop} {sz : α → Nat} (p : α → V) (hT : P.underlying T = some (.slice e)) (hc : P.cellsOf e = k) (hk : 0 < k) (hp : ∀ a, (p a).cells = f a) (h : Opn enc P W (n - 1) e f ok sz) :
    Opn enc P W n T (fun l : List α => [.s none (l.map p)]) (fun l => ∀ a ∈ l, ok a) (fun l => (l.map sz).sum + 1) := ⟨fun cs x hx => by
  cases n with
  | zero => simp [DataW.trod] at hx
  | succ n =>
    unfold DataW.trod at hx
    rw [hT] at hx
    split at hx <;> rename_i hu <;> first | (cases hu; done) | skip
    all_goals first | (cases hx; exact ⟨[], ⟨⟨rfl, .s0 (fun _ h => by cases h)⟩, trivial⟩, by simp, by simp [Rows.uptoBulk]⟩) | skip
    all_goals first | cases hx | skip
    cases hu
    rename_i a len cap
    simp only [hc] at hx
    split at hx
    · rename_i hb
      obtain ⟨_, hlc, hcm⟩ := hb
      obtain ⟨elems, he, hx⟩ := Option.bind_eq_some_iff.1 hx
      obtain ⟨rest, hr, hx⟩ := Option.map_eq_some_iff.1 hx
      subst hx
      obtain ⟨e1, e2⟩ := mapM_some he
      rw [List.length_range] at e1
      have key : ∀ j, j < len → ∃ y : α, (∃ b, elems[j]? = some b ∧ ok y ∧ sz y ≤ Rows.uptoBulk b.1) ∧ (f y).length = k ∧ ∀ i, i < k → ∃ u c, (f y)[i]? = some u ∧ W.cell? ((a.add (j * k)).add i) = some c ∧ u.one = true ∧ Rep W allS u c := fun j hj => by
        obtain ⟨b, h1, h2⟩ := e2 j j (by rw [List.getElem?_range hj])
        obtain ⟨ds, h3, h4⟩ := Option.bind_eq_some_iff.1 h2
        obtain ⟨y, k1, k2, k3⟩ := h.go ds b h4
        unfold World.cells? at h3
        split at h3
        · obtain ⟨m1, m2⟩ := mapM_some h3
          rw [List.length_range] at m1
          obtain ⟨l1, l2⟩ := k1.spec
          refine ⟨y, ⟨b, h1, k2, k3⟩, by omega, fun i hi => ?_⟩
          obtain ⟨c, c1, c2⟩ := m2 i i (by rw [List.getElem?_range hi])
          have hu : (f y)[i]? = some (f y)[i] := List.getElem?_eq_getElem (by omega)
          exact ⟨_, c, hu, c2, l2 i _ c hu c1⟩
        · cases h3
      obtain ⟨ys, hyl, hys⟩ := list_choose len key
      have hspot : 0 < cap → a.spot = none := fun h0 => by
        have : ∃ v : DataW H × List MemPlace, ((W.cells? 0 (a.add (0 * k)) k).bind (DataW.trod enc P W 0 (fun _ => true) true n e)) = some v := by
          rcases Nat.eq_zero_or_pos len with hl | hl
          · subst hl
            simp only [if_true] at hr
            obtain ⟨_, r2⟩ := mapM_some hr
            obtain ⟨v, _, hv⟩ := r2 0 0 (by rw [List.getElem?_range (by omega)])
            exact ⟨v, by simpa using hv⟩
          · obtain ⟨v, _, hv⟩ := e2 0 0 (by rw [List.getElem?_range hl])
            exact ⟨v, hv⟩
        obtain ⟨v, hv⟩ := this
        obtain ⟨ds, h3, _⟩ := Option.bind_eq_some_iff.1 hv
        unfold World.cells? at h3
        split at h3
        · obtain ⟨_, m2⟩ := mapM_some h3
          obtain ⟨c, _, c2⟩ := m2 0 0 (by rw [List.getElem?_range hk])
          obtain ⟨b, o, s⟩ := a
          cases s with
          | none => rfl
          | some s =>
            exfalso
            simp only [Addr.add, Nat.zero_mul] at c2
            simp [World.cell?] at c2
            split at c2 <;> simp at c2
        · cases h3
      refine ⟨ys, ⟨⟨rfl, ?_⟩, trivial⟩, fun y hy => ?_, ?_⟩
      · rcases Nat.eq_zero_or_pos cap with h0 | h0
        · obtain rfl : len = 0 := by omega
          subst h0
          have : ys = [] := List.eq_nil_of_length_eq_zero hyl
          subst this
          exact .se a (fun _ h => by cases h)
        · have hsp := hspot h0
          obtain ⟨b, o, s⟩ := a
          simp only at hsp
          subst hsp
          have hfl : ∀ y ∈ ys, (f y).length = k := fun y hy => by
            obtain ⟨j, hj⟩ := List.getElem?_of_mem hy
            exact (hys j y hj).2.1
          have hfe : (ys.map p).flatMap V.cells = ys.flatMap f := by
            rw [List.flatMap_map]
            congr 1
            funext y; exact hp y
          have hat : ∀ (J : Nat) u, (ys.flatMap f)[J]? = some u → ∃ c, W.cell? ⟨b, o + J, none⟩ = some c ∧ u.one = true ∧ Rep W allS u c := fun J u hu => by
            obtain ⟨y, h1, h2⟩ := flat_inv hk hfl hu
            obtain ⟨_, _, h3⟩ := hys _ y h1
            obtain ⟨u', c, k1, k2, k3⟩ := h3 (J % k) (Nat.mod_lt _ hk)
            rw [k1] at h2; cases h2
            rw [Addr.add_lit, Addr.add_lit, Nat.add_assoc, Nat.mul_comm, Nat.div_add_mod] at k2
            exact ⟨c, k2, k3⟩
          have hlen : (ys.map p).length = len := by simpa using hyl
          rw [← hlen]
          refine .s (size := k) (fun J => (W.cell? ⟨b, o + J, none⟩).getD undef) (by omega) hcm hk (fun v hv => ?_) (fun J u hu => ?_) (fun J u hu => ?_) (fun _ h => by cases h)
          · obtain ⟨y, hy, rfl⟩ := List.mem_map.1 hv
            rw [hp]
            refine ⟨hfl y hy, fun u hu => ?_⟩
            obtain ⟨J, hJ⟩ := List.getElem?_of_mem (List.mem_flatMap.2 ⟨y, hy, hu⟩)
            obtain ⟨_, _, h1, _⟩ := hat J u hJ
            exact h1
          · rw [hfe] at hu
            obtain ⟨c, h1, _⟩ := hat J u hu
            exact ⟨World.block_lt_of_cell? W ⟨b, o + J, none⟩ (by rw [h1]), trivial, by rw [h1]; rfl⟩
          · rw [hfe] at hu
            obtain ⟨c, h1, _, h2⟩ := hat J u hu
            rw [h1]
            exact h2
      · obtain ⟨j, hj⟩ := List.getElem?_of_mem hy
        obtain ⟨⟨b, _, h1, _⟩, _⟩ := hys j y hj
        exact h1
      · have := sum_le (f := sz) (g := fun x : DataW H × List MemPlace => Rows.uptoBulk x.1) (l := ys) (m := elems) (by omega) fun j y b hy hb => by
          obtain ⟨⟨b', hb', _, h1⟩, _⟩ := hys j y hy
          rw [hb] at hb'; cases hb'
          exact h1
        rw [sum_bulk] at this
        simp only [Rows.uptoBulk]
        omega
    · cases hx⟩
/-- A struct's fields, from a place on. -/
def tileB (P : Program) (total : Nat) : Nat → List Field → Bool
  | off, [] => Nat.beq off total
  | off, f :: r => Nat.beq f.offset off && tileB P total (off + P.cellsOf f.type) r
structure OpnFs (enc : TypeId × Value → H) (P : Program) (W : World) (n : Nat) (fs : List Field) {α : Type} (f : α → List V) (ok : α → Prop) (sz : α → Nat) : Prop where
  go : ∀ (total off : Nat) (cs : List Value) (xs : List (DataW H × List MemPlace)), tileB P total off fs = true → cs.length = total → (fs.mapM fun fl => DataW.trod enc P W 0 (fun _ => true) true n fl.type ((cs.drop fl.offset).take (P.cellsOf fl.type))) = some xs → ∃ a, RO W (f a) (cs.drop off) ∧ ok a ∧ sz a ≤ Rows.uptoBulkAll (xs.map (·.1))
theorem OpnFs.nil {n : Nat} : OpnFs enc P W n [] (fun _ : Unit => []) (fun _ => True) (fun _ => 0) := ⟨fun total off cs xs ht hl hx => by
  have : off = total := Nat.eq_of_beq_eq_true ht
  refine ⟨(), ?_, trivial, Nat.zero_le _⟩
  rw [List.drop_of_length_le (by omega)]
  trivial⟩
theorem OpnFs.cons {n : Nat} {fl : Field} {fs : List Field} {α β : Type} {f : α → List V} {ok : α → Prop} {sz : α → Nat} {f' : β → List V} {ok' : β → Prop} {sz' : β → Nat} (h : Opn enc P W n fl.type f ok sz) (k : OpnFs enc P W n fs f' ok' sz') :
    OpnFs enc P W n (fl :: fs) (fun x : α × β => f x.1 ++ f' x.2) (fun x => ok x.1 ∧ ok' x.2) (fun x => sz x.1 + sz' x.2) := ⟨fun total off cs xs ht hl hx => by
  simp only [tileB, Bool.and_eq_true] at ht
  have ho : fl.offset = off := Nat.eq_of_beq_eq_true ht.1
  simp only [List.mapM_cons, Option.bind_eq_bind, Option.pure_def] at hx
  obtain ⟨b, hb, hx⟩ := Option.bind_eq_some_iff.1 hx
  obtain ⟨bs, hbs, hx⟩ := Option.bind_eq_some_iff.1 hx
  cases hx
  obtain ⟨a, a1, a2, a3⟩ := h.go _ _ hb
  obtain ⟨c, c1, c2, c3⟩ := k.go _ _ _ _ ht.2 hl hbs
  refine ⟨(a, c), ?_, ⟨a2, c2⟩, by simp only [List.map_cons, Rows.uptoBulkAll]; omega⟩
  have := a1.append c1
  rw [ho, ← List.drop_drop, List.take_append_drop] at this
  exact this⟩
theorem Opn.st {n T : Nat} {fs : Array Field} {α : Type} {f : α → List V} {ok : α → Prop} {sz : α → Nat} (hT : P.underlying T = some (.struct fs)) (ht : tileB P (P.cellsOf T) 0 fs.toList = true) (h : OpnFs enc P W (n - 1) fs.toList f ok sz) :
    Opn enc P W n T f ok (fun a => sz a + 1) := ⟨fun cs x hx => by
  cases n with
  | zero => simp [DataW.trod] at hx
  | succ n =>
    have hx : (if cs.length = P.cellsOf T then (fs.toList.mapM fun fl => DataW.trod enc P W 0 (fun _ => true) true n fl.type ((cs.drop fl.offset).take (P.cellsOf fl.type))).map fun xs => (DataW.agg (xs.map (·.1)), xs.flatMap (·.2)) else none) = some x := by
      unfold DataW.trod at hx
      rw [hT] at hx
      exact hx
    split at hx
    · rename_i hl
      obtain ⟨xs, hxs, hx⟩ := Option.map_eq_some_iff.1 hx
      subst hx
      obtain ⟨a, h1, h2, h3⟩ := h.go _ _ _ _ ht hl hxs
      rw [List.drop_zero] at h1
      exact ⟨a, h1, h2, by simp only [Rows.uptoBulk]; omega⟩
    · cases hx⟩
/-- An array. -/
theorem Opn.ar {n T m e : Nat} {α : Type} {f : α → List V} {ok : α → Prop} {sz : α → Nat} (hT : P.underlying T = some (.array m e)) (hc : P.cellsOf T = m * P.cellsOf e) (h : Opn enc P W (n - 1) e f ok sz) :
    Opn enc P W n T (fun l : List α => l.flatMap f) (fun l => l.length = m ∧ ∀ a ∈ l, ok a) (fun l => (l.map sz).sum + 1) := ⟨fun cs x hx => by
  cases n with
  | zero => simp [DataW.trod] at hx
  | succ n =>
    have hx : (if cs.length = P.cellsOf T then ((List.range m).mapM fun i => DataW.trod enc P W 0 (fun _ => true) true n e ((cs.drop (i * P.cellsOf e)).take (P.cellsOf e))).map fun xs => (DataW.agg (xs.map (·.1)), xs.flatMap (·.2)) else none) = some x := by
      unfold DataW.trod at hx
      rw [hT] at hx
      exact hx
    split at hx
    · rename_i hl
      obtain ⟨xs, hxs, hx⟩ := Option.map_eq_some_iff.1 hx
      subst hx
      obtain ⟨e1, e2⟩ := mapM_some hxs
      rw [List.length_range] at e1
      obtain ⟨ys, hyl, hys⟩ := list_choose (p := fun j (y : α) => (∃ b, xs[j]? = some b ∧ ok y ∧ sz y ≤ Rows.uptoBulk b.1) ∧ RO W (f y) ((cs.drop (j * P.cellsOf e)).take (P.cellsOf e))) m fun j hj => by
        obtain ⟨b, h1, h2⟩ := e2 j j (by rw [List.getElem?_range hj])
        obtain ⟨y, k1, k2, k3⟩ := h.go _ b h2
        exact ⟨y, ⟨b, h1, k2, k3⟩, k1⟩
      refine ⟨ys, ?_, ⟨hyl, fun y hy => ?_⟩, ?_⟩
      · have hrf := range_flatten (s := P.cellsOf e) (n := m) (cs := cs) (by rw [hl, hc])
        rw [← hrf, List.flatMap]
        refine RO.flatten (by simp [hyl]) fun j us ds h1 h2 => ?_
        rw [List.getElem?_map] at h1 h2
        obtain ⟨y, hy, rfl⟩ := Option.map_eq_some_iff.1 h1
        obtain ⟨i, hi, rfl⟩ := Option.map_eq_some_iff.1 h2
        have hjl : j < m := by have := (List.getElem?_eq_some_iff.1 hy).1; omega
        rw [List.getElem?_range hjl] at hi
        cases hi
        exact (hys j y hy).2
      · obtain ⟨j, hj⟩ := List.getElem?_of_mem hy
        obtain ⟨⟨b, _, h1, _⟩, _⟩ := hys j y hj
        exact h1
      · have := sum_le (f := sz) (g := fun x : DataW H × List MemPlace => Rows.uptoBulk x.1) (l := ys) (m := xs) (by omega) fun j y b hy hb => by
          obtain ⟨⟨b', hb', _, h1⟩, _⟩ := hys j y hy
          rw [hb] at hb'; cases hb'
          exact h1
        rw [sum_bulk] at this
        simp only [Rows.uptoBulk]
        omega
    · cases hx⟩
/-! ### Arguments -/
/-- A struct or an array. -/
def aggT (P : Program) (t : Nat) : Bool :=
  match P.underlying t with
  | some (.struct _) | some (.array _ _) => true
  | _ => false
theorem Opn.argA {T base : Nat} {α : Type} {f : α → List V} {ok : α → Prop} {sz : α → Nat} {v : Value} {d : DataW H} {ps : List MemPlace} (h : ∀ n, Opn enc P W n T f ok sz) (ha : aggT P T = true) (hv : Value.okWide P W .any base T v) (ht : DataW.Trod enc P W 0 (fun _ => true) true T v d ps) :
    ∃ a, Rep W allS (.a (f a)) v ∧ ok a ∧ sz a ≤ Rows.uptoBulk d := by
  obtain ⟨n, hn⟩ := ht
  obtain ⟨a, h1, h2, h3⟩ := (h n).go _ _ hn
  obtain ⟨cs, rfl⟩ : ∃ cs, v = .agg cs := by
    unfold Value.okWide at hv
    unfold aggT at ha
    split at hv
    · obtain ⟨cs, rfl, _⟩ := hv; exact ⟨cs, rfl⟩
    · obtain ⟨cs, rfl, _⟩ := hv; exact ⟨cs, rfl⟩
    · rename_i k1 k2
      split at ha
      · rename_i fs hu; exact absurd hu (k1 fs)
      · rename_i m e hu; exact absurd hu (k2 m e)
      · cases ha
  obtain ⟨l1, l2⟩ := h1.spec
  refine ⟨a, .a (by simpa [Value.cells] using l1) (fun u hu => ?_) (fun j u x hj hx => ?_), h2, h3⟩
  · obtain ⟨j, hj⟩ := List.getElem?_of_mem hu
    have hjl := (List.getElem?_eq_some_iff.1 hj).1
    have hx : (Value.cells (.agg cs)).toList[j]? = some (Value.cells (.agg cs)).toList[j] := List.getElem?_eq_getElem (by omega)
    exact (l2 j u _ hj hx).1
  · exact (l2 j u x hj (by simpa [Value.cells] using hx)).2
theorem ro_one {u : V} {cs : List Value} (h : RO W [u] cs) : ∃ c, cs = [c] ∧ Rep W allS u c := by
  match cs, h with
  | [c], h => exact ⟨c, rfl, h.1.2⟩
theorem Opn.arg1 {T base : Nat} {α : Type} {p : α → V} {ok : α → Prop} {sz : α → Nat} {v : Value} {d : DataW H} {ps : List MemPlace} (h : ∀ n, Opn enc P W n T (fun a => [p a]) ok sz) (ha : (match P.underlying T with | some .bool | some (.int _) | some .string | some (.slice _) => true | _ => false) = true) (hv : Value.okWide P W .any base T v) (ht : DataW.Trod enc P W 0 (fun _ => true) true T v d ps) :
    ∃ a, Rep W allS (p a) v ∧ ok a ∧ sz a ≤ Rows.uptoBulk d := by
  obtain ⟨n, hn⟩ := ht
  obtain ⟨a, h1, h2, h3⟩ := (h n).go _ _ hn
  have hc : v.cells = #[v] := by
    split at ha
    · rename_i hu; obtain ⟨b, rfl⟩ := okWide_bool hu hv; rfl
    · rename_i k hu; obtain ⟨b, rfl⟩ := okWide_int hu hv; rfl
    · rename_i hu; obtain ⟨b, rfl⟩ := okWide_string hu hv; rfl
    · rename_i e hu; obtain ⟨x, y, z, rfl⟩ := okWide_slice hu hv; rfl
    · cases ha
  rw [hc] at h1
  obtain ⟨c, hc', hr⟩ := ro_one h1
  simp at hc'
  subst hc'
  exact ⟨a, hr, h2, h3⟩
/-! ### Plain types -/
theorem Opn.u8 {n T : Nat} (hT : P.underlying T = some (.int .u8)) : Opn enc P W n T (fun b : UInt8 => [bK b]) (fun _ => True) (fun _ => 1) :=
  (Opn.int hT).map (fun z => UInt8.ofNat z.toNat) (fun z hz => by
    have h0 : IntKind.u8.min = 0 := rfl
    have h1 : IntKind.u8.max = 255 := rfl
    have e : (UInt8.ofNat z.toNat).toNat = z.toNat := UInt8.toNat_ofNat_of_lt (by show _ < 256; omega)
    have : ((z.toNat : Nat) : Int) = z := by omega
    simp only [bK, e, this]) (fun _ _ => trivial) fun _ _ => Nat.le_refl _
theorem Opn.u64 {n T : Nat} (hT : P.underlying T = some (.int .u64)) : Opn enc P W n T (fun b : UInt64 => [qK b]) (fun _ => True) (fun _ => 1) :=
  (Opn.int hT).map (fun z => UInt64.ofNat z.toNat) (fun z hz => by
    have h0 : IntKind.u64.min = 0 := rfl
    have h1 : IntKind.u64.max = 18446744073709551615 := rfl
    have e : (UInt64.ofNat z.toNat).toNat = z.toNat := UInt64.toNat_ofNat_of_lt (by show _ < 18446744073709551616; omega)
    have : ((z.toNat : Nat) : Int) = z := by omega
    simp only [qK, e, this]) (fun _ _ => trivial) fun _ _ => Nat.le_refl _
theorem Opn.i64 {n T : Nat} (hT : P.underlying T = some (.int .i64)) : Opn enc P W n T (fun z : Int => [.k (.int .i64 z)]) (fun z => -9223372036854775808 ≤ z ∧ z ≤ 9223372036854775807) (fun _ => 1) :=
  (Opn.int hT).map id (fun _ _ => rfl) (fun _ hz => hz) fun _ _ => Nat.le_refl _
theorem sum_map_one {α : Type} (l : List α) : (l.map fun _ => 1).sum = l.length := by induction l with
  | nil => rfl
  | cons a l ih => simp [ih]; omega
theorem flatMap_one {α : Type} (g : α → V) (l : List α) : l.flatMap (fun a => [g a]) = l.map g := by
  induction l with
  | nil => rfl
  | cons a l ih => rw [List.flatMap_cons, List.map_cons, ih]; rfl
/-- Bytes. -/
theorem Opn.bytes {n T e : Nat} (hT : P.underlying T = some (.slice e)) (hE : P.underlying e = some (.int .u8)) (hc : P.cellsOf e = 1) : Opn enc P W n T (fun l : List UInt8 => [.s none (l.map bK)]) (fun _ => True) (fun l => l.length + 1) :=
  (Opn.sl bK hT hc (by decide) (fun _ => rfl) (Opn.u8 hE)).map id (fun _ _ => rfl) (fun _ _ => trivial) fun l _ => by rw [sum_map_one]; exact Nat.le_refl _
theorem Opn.u64s {n T e : Nat} (hT : P.underlying T = some (.slice e)) (hE : P.underlying e = some (.int .u64)) (hc : P.cellsOf e = 1) : Opn enc P W n T (fun l : List UInt64 => [.s none (l.map qK)]) (fun _ => True) (fun l => l.length + 1) :=
  (Opn.sl qK hT hc (by decide) (fun _ => rfl) (Opn.u64 hE)).map id (fun _ _ => rfl) (fun _ _ => trivial) fun l _ => by rw [sum_map_one]; exact Nat.le_refl _
/-- An array of bytes, or of numbers. -/
theorem Opn.arr8 {n T e m : Nat} (hT : P.underlying T = some (.array m e)) (hE : P.underlying e = some (.int .u8)) (hc : P.cellsOf T = m * P.cellsOf e) : Opn enc P W n T (fun l : List UInt8 => l.map bK) (fun l => l.length = m) (fun l => l.length + 1) :=
  (Opn.ar hT hc (Opn.u8 hE)).map id (fun l _ => (flatMap_one bK l).symm) (fun _ h => h.1) fun l _ => by rw [sum_map_one]; exact Nat.le_refl _
theorem Opn.arr64 {n T e m : Nat} (hT : P.underlying T = some (.array m e)) (hE : P.underlying e = some (.int .u64)) (hc : P.cellsOf T = m * P.cellsOf e) : Opn enc P W n T (fun l : List UInt64 => l.map qK) (fun l => l.length = m) (fun l => l.length + 1) :=
  (Opn.ar hT hc (Opn.u64 hE)).map id (fun l _ => (flatMap_one qK l).symm) (fun _ h => h.1) fun l _ => by rw [sum_map_one]; exact Nat.le_refl _
end
end Lf
end Go.Proofs.Ytnmjpbcbldenmaa

/- What the given statement tells of a number. -/
namespace Go.Proofs.Ytnmjpbcbldenmaa
open Go.RowKit Rg Rp Go.WideShapes Go.ChangeShapes
namespace Lf
section
variable {H : Type} {enc : TypeId × Value → H} {W : World} {P : Program}
theorem opnU8 {T n : Nat} (hT : P.underlying T = some (.int .u8)) : Opn enc P W n T (fun x : Nat => [.k (.int .u8 ((x : Nat) : Int))]) (fun x => x < 256) (fun _ => 1) :=
  (Opn.u8 hT).map (fun b => b.toNat) (fun _ _ => rfl) (fun b _ => b.toNat_lt) fun _ _ => Nat.le_refl _
theorem opnU64 {T n : Nat} (hT : P.underlying T = some (.int .u64)) : Opn enc P W n T (fun x : Nat => [uK x]) (fun x => x < 18446744073709551616) (fun _ => 1) :=
  (Opn.u64 hT).map (fun b => b.toNat) (fun _ _ => rfl) (fun b _ => b.toNat_lt) fun _ _ => Nat.le_refl _
end
end Lf
end Go.Proofs.Ytnmjpbcbldenmaa

/- What the given statement tells of seats and of votes. -/
namespace Go.Proofs.Ytnmjpbcbldenmaa
open Go.RowKit Rg Rp Go.WideShapes Go.ChangeShapes
namespace Lf
section
variable {H : Type} {enc : TypeId × Value → H} {W : World}
theorem opnU64s (n : Nat) : Opn enc Try.prog W n 60 (fun l : List Nat => [.s none (l.map uK)]) (fun l => ∀ x ∈ l, x < 18446744073709551616) (fun l => l.length + 1) :=
  (Opn.sl (e := 33) (k := 1) uK (by kernel_rfl) (by kernel_rfl) (by decide) (fun _ => rfl) (opnU64 (by kernel_rfl))).map id (fun _ _ => rfl) (fun _ h => h) fun l _ => by rw [sum_map_one]; exact Nat.le_refl _
theorem opnHash (n : Nat) : Opn enc Try.prog W n 51 (fun l : List UInt8 => l.map bK) (fun l => l.length = 32) (fun l => l.length + 1) :=
  Opn.arr8 (m := 32) (e := 5) (by kernel_rfl) (by kernel_rfl) (by kernel_rfl)
theorem opnVote (n : Nat) : Opn enc Try.prog W n 79 St.voteC St.VoteOk (fun _ => 1) := by
  have h := Opn.st (T := 79) (n := n) (P := Try.prog) (enc := enc) (W := W) (fs := #[⟨"Seat", 33, 0, false, "", "", 0⟩, ⟨"Sum", 51, 1, false, "", "", 8⟩]) (by kernel_rfl) (by kernel_rfl)
    (OpnFs.cons (opnU64 (by kernel_rfl)) (OpnFs.cons (opnHash _) OpnFs.nil))
  refine h.map (fun x => (x.1, x.2.1)) (fun x _ => ?_) (fun x hx => ?_) (fun x _ => ?_)
  · simp only [St.voteC, List.append_nil, List.cons_append, List.nil_append]
  · exact ⟨hx.1, hx.2.1⟩
  · omega
theorem opnVotes (n : Nat) : Opn enc Try.prog W n 65 (fun l : List St.VoteT => [.s none (l.map St.voteV)]) (fun l => ∀ v ∈ l, St.VoteOk v) (fun l => l.length + 1) :=
  (Opn.sl (e := 79) (k := 33) St.voteV (by kernel_rfl) (by kernel_rfl) (by decide) (fun _ => rfl) (opnVote _)).map id (fun _ _ => rfl) (fun _ h => h) fun l _ => by rw [sum_map_one]; exact Nat.le_refl _
end
end Lf
end Go.Proofs.Ytnmjpbcbldenmaa

/- What the given statement tells of stores and updates. -/
namespace Go.Proofs.Ytnmjpbcbldenmaa
open Go.RowKit Rg Rp Go.WideShapes Go.ChangeShapes
namespace Lf
section
variable {H : Type} {enc : TypeId × Value → H} {W : World}
theorem opnAddr (n : Nat) : Opn enc Try.prog W n 38 (fun l : List UInt8 => l.map bK) (fun l => l.length = 8) (fun l => l.length + 1) :=
  Opn.arr8 (m := 8) (e := 5) (by kernel_rfl) (by kernel_rfl) (by kernel_rfl)
theorem opnHdr (n : Nat) : Opn enc Try.prog W n 59 hdrC Hdr.ok (fun _ => 1) := by
  have h := Opn.st (T := 59) (n := n) (P := Try.prog) (enc := enc) (W := W) (fs := #[⟨"Parent", 51, 0, false, "", "", 0⟩, ⟨"Number", 33, 32, false, "", "", 32⟩, ⟨"Time", 33, 33, false, "", "", 40⟩, ⟨"Keeper", 38, 34, false, "", "", 48⟩, ⟨"Limit", 33, 42, false, "", "", 56⟩, ⟨"Used", 33, 43, false, "", "", 64⟩, ⟨"Bloom", 51, 44, false, "", "", 72⟩, ⟨"State", 51, 76, false, "", "", 104⟩, ⟨"Txs", 51, 108, false, "", "", 136⟩, ⟨"Receipts", 51, 140, false, "", "", 168⟩, ⟨"Next", 51, 172, false, "", "", 200⟩]) (by kernel_rfl) (by kernel_rfl)
    (OpnFs.cons (opnHash _) (OpnFs.cons (opnU64 (by kernel_rfl)) (OpnFs.cons (opnU64 (by kernel_rfl)) (OpnFs.cons (opnAddr _) (OpnFs.cons (opnU64 (by kernel_rfl)) (OpnFs.cons (opnU64 (by kernel_rfl)) (OpnFs.cons (opnHash _) (OpnFs.cons (opnHash _) (OpnFs.cons (opnHash _) (OpnFs.cons (opnHash _) (OpnFs.cons (opnHash _) OpnFs.nil)))))))))))
  refine h.map (fun x => ⟨x.1, x.2.1, x.2.2.1, x.2.2.2.1, x.2.2.2.2.1, x.2.2.2.2.2.1, x.2.2.2.2.2.2.1, x.2.2.2.2.2.2.2.1, x.2.2.2.2.2.2.2.2.1, x.2.2.2.2.2.2.2.2.2.1, x.2.2.2.2.2.2.2.2.2.2.1⟩) (fun x _ => ?_) (fun x hx => ?_) (fun x _ => ?_)
  · simp only [hdrC_eq, List.append_nil, List.cons_append, List.nil_append]
  · obtain ⟨h1, h2, h3, h4, h5, h6, h7, h8, h9, h10, h11, _⟩ := hx
    exact ⟨h1, h2, h3, h4, h5, h6, h7, h8, h9, h10, h11⟩
  · omega
theorem opnStore (n : Nat) : Opn enc Try.prog W n 62 storeC (fun s => s.hdr.ok ∧ seats64 s.seats ∧ seats64 s.next) (fun s => s.seats.length + s.next.length + 1) := by
  have h := Opn.st (T := 62) (n := n) (P := Try.prog) (enc := enc) (W := W) (fs := #[⟨"Header", 59, 0, false, "", "", 0⟩, ⟨"Seats", 60, 204, false, "", "", 232⟩, ⟨"Next", 60, 205, false, "", "", 256⟩]) (by kernel_rfl) (by kernel_rfl)
    (OpnFs.cons (opnHdr _) (OpnFs.cons (opnU64s _) (OpnFs.cons (opnU64s _) OpnFs.nil)))
  refine h.map (fun x => ⟨x.1, x.2.1, x.2.2.1⟩) (fun x _ => ?_) (fun x hx => ?_) (fun x _ => ?_)
  · simp only [storeC, hx_eq, List.append_nil, List.cons_append, List.nil_append]
  · exact ⟨hx.1, hx.2.1, hx.2.2.1⟩
  · show x.2.1.length + x.2.2.1.length + 1 ≤ _
    omega
theorem opnUpd (n : Nat) : Opn enc Try.prog W n 64 updC (fun u => u.hdr.ok ∧ u.mask < 18446744073709551616 ∧ seats64 u.next) (fun u => u.next.length + 1) := by
  have h := Opn.st (T := 64) (n := n) (P := Try.prog) (enc := enc) (W := W) (fs := #[⟨"Header", 59, 0, false, "", "", 0⟩, ⟨"Mask", 33, 204, false, "", "", 232⟩, ⟨"Next", 60, 205, false, "", "", 240⟩]) (by kernel_rfl) (by kernel_rfl)
    (OpnFs.cons (opnHdr _) (OpnFs.cons (opnU64 (by kernel_rfl)) (OpnFs.cons (opnU64s _) OpnFs.nil)))
  refine h.map (fun x => ⟨x.1, x.2.1, x.2.2.1⟩) (fun x _ => ?_) (fun x hx => ?_) (fun x _ => ?_)
  · simp only [updC, hx_eq, List.append_nil, List.cons_append, List.nil_append]
  · exact ⟨hx.1, hx.2.1, hx.2.2.1⟩
  · show x.2.2.1.length + 1 ≤ _
    omega
theorem opnUpds (n : Nat) : Opn enc Try.prog W n 83 (fun l : List UpM => [.s none (l.map fun u => .a (updC u))]) (fun l => ∀ u ∈ l, u.hdr.ok ∧ u.mask < 18446744073709551616 ∧ seats64 u.next) (fun l => (l.map fun u => u.next.length + 1).sum + 1) :=
  Opn.sl (e := 64) (k := 206) (fun u => .a (updC u)) (by kernel_rfl) (by kernel_rfl) (by decide) (fun _ => rfl) (opnUpd _)
end
theorem stm_ok {s : StM} (h : s.hdr.ok ∧ seats64 s.seats ∧ seats64 s.next) {n : Nat} (hs : s.seats.length + s.next.length + 1 ≤ n) (hn : n ≤ 1048576) : s.ok := ⟨h.1, h.2.1, h.2.2, by omega, by omega⟩
theorem upm_ok {u : UpM} (h : u.hdr.ok ∧ u.mask < 18446744073709551616 ∧ seats64 u.next) {n : Nat} (hs : u.next.length + 1 ≤ n) (hn : n ≤ 1048576) : u.ok := ⟨h.1, h.2.1, h.2.2, by omega⟩
theorem upms_ok {l : List UpM} (h : ∀ u ∈ l, u.hdr.ok ∧ u.mask < 18446744073709551616 ∧ seats64 u.next) {n : Nat} (hs : (l.map fun u => u.next.length + 1).sum + 1 ≤ n) (hn : n ≤ 1048576) : l.length < 10000000 ∧ ∀ u ∈ l, UpM.ok u := by
  have key : ∀ (l : List UpM), (∀ u ∈ l, u.next.length + 1 ≤ (l.map fun u => u.next.length + 1).sum) ∧ l.length ≤ (l.map fun u => u.next.length + 1).sum := by
    intro l
    induction l with
    | nil => exact ⟨fun u hu => (by cases hu), by simp⟩
    | cons a r ih =>
      simp only [List.map_cons, List.sum_cons, List.length_cons]
      refine ⟨fun u hu => ?_, by omega⟩
      rcases List.mem_cons.1 hu with rfl | hu
      · omega
      · have := ih.1 u hu; omega
  obtain ⟨k1, k2⟩ := key l
  exact ⟨by omega, fun u hu => upm_ok (h u hu) (n := n) (by have := k1 u hu; omega) hn⟩
end Lf
end Go.Proofs.Ytnmjpbcbldenmaa

/- LightSkip: the law's function answers true at every input of bulk at most 1048576, and touches no old memory; from its walk to the given statement. Conditions: the statement's own bound, nothing else. -/
namespace Go.Proofs.Ytnmjpbcbldenmaa.lawLightSkip
open Go.ChangeShapes Go.WideShapes Go.ChangeAt Go.RowKit Rp
set_option linter.unusedVariables false

theorem own : ownKnob Try.prog.godebug = none := by kernel_rfl
theorem laid : laidOutB Try.prog = true := by kernel_rfl
theorem rd_x0 : Try.prog.readableRec 83 = true ∧ 83 < Try.prog.types.size := ⟨by kernel_rfl, of_decide_eq_true (by kernel_rfl)⟩
theorem rd_x1 : Try.prog.readableRec 65 = true ∧ 65 < Try.prog.types.size := ⟨by kernel_rfl, of_decide_eq_true (by kernel_rfl)⟩
theorem rd_x2 : Try.prog.readableRec 62 = true ∧ 62 < Try.prog.types.size := ⟨by kernel_rfl, of_decide_eq_true (by kernel_rfl)⟩
theorem rds : ∀ t ∈ ([62, 83, 65] : List Nat), Try.prog.readableRec t = true ∧ t < Try.prog.types.size := by
  intro t ht
  rcases List.mem_cons.1 ht with rfl | ht
  · exact rd_x2
  rcases List.mem_cons.1 ht with rfl | ht
  · exact rd_x0
  rcases List.mem_cons.1 ht with rfl | ht
  · exact rd_x1
  cases ht

set_option maxRecDepth 100000 in
theorem contract (H : Type) (enc : TypeId × Value → H) (W : World) (base : Nat) (args : Array Value) (ds gs : List (DataW H)) (before : List MemPlace)
    (hval : ∀ (j : Nat) t v, Try.f11.params[j]? = some t → args[j]? = some v → Value.okWide Try.prog W .any base t v)
    (hW : DataW.Whole enc Try.prog Try.f11.params.toList Rows.lightSkipSpec.vars false W args.toList ds gs before) (hk : Rows.uptoSmall H (ds ++ gs) = true) :
    Calls Try.prog 11 args W fun e W' => ∃ v, e = .returned v ∧ Rows.lightSkipSpec.post enc Try.prog Try.f11 false true false false W args v W' := by
  have hW0 := hW
  obtain ⟨p, q, hA0, hV, rfl, hfz, hnd⟩ := hW
  have hA : DataW.TrodAll enc Try.prog W 0 (fun _ => true) true Try.f11.params.toList args.toList ds p := hA0
  rw [Try.params11] at hA hval
  obtain ⟨v0, vs0, d0, ds0, p0, q0, hargs, rfl, rfl, h0, r0⟩ := trodAll_cons hA
  obtain ⟨v1, vs1, d1, ds1, p1, q1, rfl, rfl, rfl, h1, r1⟩ := trodAll_cons r0
  obtain ⟨v2, vs2, d2, ds2, p2, q2, rfl, rfl, rfl, h2, r2⟩ := trodAll_cons r1
  obtain ⟨rfl, rfl, rfl⟩ := trodAll_nil r2
  obtain rfl : args = #[v0, v1, v2] := by cases args; simp_all
  obtain ⟨rfl, rfl⟩ := trodVars_none hV
  have hbulk : Rows.uptoBulkAll [d0, d1, d2] ≤ 1048576 := by simpa only [List.append_nil] using of_decide_eq_true hk
  simp only [Rows.uptoBulkAll] at hbulk
  obtain ⟨x0, hr0, hk0, hs0⟩ := Lf.Opn.argA (fun m => Lf.opnStore m) (by kernel_rfl) (hval 0 62 v0 rfl rfl) h0
  obtain ⟨x1, hr1, hk1, hs1⟩ := Lf.Opn.arg1 (fun m => Lf.opnUpds m) (by kernel_rfl) (hval 1 83 v1 rfl rfl) h1
  obtain ⟨x2, hr2, hk2, hs2⟩ := Lf.Opn.arg1 (fun m => Lf.opnVotes m) (by kernel_rfl) (hval 2 65 v2 rfl rfl) h2
  refine (Lf.LF.holds (Lf.Sr.LightSkip x0 x1 x2 (Lf.stm_ok hk0 hs0 (by omega)) (Lf.upms_ok hk1 hs1 (by omega)).2 (Lf.upms_ok hk1 hs1 (by omega)).1 hk2 (by omega)) W [v0, v1, v2] ⟨hr0, hr1, hr2, trivial⟩).mono fun e W' ⟨he, hx⟩ => ⟨_, he, Fr.post_of_below laid hW0 rfl rfl (by rw [Try.params11]; exact rds) (tb := 4) rfl (by kernel_rfl) hx⟩

set_option maxRecDepth 100000 in
theorem lifted (os : Os) (started : os.Started) (H : Type) (enc : TypeId × Value → H) (F : Stop.Interp) :
    ReturnsInHanded {} Try.checked os 11 .any ((Rows.OpenSpec.upto Rows.lightSkipSpec).pre6 enc Try.prog Try.f11 Rows.lightSkipUptoRow.domain false) (((Rows.OpenSpec.upto Rows.lightSkipSpec).at F).post enc Try.prog Try.f11 false true false false) := by
  refine returnsInHanded_of_cond (C := Try.checked) (s := Rows.OpenSpec.upto Rows.lightSkipSpec) (k := Rows.uptoSmall) rfl own started (by kernel_rfl) Try.func11
    (OpenSpec.witness (enc := enc) (C := Try.checked) (s := Rows.OpenSpec.upto Rows.lightSkipSpec) (k := Rows.uptoSmall) rfl false ⟨#[], #[.agg #[.int .u8 0, .int .u8 0, .int .u8 0, .int .u8 0, .int .u8 0, .int .u8 0, .int .u8 0, .int .u8 0, .int .u8 0, .int .u8 0, .int .u8 0, .int .u8 0, .int .u8 0, .int .u8 0, .int .u8 0, .int .u8 0, .int .u8 0, .int .u8 0, .int .u8 0, .int .u8 0, .int .u8 0, .int .u8 0, .int .u8 0, .int .u8 0, .int .u8 0, .int .u8 0, .int .u8 0, .int .u8 0, .int .u8 0, .int .u8 0, .int .u8 0, .int .u8 0, .int .u64 0, .int .u64 0, .int .u8 0, .int .u8 0, .int .u8 0, .int .u8 0, .int .u8 0, .int .u8 0, .int .u8 0, .int .u8 0, .int .u64 0, .int .u64 0, .int .u8 0, .int .u8 0, .int .u8 0, .int .u8 0, .int .u8 0, .int .u8 0, .int .u8 0, .int .u8 0, .int .u8 0, .int .u8 0, .int .u8 0, .int .u8 0, .int .u8 0, .int .u8 0, .int .u8 0, .int .u8 0, .int .u8 0, .int .u8 0, .int .u8 0, .int .u8 0, .int .u8 0, .int .u8 0, .int .u8 0, .int .u8 0, .int .u8 0, .int .u8 0, .int .u8 0, .int .u8 0, .int .u8 0, .int .u8 0, .int .u8 0, .int .u8 0, .int .u8 0, .int .u8 0, .int .u8 0, .int .u8 0, .int .u8 0, .int .u8 0, .int .u8 0, .int .u8 0, .int .u8 0, .int .u8 0, .int .u8 0, .int .u8 0, .int .u8 0, .int .u8 0, .int .u8 0, .int .u8 0, .int .u8 0, .int .u8 0, .int .u8 0, .int .u8 0, .int .u8 0, .int .u8 0, .int .u8 0, .int .u8 0, .int .u8 0, .int .u8 0, .int .u8 0, .int .u8 0, .int .u8 0, .int .u8 0, .int .u8 0, .int .u8 0, .int .u8 0, .int .u8 0, .int .u8 0, .int .u8 0, .int .u8 0, .int .u8 0, .int .u8 0, .int .u8 0, .int .u8 0, .int .u8 0, .int .u8 0, .int .u8 0, .int .u8 0, .int .u8 0, .int .u8 0, .int .u8 0, .int .u8 0, .int .u8 0, .int .u8 0, .int .u8 0, .int .u8 0, .int .u8 0, .int .u8 0, .int .u8 0, .int .u8 0, .int .u8 0, .int .u8 0, .int .u8 0, .int .u8 0, .int .u8 0, .int .u8 0, .int .u8 0, .int .u8 0, .int .u8 0, .int .u8 0, .int .u8 0, .int .u8 0, .int .u8 0, .int .u8 0, .int .u8 0, .int .u8 0, .int .u8 0, .int .u8 0, .int .u8 0, .int .u8 0, .int .u8 0, .int .u8 0, .int .u8 0, .int .u8 0, .int .u8 0, .int .u8 0, .int .u8 0, .int .u8 0, .int .u8 0, .int .u8 0, .int .u8 0, .int .u8 0, .int .u8 0, .int .u8 0, .int .u8 0, .int .u8 0, .int .u8 0, .int .u8 0, .int .u8 0, .int .u8 0, .int .u8 0, .int .u8 0, .int .u8 0, .int .u8 0, .int .u8 0, .int .u8 0, .int .u8 0, .int .u8 0, .int .u8 0, .int .u8 0, .int .u8 0, .int .u8 0, .int .u8 0, .int .u8 0, .int .u8 0, .int .u8 0, .int .u8 0, .int .u8 0, .int .u8 0, .int .u8 0, .int .u8 0, .int .u8 0, .int .u8 0, .int .u8 0, .int .u8 0, .int .u8 0, .int .u8 0, .int .u8 0, .int .u8 0, .int .u8 0, .int .u8 0, .slice none 0 0, .slice none 0 0], .slice none 0 0, .slice none 0 0], []⟩ 8 (by kernel_rfl) (by kernel_rfl) (by kernel_rfl)
      (x := ([.agg [.agg [.agg [.lit (.int .u8 0), .lit (.int .u8 0), .lit (.int .u8 0), .lit (.int .u8 0), .lit (.int .u8 0), .lit (.int .u8 0), .lit (.int .u8 0), .lit (.int .u8 0), .lit (.int .u8 0), .lit (.int .u8 0), .lit (.int .u8 0), .lit (.int .u8 0), .lit (.int .u8 0), .lit (.int .u8 0), .lit (.int .u8 0), .lit (.int .u8 0), .lit (.int .u8 0), .lit (.int .u8 0), .lit (.int .u8 0), .lit (.int .u8 0), .lit (.int .u8 0), .lit (.int .u8 0), .lit (.int .u8 0), .lit (.int .u8 0), .lit (.int .u8 0), .lit (.int .u8 0), .lit (.int .u8 0), .lit (.int .u8 0), .lit (.int .u8 0), .lit (.int .u8 0), .lit (.int .u8 0), .lit (.int .u8 0)], .lit (.int .u64 0), .lit (.int .u64 0), .agg [.lit (.int .u8 0), .lit (.int .u8 0), .lit (.int .u8 0), .lit (.int .u8 0), .lit (.int .u8 0), .lit (.int .u8 0), .lit (.int .u8 0), .lit (.int .u8 0)], .lit (.int .u64 0), .lit (.int .u64 0), .agg [.lit (.int .u8 0), .lit (.int .u8 0), .lit (.int .u8 0), .lit (.int .u8 0), .lit (.int .u8 0), .lit (.int .u8 0), .lit (.int .u8 0), .lit (.int .u8 0), .lit (.int .u8 0), .lit (.int .u8 0), .lit (.int .u8 0), .lit (.int .u8 0), .lit (.int .u8 0), .lit (.int .u8 0), .lit (.int .u8 0), .lit (.int .u8 0), .lit (.int .u8 0), .lit (.int .u8 0), .lit (.int .u8 0), .lit (.int .u8 0), .lit (.int .u8 0), .lit (.int .u8 0), .lit (.int .u8 0), .lit (.int .u8 0), .lit (.int .u8 0), .lit (.int .u8 0), .lit (.int .u8 0), .lit (.int .u8 0), .lit (.int .u8 0), .lit (.int .u8 0), .lit (.int .u8 0), .lit (.int .u8 0)], .agg [.lit (.int .u8 0), .lit (.int .u8 0), .lit (.int .u8 0), .lit (.int .u8 0), .lit (.int .u8 0), .lit (.int .u8 0), .lit (.int .u8 0), .lit (.int .u8 0), .lit (.int .u8 0), .lit (.int .u8 0), .lit (.int .u8 0), .lit (.int .u8 0), .lit (.int .u8 0), .lit (.int .u8 0), .lit (.int .u8 0), .lit (.int .u8 0), .lit (.int .u8 0), .lit (.int .u8 0), .lit (.int .u8 0), .lit (.int .u8 0), .lit (.int .u8 0), .lit (.int .u8 0), .lit (.int .u8 0), .lit (.int .u8 0), .lit (.int .u8 0), .lit (.int .u8 0), .lit (.int .u8 0), .lit (.int .u8 0), .lit (.int .u8 0), .lit (.int .u8 0), .lit (.int .u8 0), .lit (.int .u8 0)], .agg [.lit (.int .u8 0), .lit (.int .u8 0), .lit (.int .u8 0), .lit (.int .u8 0), .lit (.int .u8 0), .lit (.int .u8 0), .lit (.int .u8 0), .lit (.int .u8 0), .lit (.int .u8 0), .lit (.int .u8 0), .lit (.int .u8 0), .lit (.int .u8 0), .lit (.int .u8 0), .lit (.int .u8 0), .lit (.int .u8 0), .lit (.int .u8 0), .lit (.int .u8 0), .lit (.int .u8 0), .lit (.int .u8 0), .lit (.int .u8 0), .lit (.int .u8 0), .lit (.int .u8 0), .lit (.int .u8 0), .lit (.int .u8 0), .lit (.int .u8 0), .lit (.int .u8 0), .lit (.int .u8 0), .lit (.int .u8 0), .lit (.int .u8 0), .lit (.int .u8 0), .lit (.int .u8 0), .lit (.int .u8 0)], .agg [.lit (.int .u8 0), .lit (.int .u8 0), .lit (.int .u8 0), .lit (.int .u8 0), .lit (.int .u8 0), .lit (.int .u8 0), .lit (.int .u8 0), .lit (.int .u8 0), .lit (.int .u8 0), .lit (.int .u8 0), .lit (.int .u8 0), .lit (.int .u8 0), .lit (.int .u8 0), .lit (.int .u8 0), .lit (.int .u8 0), .lit (.int .u8 0), .lit (.int .u8 0), .lit (.int .u8 0), .lit (.int .u8 0), .lit (.int .u8 0), .lit (.int .u8 0), .lit (.int .u8 0), .lit (.int .u8 0), .lit (.int .u8 0), .lit (.int .u8 0), .lit (.int .u8 0), .lit (.int .u8 0), .lit (.int .u8 0), .lit (.int .u8 0), .lit (.int .u8 0), .lit (.int .u8 0), .lit (.int .u8 0)], .agg [.lit (.int .u8 0), .lit (.int .u8 0), .lit (.int .u8 0), .lit (.int .u8 0), .lit (.int .u8 0), .lit (.int .u8 0), .lit (.int .u8 0), .lit (.int .u8 0), .lit (.int .u8 0), .lit (.int .u8 0), .lit (.int .u8 0), .lit (.int .u8 0), .lit (.int .u8 0), .lit (.int .u8 0), .lit (.int .u8 0), .lit (.int .u8 0), .lit (.int .u8 0), .lit (.int .u8 0), .lit (.int .u8 0), .lit (.int .u8 0), .lit (.int .u8 0), .lit (.int .u8 0), .lit (.int .u8 0), .lit (.int .u8 0), .lit (.int .u8 0), .lit (.int .u8 0), .lit (.int .u8 0), .lit (.int .u8 0), .lit (.int .u8 0), .lit (.int .u8 0), .lit (.int .u8 0), .lit (.int .u8 0)]], .nil, .nil], .nil, .nil], [], [])) (by kernel_rfl) rfl (by kernel_rfl)) ?_
  intro W base args ds gs before hval hW _ hk _
  exact contract H enc W base args ds gs before hval hW hk

theorem proved : Rows.LightSkipUptoSaid :=
  OpenClaim.holds_of_cond 11 Try.f11 rfl rfl rfl rfl rfl rfl rfl ⟨rfl, rfl, rfl, rfl, rfl⟩ rfl rfl rfl rfl rfl (by kernel_rfl) Try.func11 (by kernel_rfl)
    (of_decide_eq_true (by kernel_rfl)) (by unfold Func.isWrapper; first | (rw [if_pos (by decide +kernel)]; kernel_rfl) | (rw [if_neg (by decide +kernel)]; exact ⟨rfl, rfl⟩))
    (fun os started H enc _ F => lifted os started H enc F)
end Go.Proofs.Ytnmjpbcbldenmaa.lawLightSkip

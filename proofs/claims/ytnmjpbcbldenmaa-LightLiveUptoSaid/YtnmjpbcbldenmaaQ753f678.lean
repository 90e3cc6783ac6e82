/- A part of the proof: texts joined. -/
import Derived.Test.YtnmjpbcbldenmaaQ6e2be88
/- Seats: what is alive. -/
namespace Go.Proofs.Ytnmjpbcbldenmaa
open Go.RowKit Rg
set_option linter.unusedVariables false
set_option maxRecDepth 100000
namespace Lf
namespace St
def h1 : List UInt8 := [1, 0, 0, 0, 0, 0, 0, 0, 0, 0, 0, 0, 0, 0, 0, 0, 0, 0, 0, 0, 0, 0, 0, 0, 0, 0, 0, 0, 0, 0, 0, 0]
theorem named5 : named [3, 5, 8] 5 = [3, 8] := by
  rw [named_s _ (by decide)]
  have e1 : tz 64 5 = 0 := by kernel_rfl
  have e2 : 5 &&& (5 - 1) = 4 := by decide
  have e3 : tz 64 4 = 2 := by kernel_rfl
  have e4 : 4 &&& (4 - 1) = 0 := by decide
  rw [e1, e2, named_s _ (by decide), e3, e4, named_0]
  rfl
theorem tally5 : tally [3, 5, 8] h1 [(3, h1), (8, h1)] = 5 := by kernel_rfl
theorem andn5 : andn 5 5 = 0 := by kernel_rfl
theorem quo5 : quo 5 3 = true := by kernel_rfl
theorem quo4 : quo 4 3 = false := by kernel_rfl
end St
end Lf
end Go.Proofs.Ytnmjpbcbldenmaa

/- Seats: two quorums meet; the tally is all that have voted. -/
namespace Go.Proofs.Ytnmjpbcbldenmaa
open Go.RowKit Rg
set_option linter.unusedVariables false
set_option maxRecDepth 100000
namespace Lf
namespace St
theorem andn_bit {a b : Nat} (hb : b < 18446744073709551616) (i : Nat) : (andn a b).testBit i = (a.testBit i && (decide (i < 64) && !b.testBit i)) := by
  unfold andn
  rw [Nat.testBit_and, show 18446744073709551615 - b = 2 ^ 64 - (b + 1) from by omega, Nat.testBit_two_pow_sub_succ (by simpa using hb)]
theorem bit_lt {a i : Nat} (ha : a < 18446744073709551616) (h : a.testBit i = true) : i < 64 := Classical.byContradiction fun hn => by
  rw [Nat.testBit_lt_two_pow (Nat.lt_of_lt_of_le (show a < 2 ^ 64 by simpa using ha) (Nat.pow_le_pow_right (by omega) (by omega)))] at h
  cases h
theorem andn_zero {a b : Nat} (ha : a < 18446744073709551616) (hb : b < 18446744073709551616) : andn a b = 0 ↔ ∀ i, a.testBit i = true → b.testBit i = true := by
  constructor
  · intro h i hi
    have h1 := andn_bit (a := a) hb i
    rw [h, hi] at h1
    have := bit_lt ha hi
    simp [this] at h1
    exact h1
  · intro h
    apply Nat.eq_of_testBit_eq
    intro i
    rw [andn_bit hb, Nat.zero_testBit]
    cases e : a.testBit i
    · rfl
    · rw [h i e]; simp
theorem quo_spec {x n : Nat} (hx : x < 18446744073709551616) (h : quo x n = true) : n ≤ 16 ∧ x < 2 ^ n ∧ 2 * n ≤ 3 * pc x n := by
  have h1 := of_decide_eq_true h
  obtain ⟨h0, hn, h2, h3⟩ := h1
  have hlt : x < 2 ^ n := by
    apply Nat.lt_pow_two_of_testBit
    intro i hi
    cases e : x.testBit i
    · rfl
    · have h4 := (andn_zero hx (lowN_lt n)).1 h2 i e
      unfold lowN at h4
      rw [if_neg (by omega), Nat.testBit_two_pow_sub_one] at h4
      have := of_decide_eq_true h4
      omega
  have hs : x < 65536 := Nat.lt_of_lt_of_le hlt (Nat.le_trans (Nat.pow_le_pow_right (by omega) hn) (by decide))
  rw [ones_pc hs] at h3
  have h4 := pc_stable hlt (16 - n)
  rw [show n + (16 - n) = 16 from by omega] at h4
  rw [h4] at h3
  exact ⟨hn, hlt, h3⟩
theorem meet {l : List Nat} {a b : Nat} (ha : a < 18446744073709551616) (hb : b < 18446744073709551616) (h1 : quo a l.length = true) (h2 : quo b l.length = true) : l.length ≤ 3 * (named l (a &&& b)).length := by
  obtain ⟨a1, a2, a3⟩ := quo_spec ha h1
  obtain ⟨_, b2, b3⟩ := quo_spec hb h2
  have h := pc_and a b l.length
  have hlt : a &&& b < 2 ^ l.length := Nat.lt_of_le_of_lt Nat.and_le_left a2
  rw [named_len l (by omega) _ hlt]
  have h4 := pc_stable hlt (64 - l.length)
  rw [show l.length + (64 - l.length) = 64 from by omega] at h4
  rw [h4]
  omega
end St
end Lf
end Go.Proofs.Ytnmjpbcbldenmaa

/- Seats: slices of votes: Index, Contains, Grow, Concat. -/
namespace Go.Proofs.Ytnmjpbcbldenmaa
open Go.RowKit Rg
set_option linter.unusedVariables false
set_option maxRecDepth 100000
namespace Lf
namespace St
abbrev voteKs : List IntKind := .u64 :: List.replicate 32 .u8
theorem vote_kinds {v : VoteT} (h : VoteOk v) : KindsOf (voteC v) voteKs := .cons (KindsOf.map1 (fun _ => rfl) h.h)
theorem voteC_inj {p q : VoteT} (h : voteC p = voteC q) : p = q := voteK_inj (by
  rw [voteC_k, voteC_k] at h
  have hinj : ∀ (a b : List Value), a.map V.k = b.map V.k → a = b := by
    intro a
    induction a with
    | nil => intro b h; cases b with
      | nil => rfl
      | cons => simp at h
    | cons x r ih => intro b h; cases b with
      | nil => simp at h
      | cons y s =>
        simp only [List.map_cons, List.cons.injEq, V.k.injEq] at h
        rw [h.1, ih s h.2]
  unfold voteK
  rw [hinj _ _ h])
theorem getD_mem {α : Type} {l : List α} {i : Nat} {d : α} (h : i < l.length) : l.getD i d ∈ l := by
  rw [List.getD_eq_getElem?_getD, List.getElem?_eq_getElem h]; exact List.getElem_mem h
theorem refs_ks (m : List (Nat × M)) : ∀ l : List Value, V.refs.go m (l.map V.k) = true
  | [] => rfl
  | x :: r => by rw [List.map_cons, V.refs.go, refs_ks m r]; rfl
theorem refs_voteC (m : List (Nat × M)) (v : VoteT) : V.refs.go m (voteC v) = true := by rw [voteC_k]; exact refs_ks m _
theorem Index_yes (votes : List VoteT) (v : VoteT) (hv : ∀ v ∈ votes, VoteOk v) (hn : votes.length < 4611686018427387904) (hok : VoteOk v) (k : Nat) (hk : k < votes.length) (he : votes.getD k default = v) (hlt : ∀ j, j < k → votes.getD j default ≠ v) :
    LF Try.prog 68 [.s none (votes.map voteV), voteV v] (fun _ => .k (.int .i64 ((k : Nat) : Int))) none := by
  have hk1 := vote_kinds hok
  have hl1 := voteC_len hok
  have hrf := refs_voteC
  unfold voteV
  refine LFx.mk' tt Try.func68 rfl rfl rfl (by kernel_rfl) rfl rfl fun F => ?_
  refine wk ?_ trueW trueW
  refine LC.loopN (fun i => [(0, .s none (votes.map voteV)), (3, .p 3 0), (6, .s none (votes.map voteV)), (7, .k (.int .i64 ((votes.length : Nat) : Int))), (8, .k (.int .i64 ((i : Nat) : Int)))]) (fun i => [(3, .b (voteC v))]) (fun i => i ≤ k) ((votes.length - ·)) (0) (by omega) ⟨rfl, rfl, rfl, rfl, rfl, trivial⟩ ⟨rfl, trivial⟩ rfl rfW rfW ?_
  intro i hi
  have hlt' : i < votes.length := by omega
  have hvi := hv _ (getD_mem (d := default) hlt')
  have hk2 := vote_kinds hvi
  have hl2 := voteC_len hvi
  by_cases h : i = k
  · subst h
    have hq : voteC v = voteC (votes.getD i default) := by rw [he]
    exact wk trueW trueW trueW
  · have hok : i + 1 ≤ k := by omega
    have hq : ¬ voteC v = voteC (votes.getD i default) := fun e => hlt i (by omega) (voteC_inj e).symm
    exact wk trueW trueW trueW
theorem Index_no (votes : List VoteT) (v : VoteT) (hv : ∀ v ∈ votes, VoteOk v) (hn : votes.length < 4611686018427387904) (hok : VoteOk v) (hno : v ∉ votes) :
    LF Try.prog 68 [.s none (votes.map voteV), voteV v] (fun _ => .k (.int .i64 (-1))) none := by
  have hk1 := vote_kinds hok
  have hl1 := voteC_len hok
  have hrf := refs_voteC
  unfold voteV
  refine LFx.mk' tt Try.func68 rfl rfl rfl (by kernel_rfl) rfl rfl fun F => ?_
  refine wk ?_ trueW trueW
  refine LC.loopN (fun i => [(0, .s none (votes.map voteV)), (3, .p 3 0), (6, .s none (votes.map voteV)), (7, .k (.int .i64 ((votes.length : Nat) : Int))), (8, .k (.int .i64 ((i : Nat) : Int)))]) (fun i => [(3, .b (voteC v))]) (fun i => i ≤ votes.length) ((votes.length - ·)) (0) (by omega) ⟨rfl, rfl, rfl, rfl, rfl, trivial⟩ ⟨rfl, trivial⟩ rfl rfW rfW ?_
  intro i hi
  by_cases h : i < votes.length
  · have hvi := hv _ (getD_mem (d := default) h)
    have hk2 := vote_kinds hvi
    have hl2 := voteC_len hvi
    have hok : i + 1 ≤ votes.length := by omega
    have hq : ¬ voteC v = voteC (votes.getD i default) := fun e => hno (by rw [voteC_inj e]; exact getD_mem h)
    exact wk trueW trueW trueW
  · exact wk trueW trueW trueW
theorem first_at {votes : List VoteT} {v : VoteT} (h : v ∈ votes) : ∃ k, k < votes.length ∧ votes.getD k default = v ∧ ∀ j, j < k → votes.getD j default ≠ v := by
  have : ∀ n, n < votes.length → votes.getD n default = v → ∃ k, k < votes.length ∧ votes.getD k default = v ∧ ∀ j, j < k → votes.getD j default ≠ v := by
    intro n
    induction n using Nat.strongRecOn with
    | ind n ih =>
      intro h1 h2
      by_cases h3 : ∃ j, j < n ∧ votes.getD j default = v
      · obtain ⟨j, h4, h5⟩ := h3
        exact ih j h4 (by omega) h5
      · exact ⟨n, h1, h2, fun j h4 h5 => h3 ⟨j, h4, h5⟩⟩
  obtain ⟨n, h1, h2⟩ := List.mem_iff_getElem.1 h
  exact this n h1 (by rw [List.getD_eq_getElem?_getD, List.getElem?_eq_getElem h1]; exact h2)
theorem Contains (votes : List VoteT) (v : VoteT) (hv : ∀ v ∈ votes, VoteOk v) (hn : votes.length < 4611686018427387904) (hok : VoteOk v) :
    LF Try.prog 29 [.s none (votes.map voteV), voteV v] (fun _ => .k (.bool (decide (v ∈ votes)))) none := by
  have hl1 := voteC_len hok
  have hrf := refs_voteC
  by_cases h : v ∈ votes
  · rw [decide_eq_true h]
    obtain ⟨k, h1, h2, h3⟩ := first_at h
    have c1 := Index_yes votes v hv hn hok k h1 h2 h3
    unfold voteV at *
    refine LFx.mk' tt Try.func29 rfl rfl rfl (by kernel_rfl) rfl rfl fun F => ?_
    exact wk trueW trueW trueW
  · rw [decide_eq_false h]
    have c1 := Index_no votes v hv hn hok h
    unfold voteV at *
    refine LFx.mk' tt Try.func29 rfl rfl rfl (by kernel_rfl) rfl rfl fun F => ?_
    exact wk trueW trueW trueW
abbrev votesV (l : List VoteT) : V := .s none (l.map voteV)
theorem sizes_v {l : List VoteT} (h : ∀ v ∈ l, VoteOk v) : ∀ e ∈ l.map voteV, e.cells.length = 33 := fun e he => by
  obtain ⟨v, hv, rfl⟩ := List.mem_map.1 he
  exact voteC_len (h v hv)
theorem bare_v (v : VoteT) : (voteV v).bare = some (voteV v) := by
  unfold voteV
  rw [voteC_k]
  exact bare_am (f := V.k) (fun _ => rfl)
end St
end Lf
end Go.Proofs.Ytnmjpbcbldenmaa

/- The light client: what is alive. -/
namespace Go.Proofs.Ytnmjpbcbldenmaa
open Go.RowKit Rg Wm Ar
set_option linter.unusedVariables false
set_option maxRecDepth 100000
namespace Lf
open Pk
def hdrKinds : List IntKind := List.replicate 32 .u8 ++ (.u64 :: .u64 :: (List.replicate 8 .u8 ++ (.u64 :: .u64 :: (List.replicate 32 .u8 ++ (List.replicate 32 .u8 ++ (List.replicate 32 .u8 ++ (List.replicate 32 .u8 ++ List.replicate 32 .u8)))))))
theorem hdr_kinds {h : Hdr} (k : h.ok) : KindsOf (hdrC h) hdrKinds := by
  have hu : ∀ (n : Nat) {cs : List V} {ks : List IntKind}, KindsOf cs ks → KindsOf (uK n :: cs) (.u64 :: ks) := fun n _ _ h => .cons h
  have hb : ∀ {l : List UInt8} {n : Nat} {cs : List V} {ks : List IntKind}, l.length = n → KindsOf cs ks → KindsOf (l.map bK ++ cs) (List.replicate n .u8 ++ ks) := fun hl h => KindsOf.maps (fun _ => rfl) h hl
  rw [hdrC_eq]
  exact hb k.parent (hu _ (hu _ (hb k.keeper (hu _ (hu _ (hb k.bloom (hb k.state (hb k.txs (hb k.receipts (KindsOf.map1 (fun _ => rfl) k.next))))))))))
def zerosH : List Z := List.replicate 32 (.int .u8) ++ (Z.int .u64 :: Z.int .u64 :: (List.replicate 8 (.int .u8) ++ (Z.int .u64 :: Z.int .u64 :: List.replicate 160 (.int .u8))))
abbrev hdrPl : List (Nat × Nat) := [(0, 32), (32, 1), (33, 1), (34, 8), (42, 1), (43, 1), (44, 32), (76, 32), (108, 32), (140, 32), (172, 32)]
def numH (n : Nat) (x : List UInt8) : Hdr := ⟨List.replicate 32 0, n, 0, List.replicate 8 0, 0, 0, List.replicate 32 0, List.replicate 32 0, List.replicate 32 0, List.replicate 32 0, x⟩
theorem numH_ok {n : Nat} {x : List UInt8} (hn : n < 18446744073709551616) (hx : x.length = 32) : (numH n x).ok := ⟨rfl, hn, (by decide : 0 < 18446744073709551616), rfl, (by decide : 0 < 18446744073709551616), (by decide : 0 < 18446744073709551616), rfl, rfl, rfl, rfl, hx⟩
theorem hdr_b1 (n : Nat) : ∃ cs, vfill (fun i => hdrPl[i]?) (zerosH.map Z.v) [(1, uK n)] = some cs ∧ V.cv.go (fun _ => false) true cs = hdrC (numH n (List.replicate 32 0)) := by
  refine ⟨_, rfl, ?_⟩
  rw [hdrC_eq]
  rfl
theorem hdr_b2 (n : Nat) {x : List UInt8} (hx : x.length = 32) : ∃ cs, vfill (fun i => hdrPl[i]?) (zerosH.map Z.v) [(1, uK n), (10, .a (x.map bK))] = some cs ∧ V.cv.go (fun _ => false) true cs = hdrC (numH n x) := by
  have hl := len_b x hx
  have e1 : splice (zerosH.map Z.v) 32 [uK n] = hdrC (numH n (List.replicate 32 0)) := by rw [hdrC_eq]; rfl
  have k0 := numH_ok (n := 0) (x := List.replicate 32 0) (by decide) rfl
  have hp : ∀ y : List UInt8, hdrC (numH n y) = hdrC (numH n []) ++ y.map bK := fun y => by
    rw [hdrC_eq, hdrC_eq]
    simp only [numH, List.map_nil, List.append_nil, List.append_assoc, List.cons_append]
  have hpl : (hdrC (numH n [])).length = 172 := by rw [hdrC_eq]; rfl
  have e2 : splice (hdrC (numH n (List.replicate 32 0))) 172 (x.map bK) = hdrC (numH n x) := by
    rw [hp, hp x]
    unfold splice
    rw [hl, List.take_append_of_le_length (by omega), List.take_of_length_le (by omega), List.drop_of_length_le (by simp; omega), List.append_nil]
  refine ⟨hdrC (numH n x), ?_, cv_hdrC _ _ _⟩
  have z0 : (zerosH.map Z.v).length = 204 := rfl
  have z1 : (hdrC (numH n (List.replicate 32 0))).length = 204 := by rw [hdrC_eq]; rfl
  have e5 : (V.a (x.map bK)).ok = true := rfl
  have e6 : (uK n).ok = true := rfl
  simp only [vfill, hdrPl, cells_a, cells_uK, List.getElem?_cons_zero, List.getElem?_cons_succ, e1, e2, e5, e6, hl, z0, z1]
  rfl
theorem store_b1 {h : Hdr} (k : h.ok) (l : List Nat) : ∃ cs, vfill (fun i => [(0, 204), (204, 1), (205, 1)][i]?) (zerosS.map Z.v) [(0, .a (hdrC h)), (1, sV l)] = some cs ∧ V.cv.go (fun _ => false) true cs = hx h (sV l) (sV []) := by
  have hl := hdrC_len k
  refine ⟨hdrC h ++ [sV l, .nil], ?_, ?_⟩
  · have hz : (zerosS.map Z.v).length = 206 := rfl
    have e1 : splice (zerosS.map Z.v) 0 (hdrC h) = hdrC h ++ [.nil, .nil] := by
      unfold splice
      rw [List.take_zero, List.nil_append, Nat.zero_add, hl]
      rfl
    have e2 : splice (hdrC h ++ [.nil, .nil]) 204 [sV l] = hdrC h ++ [sV l, .nil] := by
      unfold splice
      rw [List.take_append_of_le_length (by omega), List.take_of_length_le (by omega)]
      have := drop_at hl (b := [V.nil, V.nil]) 1
      rw [show 204 + [sV l].length = 204 + 1 from rfl, this]
      simp
    have e4 : (V.a (hdrC h)).ok = true := rfl
    have e5 : ∀ l, (sV l).ok = true := fun _ => rfl
    have n1 : (hdrC h ++ [V.nil, V.nil]).length = 206 := by rw [List.length_append, hl]; rfl
    simp only [vfill, cells_a, cells_s, List.getElem?_cons_zero, List.getElem?_cons_succ, e1, e2, e4, e5, hl, hz, n1]
    rfl
  · rw [cv_app, cv_hdrC, hx_eq]
    rfl
def zerosU : List Z := List.replicate 32 (.int .u8) ++ (Z.int .u64 :: Z.int .u64 :: (List.replicate 8 (.int .u8) ++ (Z.int .u64 :: Z.int .u64 :: (List.replicate 160 (.int .u8) ++ [Z.int .u64, Z.sl]))))
theorem upd_b2 {h : Hdr} (k : h.ok) (m : Nat) : ∃ cs, vfill (fun i => [(0, 204), (204, 1), (205, 1)][i]?) (zerosU.map Z.v) [(0, .a (hdrC h)), (1, uK m)] = some cs ∧ V.cv.go (fun _ => false) true cs = hx h (uK m) (sV []) := by
  have hl := hdrC_len k
  refine ⟨hdrC h ++ [uK m, .nil], ?_, ?_⟩
  · have hz : (zerosU.map Z.v).length = 206 := rfl
    have e1 : splice (zerosU.map Z.v) 0 (hdrC h) = hdrC h ++ [uK 0, .nil] := by
      unfold splice
      rw [List.take_zero, List.nil_append, Nat.zero_add, hl]
      rfl
    have e2 : splice (hdrC h ++ [uK 0, .nil]) 204 [uK m] = hdrC h ++ [uK m, .nil] := by
      unfold splice
      rw [List.take_append_of_le_length (by omega), List.take_of_length_le (by omega)]
      have := drop_at hl (b := [uK 0, V.nil]) 1
      rw [show 204 + [uK m].length = 204 + 1 from rfl, this]
      simp
    have e4 : (V.a (hdrC h)).ok = true := rfl
    have e5 : (uK m).ok = true := rfl
    have n1 : (hdrC h ++ [uK 0, V.nil]).length = 206 := by rw [List.length_append, hl]; rfl
    simp only [vfill, cells_a, cells_uK, List.getElem?_cons_zero, List.getElem?_cons_succ, e1, e2, e4, e5, hl, hz, n1]
    rfl
  · rw [cv_app, cv_hdrC, hx_eq]
    rfl
theorem upd_b3 {h : Hdr} (k : h.ok) (m : Nat) (b : List Nat) (o : Option Nat) : ∃ cs, vfill (fun i => [(0, 204), (204, 1), (205, 1)][i]?) (zerosU.map Z.v) [(0, .a (hdrC h)), (1, uK m), (2, .s o (b.map uK))] = some cs ∧ V.cv.go (fun _ => false) true cs = hx h (uK m) (sV b) := by
  have hl := hdrC_len k
  refine ⟨hdrC h ++ [uK m, .s o (b.map uK)], ?_, ?_⟩
  · have hz : (zerosU.map Z.v).length = 206 := rfl
    have e1 : splice (zerosU.map Z.v) 0 (hdrC h) = hdrC h ++ [uK 0, .nil] := by
      unfold splice
      rw [List.take_zero, List.nil_append, Nat.zero_add, hl]
      rfl
    have e2 : splice (hdrC h ++ [uK 0, .nil]) 204 [uK m] = hdrC h ++ [uK m, .nil] := by
      unfold splice
      rw [List.take_append_of_le_length (by omega), List.take_of_length_le (by omega)]
      have := drop_at hl (b := [uK 0, V.nil]) 1
      rw [show 204 + [uK m].length = 204 + 1 from rfl, this]
      simp
    have e3 : splice (hdrC h ++ [uK m, .nil]) 205 [.s o (b.map uK)] = hdrC h ++ [uK m, .s o (b.map uK)] := by
      have := hx_set (a := uK m) (b := .nil) (c := .s o (b.map uK)) k rfl
      rwa [hx_eq, hx_eq] at this
    have e4 : (V.a (hdrC h)).ok = true := rfl
    have e5 : (uK m).ok = true := rfl
    have e6 : (V.s o (b.map uK)).ok = true := rfl
    have n1 : (hdrC h ++ [uK 0, V.nil]).length = 206 := by rw [List.length_append, hl]; rfl
    have n2 : (hdrC h ++ [uK m, V.nil]).length = 206 := by rw [List.length_append, hl]; rfl
    simp only [vfill, cells_a, cells_s, cells_uK, List.getElem?_cons_zero, List.getElem?_cons_succ, e1, e2, e3, e4, e5, e6, hl, hz, n1, n2]
    rfl
  · rw [cv_app, cv_hdrC, hx_eq]
    cases o <;> rfl
namespace Sr
set_option maxHeartbeats 2000000 in
theorem Begin (h : Hdr) (l : List Nat) (k : h.ok) (hl : seats64 l) (hn : l.length < 2000000) (hr : right l = true) : LF Try.prog 41 [.a (hdrC h), .s none (l.map uK)] (fun _ => .t [.a (storeC ⟨h, l, []⟩), .k (.int .i64 0)]) none := by
  have c1 := RightB l hl (by omega)
  have c2 := CloneU l (by omega)
  rw [hr] at c1
  obtain ⟨cs, b1, b2⟩ := store_b1 k l
  have h1 := hdrC_len k
  have h2 := hx_len k (sV l) (sV [])
  have h3 : 0 + (hx h (sV l) (sV [])).length ≤ 206 := by omega
  have hrf := hx_refsS
  have hrg := hdrC_refs
  simp only [storeC]
  refine LFx.mk' tt Try.func41 rfl rfl rfl (by kernel_rfl) rfl rfl fun F => ?_
  exact wk trueW trueW trueW
end Sr
end Lf
end Go.Proofs.Ytnmjpbcbldenmaa

/- The light client: what is alive. -/
namespace Go.Proofs.Ytnmjpbcbldenmaa
open Go.RowKit Rg Wm Ar
set_option linter.unusedVariables false
set_option maxRecDepth 100000
namespace Lf
open Pk
theorem cv_hx (keep : Nat → Bool) (nn : Bool) (h : Hdr) (a b : V) : V.cv.go keep nn (hx h a b) = hx h (a.cv keep nn) (b.cv keep nn) := by
  rw [hx_eq, hx_eq, cv_app, cv_hdrC]; rfl
namespace Sr
def S7 : List UInt8 := sumB (enc (seatI [7]))
theorem S7_eq : S7 = sumB (enc (seatI [7])) := rfl
theorem S7_len : S7.length = 32 := sumB_len _
def h3 : Hdr := numH 3 (List.replicate 32 0)
def h5 : Hdr := numH 5 S7
def T5 : List UInt8 := sumB (hdrB h5)
theorem T5_eq : T5 = sumB (hdrB h5) := rfl
theorem T5_len : T5.length = 32 := sumB_len _
attribute [irreducible] S7 T5
theorem h3_ok : h3.ok := numH_ok (by decide) rfl
theorem h5_ok : h5.ok := numH_ok (by decide) S7_len
def s3 : StM := ⟨h3, [1, 2], []⟩
def u5 : UpM := ⟨h5, 3, [7]⟩
def u6 : UpM := ⟨h5, 3, []⟩
def v5 : List St.VoteT := [(1, T5), (2, T5)]
theorem s3_ok : s3.ok := ⟨h3_ok, by unfold s3 seats64; decide, by unfold s3 seats64; decide, by decide, by decide⟩
theorem u5_ok : u5.ok := ⟨h5_ok, by decide, by unfold u5 seats64; decide, by decide⟩
theorem u6_ok : u6.ok := ⟨h5_ok, by decide, by unfold u6 seats64; decide, by decide⟩
theorem v5_ok : ∀ v ∈ v5, St.VoteOk v := fun v hv => by
  simp only [v5, List.mem_cons, List.not_mem_nil, or_false] at hv
  rcases hv with rfl | rfl
  · exact ⟨by decide, T5_len⟩
  · exact ⟨by decide, T5_len⟩
theorem judge35 (un : List Nat) (m : Nat) : judgeM s3 (⟨h5, m, un⟩ : UpM).hdr.number = ([1, 2], 0) := by
  unfold judgeM s3
  simp [h3, h5, numH]
theorem right12 : right [1, 2] = true := by decide
theorem right7 : right [7] = true := by decide
theorem tally5 : St.tally [1, 2] T5 v5 = 3 := by
  have h0 : St.talF [1, 2] T5 v5 0 = true := decide_eq_true (by simp [v5])
  have h1 : St.talF [1, 2] T5 v5 1 = true := decide_eq_true (by simp [v5])
  show St.tal _ 2 = 3
  simp [St.tal, h0, h1]
theorem tally6 : St.tally [1, 2] T5 [(1, T5)] = 1 := by
  have h0 : St.talF [1, 2] T5 [(1, T5)] 0 = true := decide_eq_true (by simp)
  have h1 : St.talF [1, 2] T5 [(1, T5)] 1 = false := decide_eq_false (by simp)
  show St.tal _ 2 = 1
  simp [St.tal, h0, h1]
theorem quo32 : St.quo 3 2 = true := by kernel_rfl
theorem apply5 : applyM s3 u5 v5 = (⟨h5, [1, 2], [7]⟩, 0) := by
  unfold applyM
  have hb : badM s3 u5 = false := by unfold badM s3 u5; rw [right12, right7]; rfl
  have hj := judge35 [7] 3
  rw [hb, if_neg (by decide)]
  have hj' : judgeM s3 u5.hdr.number = ([1, 2], 0) := hj
  rw [hj', if_neg (by simp)]
  show (if St.quo 3 2 = false then (zeroS, 26) else _) = _
  rw [quo32, if_neg (by decide)]
  show (if St.andn0 3 (St.tally [1, 2] (sumB (hdrB h5)) v5) = false then (zeroS, 27) else _) = _
  rw [← T5_eq, tally5, if_neg (by decide)]
  rw [if_neg (fun h => h.2 S7_eq.symm), if_neg (by simp [u5])]
  rfl
theorem apply6 : applyM s3 u6 [(1, T5)] = (zeroS, 27) := by
  unfold applyM
  have hb : badM s3 u6 = false := by unfold badM s3 u6; rw [right12]; rfl
  have hj' : judgeM s3 u6.hdr.number = ([1, 2], 0) := judge35 [] 3
  rw [hb, if_neg (by decide)]
  rw [hj', if_neg (by simp)]
  show (if St.quo 3 2 = false then (zeroS, 26) else _) = _
  rw [quo32, if_neg (by decide)]
  show (if St.andn0 3 (St.tally [1, 2] (sumB (hdrB h5)) [(1, T5)]) = false then (zeroS, 27) else _) = _
  rw [← T5_eq, tally6, if_pos (by decide)]
set_option maxHeartbeats 4000000 in
theorem alive23 : LF Try.prog 21 [] (fun _ => .k (.bool true)) none := by
  have c1 := Begin h3 [1, 2] h3_ok (by unfold seats64; decide) (by decide) right12
  have c2 := SeatSum [7] (by decide) (by decide)
  have c3 := HSumB h5 h5_ok
  have cA := Apply s3 u5 v5 s3_ok u5_ok v5_ok (by decide)
  have cB := Apply s3 u6 [(1, T5)] s3_ok u6_ok (fun v hv => v5_ok v (by simp at hv; subst hv; simp [v5])) (by decide)
  have c4 := (St.EqualU [7] [7] (by decide) (by decide)).1 rfl
  rw [apply5] at cA
  rw [apply6] at cB
  rw [← S7_eq] at c2
  rw [← T5_eq] at c3
  obtain ⟨d1, e1, e2⟩ := hdr_b1 3
  obtain ⟨d2, e3, e4⟩ := hdr_b2 5 S7_len
  obtain ⟨d3, e5, e6⟩ := St.vote_b 1 T5 T5_len
  obtain ⟨d4, e7, e8⟩ := St.vote_b 2 T5 T5_len
  obtain ⟨d5, e9, e10⟩ := upd_b3 h5_ok 3 [7] (some 28)
  obtain ⟨d6, e11, e12⟩ := upd_b2 h5_ok 3
  have k3 := h3_ok
  have k5 := h5_ok
  have l3 := hdrC_len h3_ok
  have l5 := hdrC_len h5_ok
  have le5 : 0 + (hdrC h5).length ≤ 204 := by omega
  have hk := hdr_kinds h5_ok
  have hls := S7_len
  have hlt := T5_len
  have g3 : numH 3 (List.replicate 32 0) = h3 := rfl
  have g5 : numH 5 S7 = h5 := rfl
  rw [g3] at e2
  rw [g5] at e4
  clear g3 g5
  have ld1 := @hx_a
  have ld2 := @hx_b
  have ld3 := @hx_h
  have hrf := hx_refsS
  have hr3 : V.refs.go [] [V.a (hdrC h5)] = true := by rw [V.refs.go, V.refs, hdrC_refs]; rfl
  have hr4 : V.refs.go [] [V.a (hdrC h3), sV [1, 2]] = true := by rw [V.refs.go, V.refs, hdrC_refs]; rfl
  have ls3 := hx_len h3_ok (sV [1, 2]) (sV [])
  have ls5 := hx_len h5_ok (sV [1, 2]) (sV [7])
  have ls0 := hx_len zeroH_ok (sV []) (sV [])
  have lf3 : 0 + (hx h3 (sV [1, 2]) (sV [])).length ≤ 206 := by omega
  have lf5 : 0 + (hx h5 (sV [1, 2]) (sV [7])).length ≤ 206 := by omega
  have lf0 : 0 + (hx zeroH (sV []) (sV [])).length ≤ 206 := by omega
  have hft0 : V.cv.go (fun _ => false) false [V.a (hdrC h3), V.s (some 11) [uK 1, uK 2]] = [V.a (hdrC h3), sV [1, 2]] := by
    simp only [V.cv.go, V.cv, cv_hdrC, cond_false]; rfl
  have hft1 : V.cv.go (fun _ => false) false [V.a (hx h3 (sV [1, 2]) (sV [])), V.a (hx h5 (uK 3) (sV [7])), V.s (some 24) [St.voteV (1, T5), St.voteV (2, T5)]] = [V.a (hx h3 (sV [1, 2]) (sV [])), V.a (hx h5 (uK 3) (sV [7])), V.s none (v5.map St.voteV)] := by
    simp only [V.cv.go, V.cv, cv_hx, cond_false]; rfl
  have hbr := St.bare_v
  have hz2 : ∀ e ∈ [St.voteV (1, T5), St.voteV (2, T5)], e.cells.length = 33 := fun e he => by
    simp only [List.mem_cons, List.not_mem_nil, or_false] at he
    rcases he with rfl | rfl
    · exact St.voteC_len (v5_ok (1, T5) (by simp [v5]))
    · exact St.voteC_len (v5_ok (2, T5) (by simp [v5]))
  have cBeg := c1
  clear c1
  simp only [storeC, updC, s3, u5, u6, zeroS] at *
  have hr5 : V.refs.go [] [V.a (hx h3 (sV [1, 2]) (sV [])), V.a (hx h5 (uK 3) (sV [7])), V.s none (v5.map St.voteV)] = true := by
    simp only [V.refs.go, V.refs, hx_refsS, hx_refsU]; rfl
  have hr6 : V.refs.go [] [V.a (hx h3 (sV [1, 2]) (sV [])), V.a (hx h5 (uK 3) (sV [])), V.s none ([((1 : Nat), T5)].map St.voteV)] = true := by
    simp only [V.refs.go, V.refs, hx_refsS, hx_refsU]; rfl
  refine LFx.mk' tt Try.func21 rfl rfl rfl (by kernel_rfl) rfl rfl fun F => ?_
  refine wk ?_ trueW trueW
  refine DR.pp rfl rfl (Does.call cBeg rfl rfl (Fits.cv (fun _ => false) false hft0) hr4) rfl ?_
  refine wk ?_ trueW trueW
  refine DR.pp rfl rfl (Does.call cA rfl rfl (Fits.cv (fun _ => false) false hft1) hr5) rfl ?_
  refine wk ?_ trueW trueW
  refine DR.pp rfl rfl (Does.call cB rfl rfl (Fits.same _) hr6) rfl ?_
  exact wk trueW trueW trueW
end Sr
end Lf
end Go.Proofs.Ytnmjpbcbldenmaa

/- Who comes next is said by what is settled. -/
namespace Go.Proofs.Ytnmjpbcbldenmaa
open Go.RowKit Rg Wm Ar
set_option linter.unusedVariables false
set_option maxRecDepth 100000
namespace Lf
open Pk
theorem zeroS_ok : zeroS.ok := ⟨zeroH_ok, fun x hx => (by cases hx), fun x hx => (by cases hx), by decide, by decide⟩
theorem apply_ok {s : StM} {u : UpM} (k : s.ok) (ku : u.ok) (votes : List St.VoteT) : (applyM s u votes).1.ok := by
  obtain ⟨j1, j2, _⟩ := judge_ok k u.hdr.number
  unfold applyM
  split
  · exact zeroS_ok
  · split
    · exact zeroS_ok
    · split
      · exact zeroS_ok
      · split
        · exact zeroS_ok
        · split
          · exact zeroS_ok
          · refine ⟨ku.hdr, j1, ?_, j2, ?_⟩
            · show seats64 (if _ then _ else _)
              split
              · exact k.next
              · exact ku.next
            · show (if _ then _ else _ : List Nat).length < _
              split
              · exact k.nl
              · exact ku.nl
theorem apply_err {s : StM} {u : UpM} (k : s.ok) (votes : List St.VoteT) : (applyM s u votes).2 < 100 := by
  obtain ⟨_, _, j3⟩ := judge_ok k u.hdr.number
  unfold applyM
  repeat' split
  all_goals first | exact j3 | decide | exact (by decide : 0 < 100)
/-- What is so of what is taken. -/
structure Taken (s : StM) (u : UpM) (votes : List St.VoteT) (x : StM) : Prop where
  good : badM s u = false
  judge : (judgeM s u.hdr.number).2 = 0
  quo : St.quo u.mask x.seats.length = true
  voted : andn u.mask (St.tally x.seats (sumB (hdrB u.hdr)) votes) = 0
  sum : u.next ≠ [] → sumB (enc (Sr.seatI u.next)) = u.hdr.next
  hdr : x.hdr = u.hdr
  seats : x.seats = (judgeM s u.hdr.number).1
  next : x.next = if u.next = [] ∧ s.hdr.number / 8 = u.hdr.number / 8 then s.next else u.next
theorem taken {s : StM} {u : UpM} {votes : List St.VoteT} (h : (applyM s u votes).2 = 0) : Taken s u votes (applyM s u votes).1 := by
  unfold applyM at *
  by_cases h1 : badM s u = true
  · rw [if_pos h1] at h; cases h
  · rw [if_neg h1] at h ⊢
    by_cases h2 : (judgeM s u.hdr.number).2 ≠ 0
    · rw [if_pos h2] at h; exact absurd h h2
    · rw [if_neg h2] at h ⊢
      by_cases h3 : St.quo u.mask (judgeM s u.hdr.number).1.length = false
      · rw [if_pos h3] at h; cases h
      · rw [if_neg h3] at h ⊢
        by_cases h4 : St.andn0 u.mask (St.tally (judgeM s u.hdr.number).1 (sumB (hdrB u.hdr)) votes) = false
        · rw [if_pos h4] at h; cases h
        · rw [if_neg h4] at h ⊢
          by_cases h5 : u.next ≠ [] ∧ sumB (enc (Sr.seatI u.next)) ≠ u.hdr.next
          · rw [if_pos h5] at h; cases h
          · rw [if_neg h5]
            refine ⟨by simpa using h1, Classical.not_not.1 h2, by simpa using h3, ?_, fun hn => Classical.byContradiction fun hs => h5 ⟨hn, hs⟩, rfl, rfl, rfl⟩
            unfold St.andn0 at h4
            simpa using h4
namespace Sr
set_option maxHeartbeats 4000000 in
theorem LightNext (s : StM) (u : UpM) (votes : List St.VoteT) (k : s.ok) (ku : u.ok) (hv : ∀ v ∈ votes, St.VoteOk v) (hnv : votes.length < 4611686018427387904) :
    LF Try.prog 6 [.a (storeC s), .a (updC u), .s none (votes.map St.voteV)] (fun _ => .k (.bool true)) none := by
  have c1 := alive23
  have c2 := Apply s u votes k ku hv hnv
  have kx := apply_ok k ku votes
  have hT := taken (s := s) (u := u) (votes := votes)
  have he := apply_err (u := u) k votes
  have kh := k.hdr
  have kh2 := ku.hdr
  have hn1 := kh.number
  have hn2 := kh2.number
  have c4 := Period s.hdr.number hn1
  have c5 := Period u.hdr.number hn2
  generalize applyM s u votes = r at *
  obtain ⟨x, e⟩ := r
  simp only at *
  have khx := kx.hdr
  have c3 := SeatSum x.next kx.next (by have := kx.nl; omega)
  have hE := St.EqualU x.next s.next (by have := kx.nl; omega) (by have := k.nl; omega)
  have hsl := sumB_len (enc (seatI x.next))
  have hnx := khx.next
  have ld1 := @hx_a
  have ld2 := @hx_b
  have ld3 := @hx_n
  have ld4 := @hx_h
  have ld5 := @hx_x
  have hrf := hx_refsS
  have hrg := hx_refsU
  have hls := hx_len kh (sV s.seats) (sV s.next)
  have hlu := hx_len kh2 (uK u.mask) (sV u.next)
  have hlx := hx_len khx (sV x.seats) (sV x.next)
  have hle := (Nat.le_of_eq (hx_len khx (sV x.seats) (sV x.next)) : (hx x.hdr (sV x.seats) (sV x.next)).length ≤ 206)
  have hle0 : 0 + (hx x.hdr (sV x.seats) (sV x.next)).length ≤ 206 := by omega
  have hxn := kx.nl
  have hun := ku.nl
  by_cases h0 : e = 0
  · have T := hT h0
    have t5 := T.sum
    have t8 := T.next
    have t6 := T.hdr
    clear hT T
    subst h0
    by_cases hx0 : x.next = []
    · have hx0l : x.next.length = 0 := by rw [hx0]; rfl
      clear t8 t5 hE c3 kx k ku hv
      obtain ⟨h, sa, sn⟩ := s
      obtain ⟨h2, mk, un⟩ := u
      obtain ⟨h3, xa, xn⟩ := x
      simp only [storeC, updC] at *
      refine LFx.mk' tt Try.func6 rfl rfl rfl (by kernel_rfl) rfl rfl fun F => ?_
      exact wk trueW trueW trueW
    · have hx1 : ¬ x.next.length = 0 := fun f => hx0 (List.eq_nil_of_length_eq_zero f)
      by_cases hs : sumB (enc (seatI x.next)) = x.hdr.next
      · clear t8 t5 hE kx k ku hv
        generalize sumB (enc (seatI x.next)) = sm at *
        obtain ⟨h, sa, sn⟩ := s
        obtain ⟨h2, mk, un⟩ := u
        obtain ⟨h3, xa, xn⟩ := x
        simp only [storeC, updC] at *
        generalize h.number / 8 = p at *
        generalize h2.number / 8 = q at *
        by_cases hpq : p = q
        · refine LFx.mk' tt Try.func6 rfl rfl rfl (by kernel_rfl) rfl rfl fun F => ?_
          exact wk trueW trueW trueW
        · refine LFx.mk' tt Try.func6 rfl rfl rfl (by kernel_rfl) rfl rfl fun F => ?_
          exact wk trueW trueW trueW
      · have hc : u.next = [] ∧ s.hdr.number / 8 = u.hdr.number / 8 := Classical.byContradiction fun f => by
          rw [if_neg f] at t8
          rw [t8, t6] at hs
          exact hs (t5 (by rw [← t8]; exact hx0))
        rw [if_pos hc] at t8
        have c6 := hE.1 t8
        obtain ⟨hc1, hc2⟩ := hc
        have hc3 : u.next.length = 0 := by rw [hc1]; rfl
        clear t8 t5 hE kx k ku hv hc1
        generalize sumB (enc (seatI x.next)) = sm at *
        obtain ⟨h, sa, sn⟩ := s
        obtain ⟨h2, mk, un⟩ := u
        obtain ⟨h3, xa, xn⟩ := x
        simp only [storeC, updC] at *
        generalize h.number / 8 = p at *
        generalize h2.number / 8 = q at *
        refine LFx.mk' tt Try.func6 rfl rfl rfl (by kernel_rfl) rfl rfl fun F => ?_
        exact wk trueW trueW trueW
  · clear hT hE c3 kx k ku hv
    obtain ⟨h, sa, sn⟩ := s
    obtain ⟨h2, mk, un⟩ := u
    obtain ⟨h3, xa, xn⟩ := x
    simp only [storeC, updC] at *
    refine LFx.mk' tt Try.func6 rfl rfl rfl (by kernel_rfl) rfl rfl fun F => ?_
    exact wk trueW trueW trueW
end Sr
end Lf
end Go.Proofs.Ytnmjpbcbldenmaa

/- One update behind the other; what is rejected is as if it had not come. -/
namespace Go.Proofs.Ytnmjpbcbldenmaa
open Go.RowKit Rg Wm Ar
set_option linter.unusedVariables false
set_option maxRecDepth 100000
namespace Lf
open Pk
abbrev updV (u : UpM) : V := .a (updC u)
abbrev eK (e : Nat) : V := .k (.int .i64 ((e : Nat) : Int))
def stepM (votes : List St.VoteT) (p : StM × List Nat) (u : UpM) : StM × List Nat := (if (applyM p.1 u votes).2 = 0 then (applyM p.1 u votes).1 else p.1, p.2 ++ [(applyM p.1 u votes).2])
def playM (s : StM) (us : List UpM) (votes : List St.VoteT) : StM × List Nat := us.foldl (stepM votes) (s, [])
theorem play_snoc {votes : List St.VoteT} {p : StM × List Nat} {us : List UpM} {i : Nat} (h : i < us.length) : (us.take (i + 1)).foldl (stepM votes) p = stepM votes ((us.take i).foldl (stepM votes) p) (us.getD i default) := by
  rw [Sr.take_get h, List.foldl_append]; rfl
theorem play_ok {s : StM} {us : List UpM} (k : s.ok) (ku : ∀ u ∈ us, UpM.ok u) (votes : List St.VoteT) : ∀ i, i ≤ us.length → ((us.take i).foldl (stepM votes) (s, [])).1.ok ∧ ((us.take i).foldl (stepM votes) (s, [])).2.length = i
  | 0, _ => ⟨k, rfl⟩
  | i + 1, h => by
    obtain ⟨h1, h2⟩ := play_ok k ku votes i (by omega)
    rw [play_snoc (by omega)]
    have hm : us.getD i default ∈ us := by rw [List.getD_eq_getElem?_getD, List.getElem?_eq_getElem (show i < us.length by omega)]; exact List.getElem_mem _
    generalize (us.take i).foldl (stepM votes) (s, []) = p at *
    unfold stepM
    refine ⟨?_, by rw [List.length_append, h2]; rfl⟩
    show StM.ok (if _ then _ else _)
    split
    · exact apply_ok h1 (ku _ hm) votes
    · exact h1
theorem play_len {s : StM} {us : List UpM} (k : s.ok) (ku : ∀ u ∈ us, UpM.ok u) (votes : List St.VoteT) : (playM s us votes).1.ok ∧ (playM s us votes).2.length = us.length := by
  have := play_ok k ku votes us.length (Nat.le_refl _)
  rwa [List.take_length] at this
/-- Those that were taken. -/
def goodR : List UpM → List Nat → List UpM
  | u :: us, e :: es => if e = 0 then u :: goodR us es else goodR us es
  | _, _ => []
theorem goodR_mem : ∀ {us : List UpM} {es : List Nat} {u : UpM}, u ∈ goodR us es → u ∈ us
  | [], _, _, h => by simp [goodR] at h
  | _ :: _, [], _, h => by simp [goodR] at h
  | u :: us, e :: es, v, h => by
    rw [goodR] at h
    split at h
    · rcases List.mem_cons.1 h with h | h
      · exact h ▸ List.mem_cons_self
      · exact List.mem_cons_of_mem _ (goodR_mem h)
    · exact List.mem_cons_of_mem _ (goodR_mem h)
theorem goodR_len : ∀ (us : List UpM) (es : List Nat), (goodR us es).length ≤ us.length
  | [], _ => by simp [goodR]
  | _ :: _, [] => by simp [goodR]
  | u :: us, e :: es => by
    have := goodR_len us es
    rw [goodR]
    split <;> simp <;> omega
theorem goodR_snoc : ∀ {us : List UpM} {es : List Nat} {u : UpM} {e : Nat}, us.length = es.length → goodR (us ++ [u]) (es ++ [e]) = goodR us es ++ (if e = 0 then [u] else [])
  | [], [], u, e, _ => by simp [goodR]
  | v :: us, f :: es, u, e, h => by
    have := goodR_snoc (us := us) (es := es) (u := u) (e := e) (by simpa using h)
    simp only [List.cons_append, goodR]
    rw [this]
    split <;> simp
/-- What the run hands on, from any beginning. -/
theorem run_good (votes : List St.VoteT) : ∀ (us : List UpM) (S : StM) (o o2 : List Nat), ∃ S' es, us.foldl (stepM votes) (S, o) = (S', o ++ es) ∧ es.length = us.length ∧ (goodR us es).foldl (stepM votes) (S, o2) = (S', o2 ++ List.replicate (goodR us es).length 0)
  | [], S, o, o2 => ⟨S, [], by simp, rfl, by simp [goodR]⟩
  | u :: us, S, o, o2 => by
    rw [List.foldl_cons]
    by_cases h : (applyM S u votes).2 = 0
    · obtain ⟨S', es, h1, h2, h3⟩ := run_good votes us (applyM S u votes).1 (o ++ [(applyM S u votes).2]) (o2 ++ [0])
      refine ⟨S', (applyM S u votes).2 :: es, ?_, by simp [h2], ?_⟩
      · have e1 : stepM votes (S, o) u = ((applyM S u votes).1, o ++ [(applyM S u votes).2]) := by unfold stepM; simp only; rw [if_pos h]
        rw [e1, h1]; simp
      · rw [goodR, if_pos h, List.foldl_cons]
        have e2 : stepM votes (S, o2) u = ((applyM S u votes).1, o2 ++ [0]) := by unfold stepM; simp only; rw [if_pos h, h]
        rw [e2, h3, List.length_cons, List.replicate_succ]
        simp
    · obtain ⟨S', es, h1, h2, h3⟩ := run_good votes us S (o ++ [(applyM S u votes).2]) o2
      refine ⟨S', (applyM S u votes).2 :: es, ?_, by simp [h2], ?_⟩
      · have e1 : stepM votes (S, o) u = (S, o ++ [(applyM S u votes).2]) := by unfold stepM; simp only; rw [if_neg h]
        rw [e1, h1]; simp
      · rw [goodR, if_neg h]
        exact h3
theorem play_good (s : StM) (us : List UpM) (votes : List St.VoteT) : playM s (goodR us (playM s us votes).2) votes = ((playM s us votes).1, List.replicate (goodR us (playM s us votes).2).length 0) := by
  obtain ⟨S', es, h1, h2, h3⟩ := run_good votes us s [] []
  unfold playM
  rw [h1]
  simp only [List.nil_append] at h3 ⊢
  exact h3
def setP (n : Nat) (us : List V) (a b : V) : Option (V × V) := match us with
  | [c] => cond (Nat.beq n 204) (some (c, b)) (cond (Nat.beq n 205) (some (a, c)) none)
  | _ => none
theorem hx_setP {h : Hdr} {a b c d : V} {n : Nat} {us : List V} (k : h.ok) (hu : setP n us a b = some (c, d)) : splice (hx h a b) n us = hx h c d := by
  unfold setP at hu
  split at hu
  · rename_i x
    cases h1 : Nat.beq n 204
    · rw [h1] at hu
      cases h2 : Nat.beq n 205
      · rw [h2] at hu; cases hu
      · rw [h2] at hu
        obtain rfl := Nat.eq_of_beq_eq_true h2
        cases hu
        exact hx_set k rfl
    · rw [h1] at hu
      obtain rfl := Nat.eq_of_beq_eq_true h1
      cases hu
      have hl := hdrC_len k
      rw [hx_eq, hx_eq]
      unfold splice
      rw [List.take_append_of_le_length (by omega), List.take_of_length_le (by omega)]
      have := drop_at hl (b := [a, b]) 1
      rw [show 204 + [c].length = 204 + 1 from rfl, this]
      simp
  · cases hu
theorem cvT (S : StM) (out : List Nat) : V.cv (fun _ => false) false (.t [.a (hx S.hdr (sV S.seats) (sV S.next)), .s (some 60) (out.map eK)]) = .t [.a (hx S.hdr (sV S.seats) (sV S.next)), .s none (out.map eK)] := by
  have h : V.cv.go (fun _ => false) false (hx S.hdr (sV S.seats) (sV S.next)) = hx S.hdr (sV S.seats) (sV S.next) := by rw [hx_eq, cv_app, cv_hdrC]; rfl
  simp only [V.cv, V.cv.go, h]
  rfl
namespace Sr
theorem updV_len {u : UpM} (k : u.ok) : (updV u).cells.length = 206 := hx_len k.hdr _ _
set_option maxHeartbeats 8000000 in
theorem Play (s : StM) (us : List UpM) (votes : List St.VoteT) (k : s.ok) (ku : ∀ u ∈ us, UpM.ok u) (hn : us.length < 10000000) (hv : ∀ v ∈ votes, St.VoteOk v) (hnv : votes.length < 4611686018427387904) :
    LF Try.prog 34 [.a (storeC s), .s none (us.map updV), .s none (votes.map St.voteV)] (fun _ => .t [.a (storeC (playM s us votes).1), .s none ((playM s us votes).2.map eK)]) none := by
  have kh := k.hdr
  have c2 := CloneU s.seats (by have := k.sl; omega)
  have c3 := CloneU s.next (by have := k.nl; omega)
  have hall := play_ok k ku votes
  have ld1 := @hx_a
  have ld2 := @hx_b
  have hrf := hx_refsS
  have hrg := hx_refsU
  have hls := hx_len kh (sV s.seats) (sV s.next)
  have hl2 : 205 + 1 ≤ (hx s.hdr (sV s.seats) (sV s.next)).length := by omega
  have sp1 := @hx_setP
  have hfin : (us.take us.length).foldl (stepM votes) (s, []) = playM s us votes := by rw [List.take_length]; rfl
  rw [← hfin]
  clear hfin
  simp only [storeC] at *
  refine LFx.mk' tt Try.func34 rfl rfl rfl (by kernel_rfl) rfl rfl fun F => ?_
  refine wk ?_ trueW trueW
  refine LC.nilrow 8 60 66 1 rfl rfl rfl ?_
  refine LC.loop2 (fun i S => [(2, .s none (votes.map St.voteV)), (3, .p 3 0), (6, .p 6 0), (8, .s (some 60) (S.2.map eK)), (21, .s none (us.map updV)), (22, .k (.int .i64 ((us.length : Nat) : Int))), (23, .k (.int .i64 ((i : Nat) : Int)))]) (fun i S => [(3, .b (hx S.1.hdr (sV S.1.seats) (sV S.1.next))), (6, .b (zerosS.map Z.v)), (60, .r 66 1 S.2.length)]) (fun i S => i ≤ us.length ∧ S = (us.take i).foldl (stepM votes) (s, [])) ((us.length - ·)) (0) ((s, [])) ⟨by omega, rfl⟩ ⟨rfl, rfl, rfl, rfl, rfl, rfl, rfl, trivial⟩ ⟨rfl, rfl, rfl, trivial⟩ rfl rfW rfW ?_
  rintro i S ⟨hi, hS⟩
  obtain ⟨kS, hSl⟩ := hall i hi
  rw [← hS] at kS hSl
  have khS := kS.hdr
  have hlS := hx_len khS (sV S.1.seats) (sV S.1.next)
  by_cases h : i < us.length
  · have hm : us.getD i default ∈ us := by rw [List.getD_eq_getElem?_getD, List.getElem?_eq_getElem h]; exact List.getElem_mem _
    have kU := ku _ hm
    have hlU := updV_len kU
    have hlU0 : 0 + (updV (us.getD i default)).cells.length ≤ 206 := by omega
    have cA := Apply S.1 (us.getD i default) votes kS kU hv hnv
    have kx := apply_ok kS kU votes
    have hsn := play_snoc (votes := votes) (p := (s, [])) h
    rw [← hS] at hsn
    unfold stepM at hsn
    have c4 := cA
    clear cA c2 c3 hall hS hv ku hls
    generalize applyM S.1 (us.getD i default) votes = r at *
    obtain ⟨x, e⟩ := r
    obtain ⟨S1, out⟩ := S
    simp only at *
    have khx := kx.hdr
    have hlx := hx_len khx (sV x.seats) (sV x.next)
    have hle0 : 0 + (hx x.hdr (sV x.seats) (sV x.next)).length ≤ 206 := by omega
    have hle1 : 0 + (hx x.hdr (sV x.seats) (sV x.next)).length ≤ (hx S1.hdr (sV S1.seats) (sV S1.next)).length := by omega
    have hle2 : (hx x.hdr (sV x.seats) (sV x.next)).length = (hx S1.hdr (sV S1.seats) (sV S1.next)).length := by omega
    by_cases he : e = 0
    · rw [if_pos he] at hsn
      have hok : i + 1 ≤ us.length ∧ (x, out ++ [e]) = (us.take (i + 1)).foldl (stepM votes) (s, []) := ⟨h, hsn.symm⟩
      subst he
      clear hsn
      refine wk ?_ trueW trueW
      exact LNext2.go (y := i + 1) (z := (x, out ++ [0])) (by repeat (first | exact True.intro | refine And.intro rfl ?_)) (by repeat (first | exact True.intro | refine And.intro rfl ?_)) rfl rfW rfW hok (by omega)
    · rw [if_neg he] at hsn
      have hok : i + 1 ≤ us.length ∧ (S1, out ++ [e]) = (us.take (i + 1)).foldl (stepM votes) (s, []) := ⟨h, hsn.symm⟩
      clear hsn
      refine wk ?_ trueW trueW
      exact LNext2.go (y := i + 1) (z := (S1, out ++ [e])) (by repeat (first | exact True.intro | refine And.intro rfl ?_)) (by repeat (first | exact True.intro | refine And.intro rfl ?_)) rfl rfW rfW hok (by omega)
  · obtain rfl : i = us.length := by omega
    rw [← hS]
    have hle0 : 0 + (hx S.1.hdr (sV S.1.seats) (sV S.1.next)).length ≤ 206 := by omega
    clear hS hall hv ku hls c2 c3
    obtain ⟨S1, out⟩ := S
    simp only at *
    refine wk ?_ trueW trueW
    refine LRet.ret_ (u := .t [.a (hx S1.hdr (sV S1.seats) (sV S1.next)), .s (some 60) (out.map eK)]) (resV_2 (res1_cell rfl rfl rfl (part_whole rfl hlS)) rfl) (LFU.cvV false ?_ ?_)
    · have e : V.cv (fun _ => false) false (.t [.a (hx S1.hdr (sV S1.seats) (sV S1.next)), .s (some 60) (out.map eK)]) = .t [.a (hx S1.hdr (sV S1.seats) (sV S1.next)), .s none (out.map eK)] := cvT S1 out
      rw [e]
      simp only [V.refs, V.refs.go, hrf]
      rfl
    · exact cvT S1 out
end Sr
end Lf
end Go.Proofs.Ytnmjpbcbldenmaa

/- Stores held against each other. -/
namespace Go.Proofs.Ytnmjpbcbldenmaa
open Go.RowKit Rg Wm Ar
set_option linter.unusedVariables false
set_option maxRecDepth 100000
namespace Lf
open Pk
namespace Sr
theorem sameSeats (l : List Nat) (hn : l.length < 1073741824) : LF Try.prog 79 [.s none (l.map uK), .s none (l.map uK)] (fun _ => .k (.bool true)) none := by
  refine LFx.mk' tt Try.func79 rfl rfl rfl (by kernel_rfl) rfl rfl fun F => ?_
  refine wk ?_ trueW trueW
  refine LC.loopN (fun i => [(0, .s none (l.map uK)), (1, .s none (l.map uK)), (12, .k (.int .i64 ((l.length : Nat) : Int))), (13, .k (.int .i64 ((i : Nat) : Int)))]) (fun i => []) (fun i => i ≤ l.length) ((l.length - ·)) (0) (by omega) ⟨rfl, rfl, rfl, rfl, trivial⟩ trivial rfl rfW rfW ?_
  intro i hi
  by_cases h : i < l.length
  · have hok : i + 1 ≤ l.length := h
    exact wk trueW trueW trueW
  · exact wk trueW trueW trueW
theorem SameStore (x : StM) (k : x.ok) : LF Try.prog 42 [.a (storeC x), .a (storeC x)] (fun _ => .k (.bool true)) none := by
  have c1 := sameSeats x.seats (by have := k.sl; omega)
  have c2 := sameSeats x.next (by have := k.nl; omega)
  have kx := k.hdr
  have ld1 := @hx_a
  have ld2 := @hx_b
  have ld3 := @hx_h
  have hrf := hx_refsS
  have hk := hdr_kinds kx
  have hlx := hx_len kx (sV x.seats) (sV x.next)
  clear k
  obtain ⟨h, a, b⟩ := x
  simp only [storeC] at *
  refine LFx.mk' tt Try.func42 rfl rfl rfl (by kernel_rfl) rfl rfl fun F => ?_
  exact wk trueW trueW trueW
end Sr
end Lf
end Go.Proofs.Ytnmjpbcbldenmaa

/- Seats: who votes twice is named; more votes name no fewer. -/
namespace Go.Proofs.Ytnmjpbcbldenmaa
open Go.RowKit Rg
set_option linter.unusedVariables false
set_option maxRecDepth 100000
namespace Lf
namespace St
theorem named_mem (l : List Nat) : ∀ m, m < 18446744073709551616 → ∀ s ∈ named l m, ∃ i, m.testBit i = true ∧ i < l.length ∧ l.getD i default = s := by
  intro m
  induction m using Nat.strongRecOn with
  | ind m ih =>
    intro hm s hs
    by_cases h : m = 0
    · subst h; rw [named_0] at hs; cases hs
    · rw [named_s l h] at hs
      have h1 := Nat.and_le_right (n := m) (m := m - 1)
      obtain ⟨b1, b2⟩ := tz_bits 64 m (by omega) (by simpa using hm)
      rcases List.mem_append.1 hs with hs | hs
      · split at hs
        · rename_i hlt
          rw [List.mem_singleton] at hs
          exact ⟨_, b1, hlt, hs.symm⟩
        · cases hs
      · obtain ⟨i, i1, i2, i3⟩ := ih (m &&& (m - 1)) (by omega) (by omega) s hs
        rw [b2] at i1
        simp only [Bool.and_eq_true] at i1
        exact ⟨i, i1.1, i2, i3⟩
theorem tally_voted {l : List Nat} {x : List UInt8} {votes : List VoteT} {i : Nat} (h : (tally l x votes).testBit i = true) : (l.getD i default, x) ∈ votes := by
  rw [tally_bit, Bool.and_eq_true] at h
  exact of_decide_eq_true h.2
theorem guilty {l : List Nat} {x y : List UInt8} {votes : List VoteT} : ∀ s ∈ named l (tally l x votes &&& tally l y votes), (s, x) ∈ votes ∧ (s, y) ∈ votes := fun s hs => by
  obtain ⟨i, h1, h2, rfl⟩ := named_mem l _ (Nat.lt_of_le_of_lt Nat.and_le_left (tally_lt l x votes)) s hs
  rw [Nat.testBit_and, Bool.and_eq_true] at h1
  exact ⟨tally_voted h1.1, tally_voted h1.2⟩
theorem tally_congr {l : List Nat} {x : List UInt8} {a b : List VoteT} (h : ∀ v, v ∈ a ↔ v ∈ b) : tally l x a = tally l x b := by
  apply Nat.eq_of_testBit_eq
  intro i
  rw [tally_bit, tally_bit]
  congr 1
  exact decide_eq_decide.2 (h _)
theorem tally_more {l : List Nat} {x : List UInt8} {a b : List VoteT} (h : ∀ v, v ∈ a → v ∈ b) (i : Nat) (hi : (tally l x a).testBit i = true) : (tally l x b).testBit i = true := by
  rw [tally_bit, Bool.and_eq_true] at hi ⊢
  exact ⟨hi.1, decide_eq_true (h _ (of_decide_eq_true hi.2))⟩
end St
end Lf
end Go.Proofs.Ytnmjpbcbldenmaa

/- One goes on, and never back. -/
namespace Go.Proofs.Ytnmjpbcbldenmaa
open Go.RowKit Rg Wm Ar
set_option linter.unusedVariables false
set_option maxRecDepth 100000
namespace Lf
open Pk
theorem pc_mono {m t : Nat} : ∀ k, (∀ i, i < k → m.testBit i = true → t.testBit i = true) → St.pc m k ≤ St.pc t k
  | 0, _ => Nat.le_refl _
  | k + 1, h => by
    have h1 := pc_mono k fun i hi => h i (by omega)
    have h2 := h k (by omega)
    simp only [St.pc]
    cases hb : m.testBit k
    · simp; omega
    · rw [h2 hb]; simp; omega
theorem apply_zero {s : StM} {u : UpM} {votes : List St.VoteT} (h : (applyM s u votes).2 ≠ 0) : (applyM s u votes).1 = zeroS := by
  unfold applyM at *
  split
  · rfl
  · rename_i h1
    rw [if_neg h1] at h
    split
    · rfl
    · rename_i h2
      rw [if_neg h2] at h
      split
      · rfl
      · rename_i h3
        rw [if_neg h3] at h
        split
        · rfl
        · rename_i h4
          rw [if_neg h4] at h
          split
          · rfl
          · rename_i h5
            rw [if_neg h5] at h
            exact absurd rfl h
/-- Whose votes were asked for. -/
theorem taken_judge {s : StM} {u : UpM} {votes : List St.VoteT} {x : StM} (T : Taken s u votes x) : s.hdr.number < u.hdr.number ∧ right x.seats = true ∧ ((s.hdr.number / 8 = u.hdr.number / 8 ∧ x.seats = s.seats) ∨ (¬ s.hdr.number / 8 = u.hdr.number / 8 ∧ u.hdr.number / 8 = s.hdr.number / 8 + 1 ∧ x.seats = s.next)) := by
  have h1 := T.judge
  have h2 := T.seats
  have h3 := T.good
  unfold judgeM at h1 h2
  by_cases g1 : u.hdr.number ≤ s.hdr.number
  · rw [if_pos g1] at h1; cases h1
  · rw [if_neg g1] at h1 h2
    have hlt : s.hdr.number < u.hdr.number := by omega
    unfold badM at h3
    simp only [Bool.or_eq_false_iff, Bool.not_eq_false', Bool.and_eq_false_iff] at h3
    obtain ⟨⟨r1, r2⟩, _⟩ := h3
    by_cases g2 : s.hdr.number / 8 = u.hdr.number / 8
    · rw [if_pos g2] at h2
      exact ⟨hlt, by rw [h2]; exact r1, .inl ⟨g2, h2⟩⟩
    · rw [if_neg g2] at h1 h2
      by_cases g3 : 1 < u.hdr.number / 8 - s.hdr.number / 8 ∨ s.next = []
      · rw [if_pos g3] at h1; cases h1
      · rw [if_neg g3] at h2
        have g4 : ¬ 1 < u.hdr.number / 8 - s.hdr.number / 8 := fun f => g3 (.inl f)
        have g5 : ¬ s.next = [] := fun f => g3 (.inr f)
        have g6 : s.hdr.number / 8 ≤ u.hdr.number / 8 := Nat.div_le_div_right (by omega)
        refine ⟨hlt, ?_, .inr ⟨g2, by omega, h2⟩⟩
        rw [h2]
        rcases r2 with r | r
        · exact absurd (of_decide_eq_true r) g5
        · exact r
theorem taken_most {s : StM} {u : UpM} {votes : List St.VoteT} {x : StM} (T : Taken s u votes x) (hm : u.mask < 18446744073709551616) : x.seats.length ≤ 16 ∧ 2 * x.seats.length ≤ 3 * (St.named x.seats (St.tally x.seats (sumB (hdrB u.hdr)) votes)).length := by
  obtain ⟨a1, _, a3⟩ := St.quo_spec hm T.quo
  have h1 := (St.andn_zero hm (St.tally_lt x.seats (sumB (hdrB u.hdr)) votes)).1 T.voted
  have h2 := pc_mono x.seats.length fun i _ hb => h1 i hb
  have ht := St.tal_lt (St.talF x.seats (sumB (hdrB u.hdr)) votes) (min x.seats.length 64)
  have ht' : St.tally x.seats (sumB (hdrB u.hdr)) votes < 2 ^ x.seats.length := by
    have e : min x.seats.length 64 = x.seats.length := by omega
    rw [e] at ht
    unfold St.tally
    rw [e]
    exact ht
  rw [St.named_len x.seats (by omega) _ ht']
  have h4 := St.pc_stable ht' (64 - x.seats.length)
  rw [show x.seats.length + (64 - x.seats.length) = 64 from by omega] at h4
  rw [h4]
  exact ⟨a1, by omega⟩
end Lf
end Go.Proofs.Ytnmjpbcbldenmaa

/- Slices held against nil, where it is known what they are. -/
namespace Go.Proofs.Ytnmjpbcbldenmaa
open Go.RowKit Rg
namespace Lf
section
variable {P : Program} {env : Env} {o : Oper}
theorem run_nilS {T Y e : Nat} {b : BinOp} {x : Operand} (X : TOk P) {ti : TI} (hT : aget X.tab T = some ti) (hdt : ti.d = .sl e) (ho : o.op = .binOp b T x (.const (.slice none 0 0)) Y) {ev : Operand → Value} (hev : ev (.const (.slice none 0 0)) = .slice none 0 0) {ad : Option Addr} {n c : Nat} (h : ev x = .slice ad n c) {r : Bool} (hb : (b = .eql ∧ r = ad.isNone) ∨ (b = .neq ∧ r = !ad.isNone)) (w : World) :
    (execOp ev o).run P w = .ok (.value (.bool r)) w := by
  have hu := (X.get hT).sl hdt
  have hgt : P.eqGuardType P.depth T = false := by
    obtain ⟨m, hm⟩ : ∃ m, P.depth = m + 1 := ⟨2 * (P.types.size + Made.depth) + 1, rfl⟩
    rw [hm]
    simp [Program.eqGuardType, hu]
  have q1 : (eqGuard b T x (.const (.slice none 0 0)) (.slice ad n c) (.slice none 0 0)).run P w = .ok () w := by
    unfold eqGuard
    rcases hb with ⟨rfl, _⟩ | ⟨rfl, _⟩ <;> simp [hgt, program, Sem.run]
  have e : Op.equal T (.slice ad n c) (.slice none 0 0) = Op.equalIn (9999 + 1) T (.slice ad n c) (.slice none 0 0) := rfl
  have q3 : (Op.equalIn (9999 + 1) T (.slice ad n c) (.slice none 0 0)).run P w = .ok ad.isNone w := by
    rw [Op.equalIn, Sem.run_bind, run_underlying hu w]
    cases ad <;> rfl
  have q2 : (binOp b T (.slice ad n c) (.slice none 0 0)).run P w = .ok (.bool r) w := by
    rcases hb with ⟨rfl, rfl⟩ | ⟨rfl, rfl⟩ <;> (simp only [binOp, e, Sem.run_bind, q3, Result.andThen_ok]; rfl)
  simp only [execOp, ho, h, hev, Sem.run_bind, q1, Result.andThen_ok, q2]
  rfl
theorem Does.eqNilS {T Y e : Nat} {x : Operand} {t : Option Nat} {es : List V} (X : TOk P) {ti : TI} (ho : o.op = .binOp .eql T x (.const (.slice none 0 0)) Y) (hx : evo env x = some (.s t es)) (hT : aget X.tab T = some ti) (hdt : ti.d = .sl e) (hes : 0 < es.length) : Does P o env (.k (.bool false)) [] :=
  .pure fun F g a w mem hr _ => by
    have h1 := hr x (by simp [ho, Op.operands]) _ hx
    generalize hv : a.eval x = v at h1
    cases h1 with
    | s0 => exact absurd hes (by simp)
    | se => exact absurd hes (by simp)
    | s => exact ⟨_, run_nilS X hT hdt ho rfl hv (.inl ⟨rfl, rfl⟩) w, .k _⟩
theorem Does.neNilS {T Y e : Nat} {x : Operand} {t : Option Nat} {es : List V} (X : TOk P) {ti : TI} (ho : o.op = .binOp .neq T x (.const (.slice none 0 0)) Y) (hx : evo env x = some (.s t es)) (hT : aget X.tab T = some ti) (hdt : ti.d = .sl e) (hes : 0 < es.length) : Does P o env (.k (.bool true)) [] :=
  .pure fun F g a w mem hr _ => by
    have h1 := hr x (by simp [ho, Op.operands]) _ hx
    generalize hv : a.eval x = v at h1
    cases h1 with
    | s0 => exact absurd hes (by simp)
    | se => exact absurd hes (by simp)
    | s => exact ⟨_, run_nilS X hT hdt ho rfl hv (.inr ⟨rfl, rfl⟩) w, .k _⟩
theorem Does.eqNilN {T Y e : Nat} {x : Operand} (X : TOk P) {ti : TI} (ho : o.op = .binOp .eql T x (.const (.slice none 0 0)) Y) (hx : evo env x = some .nil) (hT : aget X.tab T = some ti) (hdt : ti.d = .sl e) : Does P o env (.k (.bool true)) [] :=
  .pure fun F g a w mem hr _ => by
    have h1 := hr x (by simp [ho, Op.operands]) _ hx
    generalize hv : a.eval x = v at h1
    cases h1
    exact ⟨_, run_nilS X hT hdt ho rfl hv (.inl ⟨rfl, rfl⟩) w, .k _⟩
theorem Does.neNilN {T Y e : Nat} {x : Operand} (X : TOk P) {ti : TI} (ho : o.op = .binOp .neq T x (.const (.slice none 0 0)) Y) (hx : evo env x = some .nil) (hT : aget X.tab T = some ti) (hdt : ti.d = .sl e) : Does P o env (.k (.bool false)) [] :=
  .pure fun F g a w mem hr _ => by
    have h1 := hr x (by simp [ho, Op.operands]) _ hx
    generalize hv : a.eval x = v at h1
    cases h1
    exact ⟨_, run_nilS X hT hdt ho rfl hv (.inr ⟨rfl, rfl⟩) w, .k _⟩
end
end Lf
end Go.Proofs.Ytnmjpbcbldenmaa

/- Clashes: two unlike texts with one sum. -/
namespace Go.Proofs.Ytnmjpbcbldenmaa
open Go.RowKit Rg
set_option linter.unusedVariables false
set_option maxRecDepth 100000
namespace Lf
/-- Hashes as keys. -/
def hashL (h : List UInt8) : List Value := h.map fun b => Value.int .u8 (b.toNat : Int)
def hashK (h : List UInt8) : Value := .agg (hashL h).toArray
theorem hash_rep {w : World} {g : Gh} {h : List UInt8} {v : Value} (hr : Rep w g (.a (h.map bK)) v) : v = hashK h := by
  have e : h.map bK = (hashL h).map .k := by unfold hashL; rw [List.map_map]; rfl
  rw [e] at hr
  exact rep_plain hr
theorem hashL_inj : ∀ {a b : List UInt8}, hashL a = hashL b → a = b
  | [], [], _ => rfl
  | [], _ :: _, h => by simp [hashL] at h
  | _ :: _, [], h => by simp [hashL] at h
  | x :: r, y :: s, h => by
    simp only [hashL, List.map_cons, List.cons.injEq, Value.int.injEq, true_and] at h
    have e1 : x = y := UInt8.toNat_inj.1 (Int.ofNat.inj h.1)
    rw [e1, hashL_inj (a := r) (b := s) h.2]
theorem hashK_inj {a b : List UInt8} (h : hashK a = hashK b) : a = b := hashL_inj (by simpa using congrArg Array.toList (Value.agg.inj h))
theorem wideH : (match Try.prog.underlying 51 with | some (.array _ _) | some (.struct _) => true | _ => false) = true := by kernel_rfl
theorem lawH : Maps.Keyed Try.prog 51 := Maps.Keyed.of_law (deep_law_laid St.laidV (m := 3) (by omega) (of_decide_eq_true (by kernel_rfl)) (by kernel_rfl) wideH)
theorem mapTyH : MapTy Try.prog 133 51 (.int .i64 0) := ⟨⟨3, by kernel_rfl, fun w => by kernel_rfl⟩, lawH⟩
theorem key_hash : Try.prog.keyType 51 = true := by kernel_rfl
theorem key_hashK {h : List UInt8} (hl : h.length = 32) : ∃ l, keyOf Try.prog 51 (hashK h) = some l := by
  obtain ⟨n, hn⟩ := St.size_ge
  obtain ⟨r, hr⟩ := St.lits_hash (n + 1) h hl
  have hc : (hashK h).cells.toList = hashL h := by simp [hashK, Value.cells]
  have hf : (hashK h).formed Try.prog 51 = true := by
    simp [hashK, Value.formed, St.u_hash, St.c_hash, hashL, hl]
  unfold keyOf
  rw [St.u_hash]
  simp only
  rw [if_pos (by rw [key_hash, hf]; rfl), hn, hc]
  have : Try.prog.keyLits (n + 1 + 1 + 1) 51 (hashL h) = some r := hr
  rw [this]
  exact ⟨_, rfl⟩
theorem keyH {h : List UInt8} (hl : h.length = 32) : KeyV Try.prog 51 (.a (h.map bK)) (hashK h) := ⟨key_hashK hl, fun _ _ _ hr => hash_rep hr⟩
/-- Entries: sums, and where they stand. -/
def hE (E : List (List UInt8 × Nat)) : List (Value × V) := E.map fun p => (hashK p.1, .k (.int .i64 ((p.2 : Nat) : Int)))
theorem hget_no {E : List (List UInt8 × Nat)} {h : List UInt8} {y0 : V} (hn : ∀ p ∈ E, p.1 ≠ h) : MGetO (hE E) (hashK h) y0 y0 false := ⟨fun _ => ⟨rfl, rfl⟩, fun p hp e => by
  obtain ⟨q, hq, rfl⟩ := List.mem_map.1 hp
  exact absurd (hashK_inj e) (hn q hq)⟩
theorem hget_yes {E : List (List UInt8 × Nat)} {h : List UInt8} {k : Nat} {y0 : V} (hu : ∀ p ∈ E, ∀ q ∈ E, p.1 = q.1 → p = q) (hm : (h, k) ∈ E) : MGetO (hE E) (hashK h) y0 (.k (.int .i64 ((k : Nat) : Int))) true := ⟨fun h1 => absurd rfl (h1 (hashK h, .k (.int .i64 ((k : Nat) : Int))) (List.mem_map.2 ⟨(h, k), hm, rfl⟩)), fun p hp e => by
  obtain ⟨q, hq, rfl⟩ := List.mem_map.1 hp
  have e2 := hashK_inj e
  have := hu q hq (h, k) hm e2
  subst this
  exact ⟨rfl, rfl⟩⟩
theorem hks {E : List (List UInt8 × Nat)} (h : ∀ p ∈ E, p.1.length = 32) : KeysV Try.prog 51 (hE E) := ⟨fun p hp => by
  obtain ⟨q, hq, rfl⟩ := List.mem_map.1 hp
  exact key_hashK (h q hq)⟩
theorem hno {E : List (List UInt8 × Nat)} {h : List UInt8} (hn : ∀ p ∈ E, p.1 ≠ h) : MNo (hE E) (hashK h) := ⟨fun p hp e => by
  obtain ⟨q, hq, rfl⟩ := List.mem_map.1 hp
  exact hn q hq (hashK_inj e)⟩
theorem hE_snoc (E : List (List UInt8 × Nat)) (h : List UInt8) (k : Nat) : hE E ++ [(hashK h, .k (.int .i64 ((k : Nat) : Int)))] = hE (E ++ [(h, k)]) := by
  unfold hE; rw [List.map_append]; rfl
/-- Do two unlike texts come to one sum? -/
def Clashes (ts : List (List UInt8)) : Prop := ∃ a ∈ ts, ∃ b ∈ ts, sumB a = sumB b ∧ a ≠ b
structure ClashAt (ts : List (List UInt8)) (i : Nat) (E : List (List UInt8 × Nat)) : Prop where
  one : ∀ p ∈ E, ∀ q ∈ E, p.1 = q.1 → p = q
  at_ : ∀ p ∈ E, p.2 < i ∧ p.1 = sumB (ts.getD p.2 default)
  all : ∀ j, j < i → ∃ p ∈ E, p.1 = sumB (ts.getD j default) ∧ ts.getD p.2 default = ts.getD j default
theorem ClashAt.len {ts : List (List UInt8)} {i : Nat} {E : List (List UInt8 × Nat)} (h : ClashAt ts i E) : ∀ p ∈ E, p.1.length = 32 := fun p hp => by rw [(h.at_ p hp).2]; exact sumB_len _
theorem ClashAt.no {ts : List (List UInt8)} {E : List (List UInt8 × Nat)} (h : ClashAt ts ts.length E) : ¬ Clashes ts := by
  rintro ⟨a, ha, b, hb, h1, h2⟩
  obtain ⟨i, hi, ei⟩ := List.mem_iff_getElem.1 ha
  obtain ⟨j, hj, ej⟩ := List.mem_iff_getElem.1 hb
  have gi : ts.getD i default = a := by rw [List.getD_eq_getElem?_getD, List.getElem?_eq_getElem hi]; exact ei
  have gj : ts.getD j default = b := by rw [List.getD_eq_getElem?_getD, List.getElem?_eq_getElem hj]; exact ej
  obtain ⟨p, p1, p2, p3⟩ := h.all i hi
  obtain ⟨q, q1, q2, q3⟩ := h.all j hj
  rw [gi] at p2 p3
  rw [gj] at q2 q3
  have := h.one p p1 q q1 (by rw [p2, q2, h1])
  subst this
  exact h2 (p3.symm.trans q3)
namespace Sr
theorem neS_t {a b : List UInt8} (h : a ≠ b) : arithS .neq ⟨a.toArray⟩ ⟨b.toArray⟩ = some (.bool true) := by
  simp only [arithS, ByteArray.toList_mk]
  simp [h]
theorem neS_f (a : List UInt8) : arithS .neq ⟨a.toArray⟩ ⟨a.toArray⟩ = some (.bool false) := by
  simp only [arithS, ByteArray.toList_mk]
  simp
set_option maxHeartbeats 2000000 in
theorem Clash_ (ts : List (List UInt8)) (hn : ts.length < 1073741824) (ht : ∀ t ∈ ts, t.length < 1073741824) :
    (Clashes ts → LF Try.prog 38 [.s none (ts.map fun l => .s none (l.map bK))] (fun _ => .k (.bool true)) none) ∧
    (¬ Clashes ts → LF Try.prog 38 [.s none (ts.map fun l => .s none (l.map bK))] (fun _ => .k (.bool false)) none) := by
  have main : ∀ r : Bool, (r = true ↔ Clashes ts) → LF Try.prog 38 [.s none (ts.map fun l => .s none (l.map bK))] (fun _ => .k (.bool r)) none := by
    intro r hr
    have hM := mapTyH
    refine LFx.mk' tt Try.func38 rfl rfl rfl (by kernel_rfl) rfl rfl fun F => ?_
    refine wk ?_ trueW trueW
    refine LC.loop2 (fun i E => [(0, .s none (ts.map fun l => .s none (l.map bK))), (3, .mp 9), (10, .s none (ts.map fun l => .s none (l.map bK))), (11, .k (.int .i64 ((ts.length : Nat) : Int))), (12, .k (.int .i64 ((i : Nat) : Int)))]) (fun i E => [(9, .m (hE E))]) (fun i E => i ≤ ts.length ∧ ClashAt ts i E) ((ts.length - ·)) (0) ([]) ⟨by omega, ⟨by simp, by simp, fun j h => by omega⟩⟩ ⟨rfl, rfl, rfl, rfl, rfl, trivial⟩ ⟨rfl, trivial⟩ rfl rfW rfW ?_
    rintro i E ⟨hi, hC⟩
    by_cases h : i < ts.length
    · have hmem : ts.getD i default ∈ ts := by rw [List.getD_eq_getElem?_getD, List.getElem?_eq_getElem h]; exact List.getElem_mem h
      have c1 := SSum (ts.getD i default) (ht _ hmem)
      have hsl := sumB_len (ts.getD i default)
      have hkey := keyH hsl
      have hkk := hks hC.len
      by_cases hin : ∃ p ∈ E, p.1 = sumB (ts.getD i default)
      · obtain ⟨⟨u, k⟩, hp, hu⟩ := hin
        have hu' : u = sumB (ts.getD i default) := hu
        subst hu'
        obtain ⟨hk, hks'⟩ := hC.at_ _ hp
        have hki : k < i := hk
        have hget := hget_yes (y0 := .k (.int .i64 0)) hC.one hp
        by_cases heq : ts.getD k default = ts.getD i default
        · have hne := neS_f (ts.getD i default)
          have hne2 : arithS .neq ⟨(ts.getD k default).toArray⟩ ⟨(ts.getD i default).toArray⟩ = some (.bool false) := by rw [heq]; exact hne
          have hok : i + 1 ≤ ts.length ∧ ClashAt ts (i + 1) E := ⟨h, hC.one, fun p hp => ⟨by have := (hC.at_ p hp).1; omega, (hC.at_ p hp).2⟩, fun j hj => by
            by_cases e : j = i
            · subst e; exact ⟨_, hp, rfl, heq⟩
            · exact hC.all j (by omega)⟩
          clear hC hr hne heq hks'
          generalize sumB (ts.getD i default) = sm at *
          exact wk trueW trueW trueW
        · have hne2 := neS_t heq
          have hmk : ts.getD k default ∈ ts := by rw [List.getD_eq_getElem?_getD, List.getElem?_eq_getElem (show k < ts.length by omega)]; exact List.getElem_mem _
          have hrt : r = true := hr.2 ⟨_, hmk, _, hmem, hks'.symm, heq⟩
          subst hrt
          clear hC hr heq hks'
          generalize sumB (ts.getD i default) = sm at *
          exact wk trueW trueW trueW
      · have hnone : ∀ p ∈ E, p.1 ≠ sumB (ts.getD i default) := fun p hp e => hin ⟨p, hp, e⟩
        have hget := hget_no (y0 := .k (.int .i64 0)) hnone
        have hn' := hno hnone
        have hsn := hE_snoc E (sumB (ts.getD i default)) i
        have hok : i + 1 ≤ ts.length ∧ ClashAt ts (i + 1) (E ++ [(sumB (ts.getD i default), i)]) := ⟨h, fun p hp q hq e => by
          rcases List.mem_append.1 hp with hp | hp <;> rcases List.mem_append.1 hq with hq | hq
          · exact hC.one p hp q hq e
          · rw [List.mem_singleton] at hq; subst hq; exact absurd e (hnone p hp)
          · rw [List.mem_singleton] at hp; subst hp; exact absurd e.symm (hnone q hq)
          · rw [List.mem_singleton] at hp hq; rw [hp, hq], fun p hp => by
          rcases List.mem_append.1 hp with hp | hp
          · exact ⟨by have := (hC.at_ p hp).1; omega, (hC.at_ p hp).2⟩
          · rw [List.mem_singleton] at hp; subst hp; exact ⟨by omega, rfl⟩, fun j hj => by
          by_cases e : j = i
          · subst e; exact ⟨_, List.mem_append_right _ (List.mem_singleton.2 rfl), rfl, rfl⟩
          · obtain ⟨p, h1, h2⟩ := hC.all j (by omega)
            exact ⟨p, List.mem_append_left _ h1, h2⟩⟩
        clear hC hr hnone hin
        generalize sumB (ts.getD i default) = sm at *
        exact wk trueW trueW trueW
    · obtain rfl : i = ts.length := by omega
      have hrf : r = false := by
        cases r
        · rfl
        · exact absurd (hr.1 rfl) hC.no
      subst hrf
      clear hC hr
      exact wk trueW trueW trueW
  exact ⟨fun h => main true ⟨fun _ => h, fun _ => rfl⟩, fun h => main false ⟨fun e => (by cases e), fun e => absurd e h⟩⟩
end Sr
end Lf
end Go.Proofs.Ytnmjpbcbldenmaa

/- What is so: its headers, and each period's seats. -/
namespace Go.Proofs.Ytnmjpbcbldenmaa
open Go.RowKit Rg Wm Ar
set_option linter.unusedVariables false
set_option maxRecDepth 100000
namespace Lf
open Pk
theorem hdrC_inj {a b : Hdr} (ka : a.ok) (kb : b.ok) (h : hdrC a = hdrC b) : a = b := by
  have bi : ∀ {l m : List UInt8}, l.map bK = m.map bK → l = m := fun {l m} h => by
    have := congrArg (List.map fun v => match v with | V.k (.int _ z) => UInt8.ofNat z.toNat | _ => 0) h
    simpa [bK, Function.comp_def] using this
  have ui : ∀ {m n : Nat}, uK m = uK n → m = n := fun h => by
    injection h with h; injection h with _ h; exact Int.ofNat.inj h
  rw [hdrC_eq, hdrC_eq] at h
  obtain ⟨h1, h⟩ := List.append_inj h (by rw [len_b _ ka.parent, len_b _ kb.parent])
  obtain ⟨h2, h⟩ := List.cons.inj h
  obtain ⟨h3, h⟩ := List.cons.inj h
  obtain ⟨h4, h⟩ := List.append_inj h (by rw [len_b _ ka.keeper, len_b _ kb.keeper])
  obtain ⟨h5, h⟩ := List.cons.inj h
  obtain ⟨h6, h⟩ := List.cons.inj h
  obtain ⟨h7, h⟩ := List.append_inj h (by rw [len_b _ ka.bloom, len_b _ kb.bloom])
  obtain ⟨h8, h⟩ := List.append_inj h (by rw [len_b _ ka.state, len_b _ kb.state])
  obtain ⟨h9, h⟩ := List.append_inj h (by rw [len_b _ ka.txs, len_b _ kb.txs])
  obtain ⟨h10, h11⟩ := List.append_inj h (by rw [len_b _ ka.receipts, len_b _ kb.receipts])
  cases a; cases b
  simp only [Hdr.mk.injEq]
  exact ⟨bi h1, ui h2, ui h3, bi h4, ui h5, ui h6, bi h7, bi h8, bi h9, bi h10, bi h11⟩
/-- Ascending, as the text asks for it: each against all ahead of it. -/
def vIn (l : List Nat) (i : Nat) : Nat → Bool
  | 0 => true
  | j + 1 => vIn l i j && decide (l.getD j default < l.getD i default)
def vOut (l : List Nat) : Nat → Bool
  | 0 => true
  | i + 1 => vOut l i && vIn l i i
theorem vIn_iff (l : List Nat) (i : Nat) : ∀ j, vIn l i j = true ↔ ∀ k, k < j → l.getD k default < l.getD i default
  | 0 => by simp [vIn]
  | j + 1 => by
    rw [vIn, Bool.and_eq_true, vIn_iff l i j, decide_eq_true_eq]
    refine ⟨fun ⟨a, b⟩ k hk => ?_, fun a => ⟨fun k hk => a k (by omega), a j (by omega)⟩⟩
    by_cases e : k = j
    · subst e; exact b
    · exact a k (by omega)
theorem vOut_iff (l : List Nat) : ∀ i, vOut l i = true ↔ ∀ m, m < i → ∀ k, k < m → l.getD k default < l.getD m default
  | 0 => by simp [vOut]
  | i + 1 => by
    rw [vOut, Bool.and_eq_true, vOut_iff l i, vIn_iff]
    refine ⟨fun ⟨a, b⟩ m hm => ?_, fun a => ⟨fun k hk => a k (by omega), a i (by omega)⟩⟩
    by_cases e : m = i
    · subst e; exact b
    · exact a m (by omega)
theorem asc_lt {l : List Nat} (h : St.asc l) : ∀ m, m < l.length → ∀ k, k < m → l.getD k default < l.getD m default
  | 0, _, k, hk => by omega
  | m + 1, hm, k, hk => by
    have h1 := h (m + 1) (by omega) hm
    rw [Nat.add_sub_cancel] at h1
    by_cases e : k = m
    · subst e; exact h1
    · exact Nat.lt_trans (asc_lt h m (by omega) k (by omega)) h1
theorem right_v (l : List Nat) : right l = (decide (1 ≤ l.length ∧ l.length ≤ 16) && vOut l l.length) := by
  rw [Bool.eq_iff_iff, right, decide_eq_true_eq, Bool.and_eq_true, decide_eq_true_eq, vOut_iff]
  constructor
  · rintro ⟨a, b, c⟩
    exact ⟨⟨b, c⟩, asc_lt a⟩
  · rintro ⟨⟨b, c⟩, a⟩
    exact ⟨fun j h0 hj => a j hj (j - 1) (by omega), b, c⟩
abbrev hdrV (h : Hdr) : V := .a (hdrC h)
abbrev hsV (hs : List Hdr) : V := .s none (hs.map hdrV)
abbrev asV (a : List (List Nat)) : V := .s none (a.map sV)
abbrev canV (hs : List Hdr) (a : List (List Nat)) : V := .a [hsV hs, asV a]
def ofB (hs : List Hdr) : Nat := (hs.getD 0 default).number / 8
def ofM (hs : List Hdr) (a : List (List Nat)) (n : Nat) : Option (List Nat) := if hs = [] ∨ n / 8 < ofB hs ∨ a.length ≤ n / 8 - ofB hs then none else some (a.getD (n / 8 - ofB hs) default)
def ofV : Option (List Nat) → V
  | none => .nil
  | some l => sV l
namespace Sr
set_option maxHeartbeats 8000000 in
theorem VRight (l : List Nat) (hl : seats64 l) (hn : l.length < 4611686018427387904) : LF Try.prog 69 [.s none (l.map uK)] (fun _ => .k (.bool (right l))) none := by
  rw [right_v]
  by_cases h1 : 1 ≤ l.length
  · by_cases h2 : l.length ≤ 16
    · rw [decide_eq_true ⟨h1, h2⟩, Bool.true_and]
      refine LFx.mk' tt Try.func69 rfl rfl rfl (by kernel_rfl) rfl rfl fun F => ?_
      refine wk ?_ trueW trueW
      refine LC.loop2 (fun i b => [(0, .s none (l.map uK)), (3, .k (.bool b)), (15, .k (.int .i64 ((l.length : Nat) : Int))), (16, .k (.int .i64 ((i : Nat) : Int)))]) (fun i b => []) (fun i b => i ≤ l.length ∧ b = vOut l i) ((l.length - ·)) (0) (true) ⟨by omega, rfl⟩ ⟨rfl, rfl, rfl, rfl, trivial⟩ trivial rfl rfW rfW ?_
      rintro i b ⟨hi, hb⟩
      by_cases h : i < l.length
      · refine wk ?_ trueW trueW
        refine LC.loop2 (fun j c => [(0, .s none (l.map uK)), (3, .k (.bool c)), (4, .k (.int .i64 ((i : Nat) : Int))), (15, .k (.int .i64 ((l.length : Nat) : Int))), (16, .k (.int .i64 ((i : Nat) : Int))), (19, .k (.int .i64 ((i : Nat) : Int))), (20, .k (.int .i64 ((j : Nat) : Int)))]) (fun j c => []) (fun j c => j ≤ i ∧ c = (b && vIn l i j)) ((i - ·)) (0) (b) ⟨by omega, by simp [vIn]⟩ ⟨rfl, rfl, rfl, rfl, rfl, rfl, rfl, trivial⟩ trivial rfl rfW rfW ?_
        rintro j c ⟨hj, hc⟩
        have s1 := St.getD_lt64 hl j
        have s2 := St.getD_lt64 hl i
        by_cases h4 : j < i
        · cases c
          · have hok : j + 1 ≤ i ∧ false = (b && vIn l i (j + 1)) := ⟨h4, by rw [vIn, ← Bool.and_assoc, ← hc]; rfl⟩
            clear hc hb
            exact wk trueW trueW trueW
          · by_cases hlt : l.getD j default < l.getD i default
            · have hok : j + 1 ≤ i ∧ true = (b && vIn l i (j + 1)) := ⟨h4, by rw [vIn, ← Bool.and_assoc, ← hc, decide_eq_true hlt]; rfl⟩
              clear hc hb
              exact wk trueW trueW trueW
            · have hok : j + 1 ≤ i ∧ false = (b && vIn l i (j + 1)) := ⟨h4, by rw [vIn, ← Bool.and_assoc, ← hc, decide_eq_false hlt]; rfl⟩
              clear hc hb
              exact wk trueW trueW trueW
        · obtain rfl : j = i := by omega
          have hok : j + 1 ≤ l.length ∧ c = vOut l (j + 1) := ⟨h, by rw [vOut, ← hb, hc]⟩
          clear hc hb
          exact wk trueW trueW trueW
      · obtain rfl : i = l.length := by omega
        rw [← hb]
        clear hb
        exact wk trueW trueW trueW
    · rw [decide_eq_false (fun h => h2 h.2), Bool.false_and]
      refine LFx.mk' tt Try.func69 rfl rfl rfl (by kernel_rfl) rfl rfl fun F => ?_
      refine wk ?_ trueW trueW
      refine LC.loopN (fun i => [(0, .s none (l.map uK)), (3, .k (.bool false)), (15, .k (.int .i64 ((l.length : Nat) : Int))), (16, .k (.int .i64 ((i : Nat) : Int)))]) (fun i => []) (fun i => i ≤ l.length) ((l.length - ·)) (0) (by omega) ⟨rfl, rfl, rfl, rfl, trivial⟩ trivial rfl rfW rfW ?_
      intro i hi
      by_cases h : i < l.length
      · refine wk ?_ trueW trueW
        refine LC.loopN (fun j => [(0, .s none (l.map uK)), (3, .k (.bool false)), (4, .k (.int .i64 ((i : Nat) : Int))), (15, .k (.int .i64 ((l.length : Nat) : Int))), (16, .k (.int .i64 ((i : Nat) : Int))), (19, .k (.int .i64 ((i : Nat) : Int))), (20, .k (.int .i64 ((j : Nat) : Int)))]) (fun j => []) (fun j => j ≤ i) ((i - ·)) (0) (by omega) ⟨rfl, rfl, rfl, rfl, rfl, rfl, rfl, trivial⟩ trivial rfl rfW rfW ?_
        intro j hj
        by_cases h4 : j < i
        · exact wk trueW trueW trueW
        · obtain rfl : j = i := by omega
          exact wk trueW trueW trueW
      · obtain rfl : i = l.length := by omega
        exact wk trueW trueW trueW
  · rw [decide_eq_false (fun h => h1 h.1), Bool.false_and]
    have h0 : l.length = 0 := by omega
    refine LFx.mk' tt Try.func69 rfl rfl rfl (by kernel_rfl) rfl rfl fun F => ?_
    refine wk ?_ trueW trueW
    refine LC.loopN (fun i => [(0, .s none (l.map uK)), (3, .k (.bool false)), (15, .k (.int .i64 ((l.length : Nat) : Int))), (16, .k (.int .i64 ((i : Nat) : Int)))]) (fun i => []) (fun i => i ≤ l.length) ((l.length - ·)) (0) (by omega) ⟨rfl, rfl, rfl, rfl, trivial⟩ trivial rfl rfW rfW ?_
    intro i hi
    obtain rfl : i = l.length := by omega
    exact wk trueW trueW trueW
end Sr
end Lf
end Go.Proofs.Ytnmjpbcbldenmaa

/- Is a header one of these; the seats of a number's period. -/
namespace Go.Proofs.Ytnmjpbcbldenmaa
open Go.RowKit Rg Wm Ar
set_option linter.unusedVariables false
set_option maxRecDepth 100000
namespace Lf
open Pk
namespace Sr
theorem refs_hdrV (m : List (Nat × M)) : ∀ l : List Hdr, V.refs.go m (l.map hdrV) = true
  | [] => rfl
  | x :: r => by rw [List.map_cons, V.refs.go, V.refs, hdrC_refs, refs_hdrV m r]; rfl
theorem refs_sV (m : List (Nat × M)) : ∀ l : List (List Nat), V.refs.go m (l.map sV) = true
  | [] => rfl
  | x :: r => by
    have h : V.refs m (sV x) = true := rfl
    rw [List.map_cons, V.refs.go, h, refs_sV m r]; rfl
theorem canRefs : (∀ (m : List (Nat × M)) (l : List Hdr), V.refs.go m (l.map hdrV) = true) ∧ ∀ (m : List (Nat × M)) (l : List (List Nat)), V.refs.go m (l.map sV) = true := ⟨refs_hdrV, refs_sV⟩
theorem getD_mem {α : Type} [Inhabited α] {l : List α} {i : Nat} (h : i < l.length) : l.getD i default ∈ l := by
  rw [List.getD_eq_getElem?_getD, List.getElem?_eq_getElem h]; exact List.getElem_mem h
set_option maxHeartbeats 8000000 in
theorem Has (hs : List Hdr) (a : List (List Nat)) (h : Hdr) (k : h.ok) (ks : ∀ x ∈ hs, Hdr.ok x) (hn : hs.length < 4611686018427387904) : LF Try.prog 72 [canV hs a, .a (hdrC h)] (fun _ => .k (.bool (decide (h ∈ hs)))) none := by
  have main : ∀ r : Bool, (r = true ↔ h ∈ hs) → LF Try.prog 72 [canV hs a, .a (hdrC h)] (fun _ => .k (.bool r)) none := by
    intro r hr
    have hlh := hdrC_len k
    have hk := hdr_kinds k
    have hrf := hdrC_refs
    have hrg := canRefs
    refine LFx.mk' tt Try.func72 rfl rfl rfl (by kernel_rfl) rfl rfl fun F => ?_
    refine wk ?_ trueW trueW
    refine LC.loopN (fun i => [(2, .p 2 0), (3, .p 3 0), (8, .s none (hs.map hdrV)), (9, .k (.int .i64 ((hs.length : Nat) : Int))), (10, .k (.int .i64 ((i : Nat) : Int)))]) (fun i => [(2, .b [hsV hs, asV a]), (3, .b (hdrC h))]) (fun i => i ≤ hs.length ∧ ∀ m, m < i → hs.getD m default ≠ h) ((hs.length - ·)) (0) ⟨by omega, fun m hm => absurd hm (by omega)⟩ ⟨rfl, rfl, rfl, rfl, rfl, trivial⟩ ⟨rfl, rfl, trivial⟩ rfl rfW rfW ?_
    rintro i ⟨hi, hne⟩
    by_cases hlt : i < hs.length
    · have km := ks _ (getD_mem hlt)
      have hlm := hdrC_len km
      have hkm := hdr_kinds km
      by_cases he : hs.getD i default = h
      · have hrt : r = true := hr.2 (by rw [← he]; exact getD_mem hlt)
        subst hrt
        have hee : hdrC (hs.getD i default) = hdrC h := by rw [he]
        clear hr hne
        exact wk trueW trueW trueW
      · have hee : ¬ hdrC (hs.getD i default) = hdrC h := fun e => he (hdrC_inj km k e)
        have hok : i + 1 ≤ hs.length ∧ ∀ m, m < i + 1 → hs.getD m default ≠ h := ⟨hlt, fun m hm => by
          by_cases e : m = i
          · subst e; exact he
          · exact hne m (by omega)⟩
        clear hr hne
        exact wk trueW trueW trueW
    · obtain rfl : i = hs.length := by omega
      have hrf : r = false := by
        cases r
        · rfl
        · obtain ⟨m, hm, e⟩ := List.mem_iff_getElem.1 (hr.1 rfl)
          exact absurd (by rw [List.getD_eq_getElem?_getD, List.getElem?_eq_getElem hm]; exact e) (hne m hm)
      subst hrf
      clear hr hne
      exact wk trueW trueW trueW
  exact main _ (by rw [decide_eq_true_eq])
theorem part_hn {ti : TI} {h : Hdr} (k : h.ok) (hd : ti.d.agg = false) : ti.part (hdrC h) 32 = some (uK h.number) := part_num hd (hd32 k 0)
theorem part_hnQ {ti : TI} {h : Hdr} (k : h.ok) (hd : ti.d.agg = false) : ti.part ((hdrC h).drop 32) 0 = some (uK h.number) := part_num hd (by rw [List.drop_zero]; exact hd32 k 0)
theorem part_hx {ti : TI} {h : Hdr} (k : h.ok) (hd : ti.d.agg = true) (hs : ti.size = 32) : ti.part (hdrC h) 172 = some (.a (h.next.map bK)) := by
  have hl := hdrC_len k
  rw [part_mk hd (by omega), hs, hd172 k, ← len_b _ k.next, List.take_length]
set_option maxHeartbeats 8000000 in
theorem Of (hs : List Hdr) (a : List (List Nat)) (n : Nat) (ks : ∀ x ∈ hs, Hdr.ok x) (hn : hs.length < 4611686018427387904) (ha : a.length < 4611686018427387904) (hN : n < 18446744073709551616) : LF Try.prog 40 [canV hs a, uK n] (fun _ => ofV (ofM hs a n)) none := by
  unfold ofM ofB
  by_cases h0 : hs = []
  · subst h0
    rw [if_pos (.inl rfl)]
    show LF _ _ _ (fun _ => V.nil) _
    refine LFx.mk' tt Try.func40 rfl rfl rfl (by kernel_rfl) rfl rfl fun F => ?_
    exact wk trueW trueW trueW
  · have hp : 0 < hs.length := List.length_pos_iff.2 h0
    have k0 := ks _ (getD_mem hp)
    have hl0 := hdrC_len k0
    have ld1 := @part_hnQ
    have b0 := k0.number
    by_cases h1 : n / 8 < (hs.getD 0 default).number / 8
    · rw [if_pos (.inr (.inl h1))]
      show LF _ _ _ (fun _ => V.nil) _
      refine LFx.mk' tt Try.func40 rfl rfl rfl (by kernel_rfl) rfl rfl fun F => ?_
      exact wk trueW trueW trueW
    · have hw : IntKind.u64.wrap (((n / 8 : Nat) : Int) - (((hs.getD 0 default).number / 8 : Nat) : Int)) = ((n / 8 - (hs.getD 0 default).number / 8 : Nat) : Int) := by rw [wrap_u64 (by omega)]; omega
      by_cases h2 : a.length ≤ n / 8 - (hs.getD 0 default).number / 8
      · rw [if_pos (.inr (.inr h2))]
        show LF _ _ _ (fun _ => V.nil) _
        refine LFx.mk' tt Try.func40 rfl rfl rfl (by kernel_rfl) rfl rfl fun F => ?_
        exact wk trueW trueW trueW
      · rw [if_neg (by rintro (h | h | h) <;> contradiction)]
        show LF _ _ _ (fun _ => sV (a.getD (n / 8 - (hs.getD 0 default).number / 8) default)) _
        refine LFx.mk' tt Try.func40 rfl rfl rfl (by kernel_rfl) rfl rfl fun F => ?_
        exact wk trueW trueW trueW
end Sr
end Lf
end Go.Proofs.Ytnmjpbcbldenmaa

/- Is what is so rightly told? -/
namespace Go.Proofs.Ytnmjpbcbldenmaa
open Go.RowKit Rg Wm Ar
set_option linter.unusedVariables false
set_option maxRecDepth 100000
namespace Lf
open Pk
structure RightC (hs : List Hdr) (a : List (List Nat)) : Prop where
  seats : ∀ l ∈ a, right l = true
  told : ∀ h ∈ hs, ∃ l, ofM hs a h.number = some l
  small : ∀ h ∈ hs, h.number ≤ 4611686018427387904
  names : ∀ h ∈ hs, ∀ l, ofM hs a (h.number + 8) = some l → sumB (enc (Sr.seatI l)) = h.next
  some_ : hs ≠ []
theorem ofM_mem {hs : List Hdr} {a : List (List Nat)} {n : Nat} {l : List Nat} (h : ofM hs a n = some l) : l ∈ a := by
  unfold ofM at h
  split at h
  · cases h
  · rename_i hn
    obtain rfl := Option.some.inj h
    exact Sr.getD_mem (by
      by_cases e : n / 8 - ofB hs < a.length
      · exact e
      · exact absurd (.inr (.inr (by omega))) hn)
theorem right_pos {l : List Nat} (h : right l = true) : 0 < l.length ∧ l.length ≤ 16 := (of_decide_eq_true h).2
def CanOk (hs : List Hdr) (a : List (List Nat)) : Prop := (∀ x ∈ hs, Hdr.ok x) ∧ (∀ l ∈ a, seats64 l ∧ l.length < 2000000) ∧ hs.length < 2000000 ∧ a.length < 2000000
namespace Sr
set_option maxHeartbeats 8000000 in
theorem Right (hs : List Hdr) (a : List (List Nat)) (k : CanOk hs a) (r : Bool) (hr : r = true ↔ RightC hs a) : LF Try.prog 31 [canV hs a] (fun _ => .k (.bool r)) none := by
  obtain ⟨ks, ka, kn, kan⟩ := k
  have hrf := hdrC_refs
  have hrg := canRefs
  refine LFx.mk' tt Try.func31 rfl rfl rfl (by kernel_rfl) rfl rfl fun F => ?_
  refine wk ?_ trueW trueW
  refine LC.loopN (fun i => [(1, .p 1 0), (9, asV a), (10, .k (.int .i64 ((a.length : Nat) : Int))), (11, .k (.int .i64 ((i : Nat) : Int)))]) (fun i => [(1, .b [hsV hs, asV a])]) (fun i => i ≤ a.length ∧ ∀ m, m < i → right (a.getD m default) = true) ((a.length - ·)) (0) ⟨by omega, fun m hm => absurd hm (by omega)⟩ ⟨rfl, rfl, rfl, rfl, trivial⟩ ⟨rfl, trivial⟩ rfl rfW rfW ?_
  rintro i ⟨hi, hA⟩
  by_cases hlt : i < a.length
  · obtain ⟨kl, kll⟩ := ka _ (getD_mem hlt)
    have c1 := VRight _ kl (by omega)
    by_cases h : right (a.getD i default) = true
    · rw [h] at c1
      have hok : i + 1 ≤ a.length ∧ ∀ m, m < i + 1 → right (a.getD m default) = true := ⟨hlt, fun m hm => by
        by_cases e : m = i
        · subst e; exact h
        · exact hA m (by omega)⟩
      clear hr hA ks ka h kl
      exact wk trueW trueW trueW
    · have hrf' : r = false := by
        cases r
        · rfl
        · exact absurd ((hr.1 rfl).seats _ (getD_mem hlt)) h
      subst hrf'
      rw [Bool.not_eq_true] at h
      rw [h] at c1
      clear hr hA ks ka h kl
      exact wk trueW trueW trueW
  · obtain rfl : i = a.length := by omega
    have hA' : ∀ l ∈ a, right l = true := fun l hl => by
      obtain ⟨m, hm, e⟩ := List.mem_iff_getElem.1 hl
      have := hA m hm
      rwa [List.getD_eq_getElem?_getD, List.getElem?_eq_getElem hm, Option.getD_some, e] at this
    clear hA
    refine wk ?_ trueW trueW
    refine LC.loopN (fun j => [(1, .p 1 0), (20, hsV hs), (21, .k (.int .i64 ((hs.length : Nat) : Int))), (22, .k (.int .i64 ((j : Nat) : Int)))]) (fun j => [(1, .b [hsV hs, asV a])]) (fun j => j ≤ hs.length ∧ ∀ m, m < j → (∃ l, ofM hs a (hs.getD m default).number = some l) ∧ (hs.getD m default).number ≤ 4611686018427387904 ∧ ∀ l, ofM hs a ((hs.getD m default).number + 8) = some l → sumB (enc (seatI l)) = (hs.getD m default).next) ((hs.length - ·)) (0) ⟨by omega, fun m hm => absurd hm (by omega)⟩ ⟨rfl, rfl, rfl, rfl, trivial⟩ ⟨rfl, trivial⟩ rfl rfW rfW ?_
    rintro j ⟨hj, hB⟩
    by_cases hlt2 : j < hs.length
    · have hmem := getD_mem hlt2
      have kh := ks _ hmem
      have hn0 := kh.number
      have hl0 := hdrC_len kh
      have hnx := kh.next
      have ld1 := @part_hn
      have ld2 := @part_hx
      have c1 := Of hs a (hs.getD j default).number ks (by omega) (by omega) hn0
      rcases e1 : ofM hs a (hs.getD j default).number with _ | l
      · have hrf' : r = false := by
          cases r
          · rfl
          · obtain ⟨l, hl⟩ := (hr.1 rfl).told _ hmem
            rw [e1] at hl; cases hl
        subst hrf'
        rw [e1] at c1
        simp only [ofV] at c1
        clear hr hB ks ka hA' e1
        refine wk ?_ trueW trueW
        refine DR.pp rfl rfl (Does.eqNilN tt rfl rfl rfl rfl) rfl ?_
        exact wk trueW trueW trueW
      · have hlp := (right_pos (hA' _ (ofM_mem e1))).1
        have hlp' : 0 < (l.map uK).length := by rw [List.length_map]; exact hlp
        by_cases hsm : (hs.getD j default).number ≤ 4611686018427387904
        · have c2 := Of hs a ((hs.getD j default).number + 8) ks (by omega) (by omega) (by omega)
          rcases e2 : ofM hs a ((hs.getD j default).number + 8) with _ | m
          · have hok : j + 1 ≤ hs.length ∧ ∀ m, m < j + 1 → (∃ l, ofM hs a (hs.getD m default).number = some l) ∧ (hs.getD m default).number ≤ 4611686018427387904 ∧ ∀ l, ofM hs a ((hs.getD m default).number + 8) = some l → sumB (enc (seatI l)) = (hs.getD m default).next := ⟨hlt2, fun m hm => by
              by_cases e : m = j
              · subst e; exact ⟨⟨l, e1⟩, hsm, fun l hl => by rw [e2] at hl; cases hl⟩
              · exact hB m (by omega)⟩
            rw [e1] at c1
            rw [e2] at c2
            simp only [ofV] at c1 c2
            clear hr hB ks ka hA' e1 e2
            refine wk ?_ trueW trueW
            refine DR.pp rfl rfl (Does.eqNilS tt rfl rfl rfl rfl hlp') rfl ?_
            refine wk ?_ trueW trueW
            refine DR.pp rfl rfl (Does.neNilN tt rfl rfl rfl rfl) rfl ?_
            exact wk trueW trueW trueW
          · have hmp := (right_pos (hA' _ (ofM_mem e2))).1
            have hmp' : 0 < (m.map uK).length := by rw [List.length_map]; exact hmp
            obtain ⟨km, kmn⟩ := ka _ (ofM_mem e2)
            have c3 := VText m km kmn
            have hsl := seatI_len km kmn
            have c4 := SSum (enc (seatI m)) (by omega)
            have hs2 := sumB_len (enc (seatI m))
            by_cases hnm : sumB (enc (seatI m)) = (hs.getD j default).next
            · have hok : j + 1 ≤ hs.length ∧ ∀ m, m < j + 1 → (∃ l, ofM hs a (hs.getD m default).number = some l) ∧ (hs.getD m default).number ≤ 4611686018427387904 ∧ ∀ l, ofM hs a ((hs.getD m default).number + 8) = some l → sumB (enc (seatI l)) = (hs.getD m default).next := ⟨hlt2, fun m' hm => by
                by_cases e : m' = j
                · subst e; exact ⟨⟨l, e1⟩, hsm, fun l hl => by rw [e2] at hl; rw [← Option.some.inj hl]; exact hnm⟩
                · exact hB m' (by omega)⟩
              have hnn : ¬ ¬ sumB (enc (seatI m)) = (hs.getD j default).next := fun f => f hnm
              rw [e1] at c1
              rw [e2] at c2
              simp only [ofV] at c1 c2
              clear hr hB ks ka hA' e1 e2 hnm
              generalize sumB (enc (seatI m)) = sm at *
              generalize enc (seatI m) = tx at *
              refine wk ?_ trueW trueW
              refine DR.pp rfl rfl (Does.eqNilS tt rfl rfl rfl rfl hlp') rfl ?_
              refine wk ?_ trueW trueW
              refine DR.pp rfl rfl (Does.neNilS tt rfl rfl rfl rfl hmp') rfl ?_
              exact wk trueW trueW trueW
            · have hrf' : r = false := by
                cases r
                · rfl
                · exact absurd ((hr.1 rfl).names _ hmem _ e2) hnm
              subst hrf'
              rw [e1] at c1
              rw [e2] at c2
              simp only [ofV] at c1 c2
              clear hr hB ks ka hA' e1 e2
              generalize sumB (enc (seatI m)) = sm at *
              generalize enc (seatI m) = tx at *
              refine wk ?_ trueW trueW
              refine DR.pp rfl rfl (Does.eqNilS tt rfl rfl rfl rfl hlp') rfl ?_
              refine wk ?_ trueW trueW
              refine DR.pp rfl rfl (Does.neNilS tt rfl rfl rfl rfl hmp') rfl ?_
              exact wk trueW trueW trueW
        · have hrf' : r = false := by
            cases r
            · rfl
            · exact absurd ((hr.1 rfl).small _ hmem) hsm
          subst hrf'
          rw [e1] at c1
          simp only [ofV] at c1
          clear hr hB ks ka hA' e1
          refine wk ?_ trueW trueW
          refine DR.pp rfl rfl (Does.eqNilS tt rfl rfl rfl rfl hlp') rfl ?_
          exact wk trueW trueW trueW
    · obtain rfl : j = hs.length := by omega
      by_cases h0 : 0 < hs.length
      · have hrt : r = true := hr.2 ⟨hA', fun h hh => by
          obtain ⟨m, hm, e⟩ := List.mem_iff_getElem.1 hh
          have := (hB m hm).1
          rwa [List.getD_eq_getElem?_getD, List.getElem?_eq_getElem hm, Option.getD_some, e] at this, fun h hh => by
          obtain ⟨m, hm, e⟩ := List.mem_iff_getElem.1 hh
          have := (hB m hm).2.1
          rwa [List.getD_eq_getElem?_getD, List.getElem?_eq_getElem hm, Option.getD_some, e] at this, fun h hh => by
          obtain ⟨m, hm, e⟩ := List.mem_iff_getElem.1 hh
          have := (hB m hm).2.2
          rwa [List.getD_eq_getElem?_getD, List.getElem?_eq_getElem hm, Option.getD_some, e] at this, List.length_pos_iff.1 h0⟩
        subst hrt
        clear hr hB ks ka hA'
        exact wk trueW trueW trueW
      · have hrf' : r = false := by
          cases r
          · rfl
          · exact absurd (List.length_pos_iff.2 (hr.1 rfl).some_) h0
        subst hrf'
        clear hr hB ks ka hA'
        exact wk trueW trueW trueW
end Sr
end Lf
end Go.Proofs.Ytnmjpbcbldenmaa

/- All texts that it hangs on; does a store hold with what is so? -/
namespace Go.Proofs.Ytnmjpbcbldenmaa
open Go.RowKit Rg Wm Ar
set_option linter.unusedVariables false
set_option maxRecDepth 100000
namespace Lf
open Pk
abbrev tsV (ts : List (List UInt8)) : List V := ts.map fun l => .s none (l.map bK)
def seatB (l : List Nat) : List UInt8 := enc (Sr.seatI l)
def textsM (hs : List Hdr) (a : List (List Nat)) : List (List UInt8) := hs.map hdrB ++ a.map seatB
theorem refs_tsV (m : List (Nat × M)) : ∀ l : List (List UInt8), V.refs.go m (tsV l) = true
  | [] => rfl
  | x :: r => by
    have h : V.refs m (.s none (x.map bK)) = true := rfl
    show V.refs.go m (.s none (x.map bK) :: tsV r) = true
    rw [V.refs.go, h, refs_tsV m r]; rfl
namespace Sr
theorem tsV_one (ts : List (List UInt8)) : ∀ e ∈ tsV ts, e.cells.length = 1 := fun e he => by obtain ⟨x, _, rfl⟩ := List.mem_map.1 he; rfl
set_option maxHeartbeats 8000000 in
theorem HeaderTexts (hs : List Hdr) (ks : ∀ x ∈ hs, Hdr.ok x) (hn : hs.length < 2000000) (k : Nat) : LM Try.prog 73 [hsV hs] [] fun o m => o = .ret (.s (some k) (tsV (hs.map hdrB))) ∧ m = [(k, .r 39 1 (hs.map hdrB).length)] := by
  have hrf := hdrC_refs
  have hrg := canRefs
  refine LM.row1 (k0 := 60) (fun _ => rfl) ?_ k
  refine LFx.mk' tt Try.func73 rfl rfl rfl (by kernel_rfl) rfl rfl fun F => ?_
  refine wk ?_ trueW trueW
  refine LC.nilrow 3 60 39 1 rfl rfl rfl ?_
  refine LC.loop2 (fun i S => [(3, .s (some 60) (tsV S)), (6, hsV hs), (7, .k (.int .i64 ((hs.length : Nat) : Int))), (8, .k (.int .i64 ((i : Nat) : Int)))]) (fun i S => [(60, .r 39 1 S.length)]) (fun i S => i ≤ hs.length ∧ S = (hs.take i).map hdrB) ((hs.length - ·)) (0) ([]) ⟨by omega, rfl⟩ ⟨rfl, rfl, rfl, rfl, trivial⟩ ⟨rfl, trivial⟩ rfl rfW rfW ?_
  rintro i S ⟨hi, hS⟩
  have hSl : S.length = i := by rw [hS, List.length_map, List.length_take]; omega
  have hz := tsV_one S
  by_cases h : i < hs.length
  · have kh := ks _ (getD_mem h)
    have hl0 := hdrC_len kh
    have c1 := BWrite _ kh
    have hok : i + 1 ≤ hs.length ∧ S ++ [hdrB (hs.getD i default)] = (hs.take (i + 1)).map hdrB := ⟨h, by rw [hS, take_get h, List.map_append]; rfl⟩
    clear hS ks
    generalize hdrB (hs.getD i default) = t at *
    exact wk trueW trueW trueW
  · obtain rfl : i = hs.length := by omega
    rw [List.take_length] at hS
    rw [← hS]
    clear hS ks
    exact wk trueW trueW trueW
set_option maxHeartbeats 8000000 in
theorem Texts (hs : List Hdr) (a : List (List Nat)) (k : CanOk hs a) (n : Nat) : LM Try.prog 35 [canV hs a] [] fun o m => o = .ret (.s (some n) (tsV (textsM hs a))) ∧ m = [(n, .r 39 1 (textsM hs a).length)] := by
  obtain ⟨ks, ka, kn, kan⟩ := k
  have hrf := hdrC_refs
  have hrg := canRefs
  have c1 := HeaderTexts hs ks kn 8
  refine LM.row1 (k0 := 8) (fun _ => rfl) ?_ n
  refine LFx.mk' tt Try.func35 rfl rfl rfl (by kernel_rfl) rfl rfl fun F => ?_
  refine wk ?_ trueW trueW
  refine LC.loop2 (fun i S => [(1, .p 1 0), (3, .s (some 8) (tsV S)), (10, asV a), (11, .k (.int .i64 ((a.length : Nat) : Int))), (12, .k (.int .i64 ((i : Nat) : Int)))]) (fun i S => [(1, .b [hsV hs, asV a]), (8, .r 39 1 S.length)]) (fun i S => i ≤ a.length ∧ S = hs.map hdrB ++ (a.take i).map seatB) ((a.length - ·)) (0) ((hs.map hdrB)) ⟨by omega, by simp⟩ ⟨rfl, rfl, rfl, rfl, rfl, trivial⟩ ⟨rfl, rfl, trivial⟩ rfl rfW rfW ?_
  rintro i S ⟨hi, hS⟩
  have hSl : S.length = hs.length + i := by rw [hS, List.length_append, List.length_map, List.length_map, List.length_take]; omega
  have hz := tsV_one S
  by_cases h : i < a.length
  · obtain ⟨kl, kll⟩ := ka _ (getD_mem h)
    have c2 := VText _ kl kll
    have hok : i + 1 ≤ a.length ∧ S ++ [seatB (a.getD i default)] = hs.map hdrB ++ (a.take (i + 1)).map seatB := ⟨h, by rw [hS, take_get h, List.map_append, List.append_assoc]; rfl⟩
    unfold seatB at hok
    clear hS ks ka c1
    generalize enc (seatI (a.getD i default)) = t at *
    exact wk trueW trueW trueW
  · obtain rfl : i = a.length := by omega
    rw [List.take_length] at hS
    show LC _ _ _ _ _ _ _
    unfold textsM
    rw [← hS]
    clear hS ks ka c1
    exact wk trueW trueW trueW
end Sr
end Lf
end Go.Proofs.Ytnmjpbcbldenmaa

/- Does a store hold with what is so? -/
namespace Go.Proofs.Ytnmjpbcbldenmaa
open Go.RowKit Rg Wm Ar
set_option linter.unusedVariables false
set_option maxRecDepth 100000
namespace Lf
open Pk
def trustP (hs : List Hdr) (a : List (List Nat)) (s : StM) : Prop := s.hdr ∈ hs ∧ s.seats = (ofM hs a s.hdr.number).getD [] ∧ (s.next = [] ∨ s.next = (ofM hs a (s.hdr.number + 8)).getD [])
namespace Sr
theorem allRefs : (∀ (m : List (Nat × M)) (l : List Hdr), V.refs.go m (l.map hdrV) = true) ∧ (∀ (m : List (Nat × M)) (l : List (List Nat)), V.refs.go m (l.map sV) = true) ∧ (∀ (m : List (Nat × M)) (h : Hdr), V.refs.go m (hdrC h) = true) ∧ (∀ (m : List (Nat × M)) (h : Hdr) (a b : List Nat), V.refs.go m (hx h (sV a) (sV b)) = true) ∧ (∀ (m : List (Nat × M)) (h : Hdr) (n : Nat) (b : List Nat), V.refs.go m (hx h (uK n) (sV b)) = true) := ⟨refs_hdrV, refs_sV, hdrC_refs, hx_refsS, hx_refsU⟩
set_option maxHeartbeats 8000000 in
theorem Trusts (hs : List Hdr) (a : List (List Nat)) (k : CanOk hs a) (R : RightC hs a) (s : StM) (ks : s.ok) (r : Bool) (hr : r = true ↔ trustP hs a s) : LF Try.prog 33 [canV hs a, .a (storeC s)] (fun _ => .k (.bool r)) none := by
  obtain ⟨kh, ka, kn, kan⟩ := k
  have hrf := allRefs
  have kx := ks.hdr
  have hls := hx_len kx (sV s.seats) (sV s.next)
  have hl0 := hdrC_len kx
  have ld1 := @hx_a
  have ld2 := @hx_b
  have ld3 := @hx_n
  have ld4 := @hx_h
  have c1 := Has hs a s.hdr kx kh (by omega)
  have hn0 := kx.number
  have ksl := ks.sl
  have knl := ks.nl
  simp only [storeC] at *
  by_cases h1 : s.hdr ∈ hs
  · rw [decide_eq_true h1] at c1
    obtain ⟨l, e1⟩ := R.told _ h1
    have hsm := R.small _ h1
    have c2 := Of hs a s.hdr.number kh (by omega) (by omega) hn0
    have c4 := Of hs a (s.hdr.number + 8) kh (by omega) (by omega) (by omega)
    have hE := St.EqualU s.seats l (by omega) (by have := (ka _ (ofM_mem e1)).2; omega)
    rw [e1] at c2
    simp only [ofV] at c2
    by_cases h2 : s.seats = l
    · have c3 := hE.1 h2
      clear hE
      by_cases h3 : s.next = []
      · have hrt : r = true := hr.2 ⟨h1, by rw [e1]; exact h2, .inl h3⟩
        subst hrt
        have h30 : s.next.length = 0 := by rw [h3]; rfl
        clear hr R kh ka ks h1 h2 e1 h3 c4
        refine LFx.mk' tt Try.func33 rfl rfl rfl (by kernel_rfl) rfl rfl fun F => ?_
        exact wk trueW trueW trueW
      · have h30 : 0 < s.next.length := List.length_pos_iff.2 h3
        rcases e2 : ofM hs a (s.hdr.number + 8) with _ | l2
        · rw [e2] at c4
          simp only [ofV] at c4
          have c5 := (St.EqualU s.next [] (by omega) (by simp)).2 h3
          have hrt : r = false := by
            cases r
            · rfl
            · have := (hr.1 rfl).2.2
              rw [e2] at this
              rcases this with h | h <;> exact absurd h h3
          subst hrt
          clear hr R kh ka ks h1 h2 e1 e2 h3
          refine LFx.mk' tt Try.func33 rfl rfl rfl (by kernel_rfl) rfl rfl fun F => ?_
          exact wk trueW trueW trueW
        · rw [e2] at c4
          simp only [ofV] at c4
          have hE2 := St.EqualU s.next l2 (by omega) (by have := (ka _ (ofM_mem e2)).2; omega)
          by_cases h4 : s.next = l2
          · have c5 := hE2.1 h4
            have hrt : r = true := hr.2 ⟨h1, by rw [e1]; exact h2, .inr (by rw [e2]; exact h4)⟩
            subst hrt
            clear hE2 hr R kh ka ks h1 h2 e1 e2 h3 h4
            refine LFx.mk' tt Try.func33 rfl rfl rfl (by kernel_rfl) rfl rfl fun F => ?_
            exact wk trueW trueW trueW
          · have c5 := hE2.2 h4
            have hrt : r = false := by
              cases r
              · rfl
              · have := (hr.1 rfl).2.2
                rw [e2] at this
                rcases this with h | h
                · exact absurd h h3
                · exact absurd h h4
            subst hrt
            clear hE2 hr R kh ka ks h1 h2 e1 e2 h3 h4
            refine LFx.mk' tt Try.func33 rfl rfl rfl (by kernel_rfl) rfl rfl fun F => ?_
            exact wk trueW trueW trueW
    · have c3 := hE.2 h2
      have hrt : r = false := by
        cases r
        · rfl
        · have := (hr.1 rfl).2.1
          rw [e1] at this
          exact absurd this h2
      subst hrt
      clear hE hr R kh ka ks h1 h2 e1 c4
      refine LFx.mk' tt Try.func33 rfl rfl rfl (by kernel_rfl) rfl rfl fun F => ?_
      exact wk trueW trueW trueW
  · rw [decide_eq_false h1] at c1
    have hrt : r = false := by
      cases r
      · rfl
      · exact absurd (hr.1 rfl).1 h1
    subst hrt
    clear hr R kh ka ks h1
    refine LFx.mk' tt Try.func33 rfl rfl rfl (by kernel_rfl) rfl rfl fun F => ?_
    exact wk trueW trueW trueW
end Sr
end Lf
end Go.Proofs.Ytnmjpbcbldenmaa

/- How often a sum was met: a map over sums. -/
namespace Go.Proofs.Ytnmjpbcbldenmaa
open Go.RowKit Rg
set_option maxRecDepth 100000
namespace Lf
namespace Hb
/-- One vote more. -/
def bump : List ((List UInt8) × Nat) → (List UInt8) → List ((List UInt8) × Nat)
  | [], v => [(v, 1)]
  | (u, n) :: r, v => if u = v then (u, n + 1) :: r else (u, n) :: bump r v
theorem bump_new : ∀ {E : List ((List UInt8) × Nat)} {v : (List UInt8)}, (∀ p ∈ E, p.1 ≠ v) → bump E v = E ++ [(v, 1)]
  | [], _, _ => rfl
  | (u, n) :: r, v, h => by
    rw [bump, if_neg (h (u, n) (by simp)), bump_new fun p hp => h p (by simp [hp])]
    rfl
theorem bump_old : ∀ {E : List ((List UInt8) × Nat)} {v : (List UInt8)} {n s : Nat}, E[s]? = some (v, n) → (E.Pairwise fun p q => p.1 ≠ q.1) → bump E v = E.set s (v, n + 1)
  | [], _, _, _, h, _ => by simp at h
  | (u, m) :: r, v, n, s, h, hd => by
    cases s with
    | zero =>
      simp at h
      obtain ⟨rfl, rfl⟩ := h
      rw [bump, if_pos rfl]; rfl
    | succ s =>
      simp at h
      have h1 := List.pairwise_cons.1 hd
      have hne : u ≠ v := h1.1 (v, n) (List.mem_of_getElem? h)
      rw [bump, if_neg hne, bump_old h h1.2]
      rfl
/-- What a book of votes is like. -/
structure Book (votes : List (List UInt8)) (E : List ((List UInt8) × Nat)) : Prop where
  nd : E.Pairwise fun p q => p.1 ≠ q.1
  le : ∀ p ∈ E, 0 < p.2 ∧ p.2 ≤ votes.length
  mem : ∀ v, (∃ p ∈ E, p.1 = v) ↔ v ∈ votes
theorem Book.nil : Book [] [] := ⟨.nil, by simp, by simp⟩
theorem Book.bump {votes : List (List UInt8)} {E : List ((List UInt8) × Nat)} (h : Book votes E) (v : (List UInt8)) : Book (votes ++ [v]) (bump E v) := by
  by_cases hv : ∃ p ∈ E, p.1 = v
  · obtain ⟨⟨u, n⟩, hp, rfl⟩ := hv
    obtain ⟨s, hs⟩ := List.mem_iff_getElem?.1 hp
    rw [bump_old hs h.nd]
    have hlt := (List.getElem?_eq_some_iff.1 hs).1
    have hkeys : (E.set s (u, n + 1)).map (·.1) = E.map (·.1) := by
      rw [List.map_set]
      apply List.ext_getElem?
      intro j
      rw [List.getElem?_set]
      split
      · rename_i e
        subst e
        rw [List.getElem?_map, hs]
        simp [hlt]
      · rfl
    refine ⟨?_, fun p hp' => ?_, fun v => ?_⟩
    · have := h.nd
      have e : ∀ l : List ((List UInt8) × Nat), (l.Pairwise fun p q => p.1 ≠ q.1) ↔ (l.map (·.1)).Pairwise (· ≠ ·) := fun l => by rw [List.pairwise_map]
      rw [e, hkeys, ← e]
      exact this
    · rw [List.length_append]
      rcases List.mem_or_eq_of_mem_set hp' with h1 | h1
      · have := h.le p h1; simp; omega
      · have := h.le (u, n) hp
        subst h1
        simp at this ⊢
        omega
    · rw [List.mem_append, ← h.mem v]
      have e : ∀ l : List ((List UInt8) × Nat), (∃ p ∈ l, p.1 = v) ↔ v ∈ l.map (·.1) := fun l => by simp
      rw [e, hkeys, ← e]
      constructor
      · exact .inl
      · rintro (h1 | h1)
        · exact h1
        · rw [List.mem_singleton] at h1
          exact ⟨(u, n), hp, h1.symm⟩
  · have hno : ∀ p ∈ E, p.1 ≠ v := fun p hp e => hv ⟨p, hp, e⟩
    rw [bump_new hno]
    refine ⟨List.pairwise_append.2 ⟨h.nd, by simp, fun a ha b hb => ?_⟩, fun p hp => ?_, fun u => ?_⟩
    · rw [List.mem_singleton] at hb
      subst hb
      exact hno a ha
    · rw [List.length_append]
      rcases List.mem_append.1 hp with h1 | h1
      · have := h.le p h1; simp; omega
      · rw [List.mem_singleton] at h1
        subst h1
        simp
    · rw [List.mem_append, ← h.mem u]
      simp only [List.mem_append, List.mem_singleton]
      constructor
      · rintro ⟨p, h1 | h1, h2⟩
        · exact .inl ⟨p, h1, h2⟩
        · subst h1; exact .inr h2.symm
      · rintro (⟨p, h1, h2⟩ | h1)
        · exact ⟨p, .inl h1, h2⟩
        · exact ⟨(v, 1), .inr rfl, h1.symm⟩
def bookE (l : List (List UInt8)) : List (List UInt8 × Nat) := l.foldl bump []
theorem book_of : ∀ (l : List (List UInt8)) (E : List (List UInt8 × Nat)) (m : List (List UInt8)), Book m E → Book (m ++ l) (l.foldl bump E)
  | [], E, m, h => by rw [List.append_nil]; exact h
  | v :: l, E, m, h => by
    have := book_of l (bump E v) (m ++ [v]) (h.bump v)
    rw [List.append_assoc] at this
    exact this
theorem book_all (l : List (List UInt8)) : Book l (bookE l) := by
  have := book_of l [] [] Book.nil
  rwa [List.nil_append] at this
theorem book_snoc (l : List (List UInt8)) (v : List UInt8) : bookE (l ++ [v]) = bump (bookE l) v := by unfold bookE; rw [List.foldl_append]; rfl
/-- What the map tells, of any vote. -/
theorem get_no {E : List ((List UInt8) × Nat)} {v : (List UInt8)} {y0 : V} (h : ∀ p ∈ E, p.1 ≠ v) : MGet (hE E) (hashK v) y0 y0 := ⟨fun _ => rfl, fun p hp e => by
  obtain ⟨q, hq, rfl⟩ := List.mem_map.1 hp
  exact absurd (hashK_inj e) (h q hq)⟩
theorem get_yes {E : List ((List UInt8) × Nat)} (hn : E.Pairwise fun p q => p.1 ≠ q.1) {v : (List UInt8)} {n : Nat} {y0 : V} (h : (v, n) ∈ E) : MGet (hE E) (hashK v) y0 (.k (.int .i64 ((n : Nat) : Int))) := ⟨fun h1 => absurd rfl (h1 (hashK v, .k (.int .i64 ((n : Nat) : Int))) (List.mem_map.2 ⟨(v, n), h, rfl⟩)), fun p hp e => by
  obtain ⟨⟨u, m⟩, hq, rfl⟩ := List.mem_map.1 hp
  obtain rfl : u = v := hashK_inj e
  obtain ⟨i, hi⟩ := List.mem_iff_getElem?.1 h
  obtain ⟨j, hj⟩ := List.mem_iff_getElem?.1 hq
  by_cases hij : i = j
  · subst hij; rw [hi] at hj; cases hj; rfl
  · exfalso
    have h1 := (List.getElem?_eq_some_iff.1 hi)
    have h2 := (List.getElem?_eq_some_iff.1 hj)
    obtain ⟨l1, e1⟩ := h1
    obtain ⟨l2, e2⟩ := h2
    rcases Nat.lt_or_gt_of_ne hij with hlt | hlt
    · have := (List.pairwise_iff_getElem.1 hn) i j l1 l2 hlt
      rw [e1, e2] at this; exact this rfl
    · have := (List.pairwise_iff_getElem.1 hn) j i l2 l1 hlt
      rw [e1, e2] at this; exact this rfl⟩
theorem at_yes {E : List ((List UInt8) × Nat)} (hn : E.Pairwise fun p q => p.1 ≠ q.1) {v : (List UInt8)} {n s : Nat} (h : E[s]? = some (v, n)) : MAt (hE E) s (hashK v) (.k (.int .i64 ((n : Nat) : Int))) := ⟨by unfold hE; rw [List.getElem?_map, h]; rfl, fun j p hj e => by
  unfold hE at hj
  rw [List.getElem?_map] at hj
  obtain ⟨⟨u, m⟩, hq, rfl⟩ := Option.map_eq_some_iff.1 hj
  obtain rfl : u = v := hashK_inj e
  obtain ⟨l1, e1⟩ := List.getElem?_eq_some_iff.1 h
  obtain ⟨l2, e2⟩ := List.getElem?_eq_some_iff.1 hq
  apply Classical.byContradiction
  intro hne
  rcases Nat.lt_or_gt_of_ne hne with hlt | hlt
  · have := (List.pairwise_iff_getElem.1 hn) j s l2 l1 hlt
    rw [e1, e2] at this; exact this rfl
  · have := (List.pairwise_iff_getElem.1 hn) s j l1 l2 hlt
    rw [e1, e2] at this; exact this rfl⟩
theorem hE_set (E : List (List UInt8 × Nat)) (s : Nat) (v : List UInt8) (n : Nat) : (hE E).set s (hashK v, .k (.int .i64 ((n : Nat) : Int))) = hE (E.set s (v, n)) := by
  unfold hE; rw [List.map_set]
theorem hE_len (E : List (List UInt8 × Nat)) : (hE E).length = E.length := List.length_map _
end Hb
end Lf
end Go.Proofs.Ytnmjpbcbldenmaa

/- Fewer than a quorum are false. -/
namespace Go.Proofs.Ytnmjpbcbldenmaa
open Go.RowKit Rg Wm Ar
set_option linter.unusedVariables false
set_option maxRecDepth 100000
namespace Lf
open Pk
/-- How many of the first k are so. -/
def cntH (f : Nat → Bool) : Nat → Nat
  | 0 => 0
  | k + 1 => cntH f k + (if f k = true then 1 else 0)
theorem cntH_le (f : Nat → Bool) : ∀ k, cntH f k ≤ k
  | 0 => Nat.le_refl _
  | k + 1 => by have := cntH_le f k; rw [cntH]; split <;> omega
def sumsP (hs : List Hdr) (p : Nat) : List (List UInt8) := (hs.filter fun h => decide (h.number / 8 = p)).map fun h => sumB (hdrB h)
theorem sumsP_snoc (hs : List Hdr) (h : Hdr) (p : Nat) : sumsP (hs ++ [h]) p = if h.number / 8 = p then sumsP hs p ++ [sumB (hdrB h)] else sumsP hs p := by
  unfold sumsP
  rw [List.filter_append, List.map_append]
  by_cases e : h.number / 8 = p
  · rw [if_pos e]; simp [e]
  · rw [if_neg e]; simp [e]
theorem sumsP_mem {hs : List Hdr} {p : Nat} {x : List UInt8} : x ∈ sumsP hs p ↔ ∃ h ∈ hs, h.number / 8 = p ∧ sumB (hdrB h) = x := by
  unfold sumsP
  simp [List.mem_map, List.mem_filter, and_assoc]
theorem sumsP_len (hs : List Hdr) (p : Nat) : (sumsP hs p).length ≤ hs.length := by
  unfold sumsP
  rw [List.length_map]
  exact List.length_filter_le _ _
def badF (hs : List Hdr) (votes : List St.VoteT) (p s : Nat) : Bool := decide (∃ v ∈ votes, v.1 = s ∧ v.2 ∉ sumsP hs p)
def badN (hs : List Hdr) (votes : List St.VoteT) (p : Nat) (l : List Nat) (i : Nat) : Nat := cntH (fun i => badF hs votes p (l.getD i default)) i
def HonestP (hs : List Hdr) (a : List (List Nat)) (votes : List St.VoteT) : Prop := hs ≠ [] ∧ ∀ k, k < a.length → 3 * badN hs votes (ofB hs + k) (a.getD k default) (a.getD k default).length < 2 * (a.getD k default).length
namespace Sr
theorem part_vote {ti : TI} {v : St.VoteT} (k : St.VoteOk v) (hd : ti.d.agg = true) (hs : ti.size = 32) : ti.part (St.voteC v) 1 = some (.a (v.2.map bK)) := by
  have hl := St.voteC_len k
  rw [part_mk hd (by omega), hs]
  have e : (St.voteC v).drop 1 = v.2.map bK := rfl
  have h2 : (v.2.map bK).length = 32 := len_b _ k.h
  rw [e, ← h2, List.take_length]
set_option maxHeartbeats 16000000 in
theorem Honest (hs : List Hdr) (a : List (List Nat)) (k : CanOk hs a) (votes : List St.VoteT) (hv : ∀ v ∈ votes, St.VoteOk v) (hnv : votes.length < 4611686018427387904) (r : Bool) (hr : r = true ↔ HonestP hs a votes) : LF Try.prog 32 [canV hs a, .s none (votes.map St.voteV)] (fun _ => .k (.bool r)) none := by
  obtain ⟨ks, ka, kn, kan⟩ := k
  have hrf := allRefs
  have hM := mapTyH
  by_cases h0 : hs = []
  · have hrt : r = false := by
      cases r
      · rfl
      · exact absurd h0 (hr.1 rfl).1
    subst hrt
    subst h0
    clear hr ka ks
    refine LFx.mk' tt Try.func32 rfl rfl rfl (by kernel_rfl) rfl rfl fun F => ?_
    exact wk trueW trueW trueW
  · have hp : 0 < hs.length := List.length_pos_iff.2 h0
    have k0 := ks _ (getD_mem hp)
    have hl0 := hdrC_len k0
    have b0 := k0.number
    have ld1 := @part_hnQ
    have ld2 := @part_hn
    have ld3 := @part_vote
    have hd2 : TwoIn 11 [0, 1, 2] 3 5 [4, 5, 6, 7] [6, 3, 4, 7] := ⟨⟩
    refine LFx.mk' tt Try.func32 rfl rfl rfl (by kernel_rfl) rfl rfl fun F => ?_
    refine wk ?_ trueW trueW
    refine LC.loopN (fun q => [(1, .s none (votes.map St.voteV)), (2, .p 2 0), (20, asV a), (21, .k (.int .i64 ((a.length : Nat) : Int))), (22, .k (.int .i64 ((q : Nat) : Int)))]) (fun q => [(2, .b [hsV hs, asV a])]) (fun q => q ≤ a.length ∧ ∀ m, m < q → 3 * badN hs votes (ofB hs + m) (a.getD m default) (a.getD m default).length < 2 * (a.getD m default).length) ((a.length - ·)) (0) ⟨by omega, fun m hm => absurd hm (by omega)⟩ ⟨rfl, rfl, rfl, rfl, rfl, trivial⟩ ⟨rfl, trivial⟩ rfl rfW rfW ?_
    rintro q ⟨hq, hQ⟩
    by_cases hqa : q < a.length
    · obtain ⟨kl, kll⟩ := ka _ (getD_mem hqa)
      refine wk ?_ trueW trueW
      refine LC.loop2 (fun j E => [(1, .s none (votes.map St.voteV)), (2, .p 2 0), (5, .k (.int .i64 ((q : Nat) : Int))), (6, sV (a.getD q default)), (7, .mp 27), (20, asV a), (21, .k (.int .i64 ((a.length : Nat) : Int))), (22, .k (.int .i64 ((q : Nat) : Int))), (29, hsV hs), (30, .k (.int .i64 ((hs.length : Nat) : Int))), (31, .k (.int .i64 ((j : Nat) : Int)))]) (fun j E => [(2, .b [hsV hs, asV a]), (27, .m (hE E))]) (fun j E => j ≤ hs.length ∧ E = Hb.bookE (sumsP (hs.take j) (ofB hs + q))) ((hs.length - ·)) (0) ([]) ⟨by omega, rfl⟩ ⟨rfl, rfl, rfl, rfl, rfl, rfl, rfl, rfl, rfl, rfl, rfl, trivial⟩ ⟨rfl, rfl, trivial⟩ rfl rfW rfW ?_
      rintro j E ⟨hj, hE⟩
      by_cases hjl : j < hs.length
      · have hmem := getD_mem hjl
        have kh := ks _ hmem
        have hn0 := kh.number
        have hlh := hdrC_len kh
        have hsn := sumsP_snoc (hs.take j) (hs.getD j default) (ofB hs + q)
        rw [← take_get hjl] at hsn
        by_cases hper : (hs.getD j default).number / 8 = (hs.getD 0 default).number / 8 + q
        · have c1 := BSum _ kh
          have hsl := sumB_len (hdrB (hs.getD j default))
          rw [if_pos (show _ = ofB hs + q from hper)] at hsn
          have hok : j + 1 ≤ hs.length ∧ Hb.bump E (sumB (hdrB (hs.getD j default))) = Hb.bookE (sumsP (hs.take (j + 1)) (ofB hs + q)) := ⟨hjl, by rw [hsn, Hb.book_snoc, ← hE]⟩
          have hB := Hb.book_all (sumsP (hs.take j) (ofB hs + q))
          rw [← hE] at hB
          have hkey := keyH hsl
          have hEk : ∀ p ∈ E, p.1.length = 32 := fun p hp => by
            obtain ⟨h, _, _, e⟩ := sumsP_mem.1 ((hB.mem p.1).1 ⟨p, hp, rfl⟩)
            rw [← e]; exact sumB_len _
          have hks := hks hEk
          have hle := hB.le
          have hnd := hB.nd
          have hlen := sumsP_len (hs.take j) (ofB hs + q)
          rw [List.length_take] at hlen
          clear hE hB hr hQ ka ks hsn hmem
          generalize sumB (hdrB (hs.getD j default)) = sm at *
          by_cases hin : ∃ p ∈ E, p.1 = sm
          · obtain ⟨⟨u, n⟩, hp, hu⟩ := hin
            have hu' : u = sm := hu
            subst hu'
            have hnn : n < 4611686018427387904 := by have := hle _ hp; simp at this; omega
            obtain ⟨s, hs'⟩ := List.mem_iff_getElem?.1 hp
            have hget := Hb.get_yes (y0 := .k (.int .i64 0)) hnd hp
            have hat := Hb.at_yes hnd hs'
            have hset : MSet (hE E) s (.k (.int .i64 ((n + 1 : Nat) : Int))) (hE (Hb.bump E u)) := ⟨hashK u, _, hat.at_, by rw [Hb.bump_old hs' hnd, Hb.hE_set]⟩
            exact wk trueW trueW trueW
          · have hnk : ∀ p ∈ E, p.1 ≠ sm := fun p hp e => hin ⟨p, hp, e⟩
            have hget := Hb.get_no (y0 := .k (.int .i64 0)) hnk
            have hno' : MNo (hE E) (hashK sm) := hno hnk
            have hks' : KeysV Try.prog 51 (hE E ++ [(hashK sm, .k (.int .i64 0))]) := ⟨fun p hp => by
              rcases List.mem_append.1 hp with hp | hp
              · exact hks.all p hp
              · rw [List.mem_singleton] at hp
                subst hp
                exact hkey.k⟩
            have hget' : MGet (hE E ++ [(hashK sm, .k (.int .i64 0))]) (hashK sm) (.k (.int .i64 0)) (.k (.int .i64 0)) := ⟨fun _ => rfl, fun p hp e => by
              rcases List.mem_append.1 hp with hp | hp
              · exact absurd e (hno'.no p hp)
              · rw [List.mem_singleton] at hp
                subst hp
                rfl⟩
            have hset : MSet (hE E ++ [(hashK sm, .k (.int .i64 0))]) E.length (.k (.int .i64 1)) (hE (Hb.bump E sm)) := ⟨hashK sm, .k (.int .i64 0), by rw [List.getElem?_append_right (by rw [Hb.hE_len]; exact Nat.le_refl _), Hb.hE_len]; simp, by
              rw [Hb.bump_new hnk, ← hE_snoc, ← Hb.hE_len, List.set_append_right _ _ (Nat.le_refl _)]
              simp⟩
            exact wk trueW trueW trueW
        · rw [if_neg (show ¬ _ = ofB hs + q from hper)] at hsn
          have hok : j + 1 ≤ hs.length ∧ E = Hb.bookE (sumsP (hs.take (j + 1)) (ofB hs + q)) := ⟨hjl, by rw [hsn, ← hE]⟩
          clear hE hr hQ ka ks hsn hmem
          exact wk trueW trueW trueW
      · obtain rfl : j = hs.length := by omega
        rw [List.take_length] at hE
        have hB := Hb.book_all (sumsP hs (ofB hs + q))
        rw [← hE] at hB
        have hEk : ∀ p ∈ E, p.1.length = 32 := fun p hp => by
          obtain ⟨h, _, _, e⟩ := sumsP_mem.1 ((hB.mem p.1).1 ⟨p, hp, rfl⟩)
          rw [← e]; exact sumB_len _
        have hks := hks hEk
        have hle := hB.le
        have hlen := sumsP_len hs (ofB hs + q)
        clear hE
        refine wk ?_ trueW trueW
        refine LC.loop2 (fun i c => [(1, .s none (votes.map St.voteV)), (2, .p 2 0), (5, .k (.int .i64 ((q : Nat) : Int))), (6, sV (a.getD q default)), (7, .mp 27), (10, .k (.int .i64 ((c : Nat) : Int))), (20, asV a), (21, .k (.int .i64 ((a.length : Nat) : Int))), (22, .k (.int .i64 ((q : Nat) : Int))), (56, sV (a.getD q default)), (57, .k (.int .i64 (((a.getD q default).length : Nat) : Int))), (58, .k (.int .i64 ((i : Nat) : Int)))]) (fun i c => [(2, .b [hsV hs, asV a]), (27, .m (hE E))]) (fun i c => i ≤ (a.getD q default).length ∧ c = badN hs votes (ofB hs + q) (a.getD q default) i) (((a.getD q default).length - ·)) (0) (0) ⟨by omega, rfl⟩ ⟨rfl, rfl, rfl, rfl, rfl, rfl, rfl, rfl, rfl, rfl, rfl, rfl, trivial⟩ ⟨rfl, rfl, trivial⟩ rfl rfW rfW ?_
        rintro i c ⟨hi, hc⟩
        have hcl : c ≤ i := by rw [hc]; exact cntH_le _ _
        by_cases hil : i < (a.getD q default).length
        · have hs64 := getD64 kl hil
          have hcn : badN hs votes (ofB hs + q) (a.getD q default) (i + 1) = c + (if badF hs votes (ofB hs + q) ((a.getD q default).getD i default) = true then 1 else 0) := by rw [hc]; rfl
          refine wk ?_ trueW trueW
          refine LC.loopN (fun m => [(1, .s none (votes.map St.voteV)), (2, .p 2 0), (5, .k (.int .i64 ((q : Nat) : Int))), (6, sV (a.getD q default)), (7, .mp 27), (10, .k (.int .i64 ((c : Nat) : Int))), (20, asV a), (21, .k (.int .i64 ((a.length : Nat) : Int))), (22, .k (.int .i64 ((q : Nat) : Int))), (56, sV (a.getD q default)), (57, .k (.int .i64 (((a.getD q default).length : Nat) : Int))), (58, .k (.int .i64 ((i : Nat) : Int))), (12, uK ((a.getD q default).getD i default)), (62, .s none (votes.map St.voteV)), (63, .k (.int .i64 ((votes.length : Nat) : Int))), (64, .k (.int .i64 ((m : Nat) : Int)))]) (fun m => [(2, .b [hsV hs, asV a]), (27, .m (hE E))]) (fun m => m ≤ votes.length ∧ ∀ t, t < m → ¬ ((votes.getD t default).1 = (a.getD q default).getD i default ∧ (votes.getD t default).2 ∉ sumsP hs (ofB hs + q))) ((votes.length - ·)) (0) ⟨by omega, fun t ht => absurd ht (by omega)⟩ ⟨rfl, rfl, rfl, rfl, rfl, rfl, rfl, rfl, rfl, rfl, rfl, rfl, rfl, rfl, rfl, rfl, trivial⟩ ⟨rfl, rfl, trivial⟩ rfl rfW rfW ?_
          rintro m ⟨hm, hV⟩
          by_cases hmv : m < votes.length
          · have hvm := getD_mem hmv
            have hvok := hv _ hvm
            have hgl := St.voteC_len hvok
            have hgle : 0 + (St.voteC (votes.getD m default)).length ≤ 33 := by omega
            have hkey := keyH hvok.h
            have hnd := hB.nd
            have hmm := hB.mem (votes.getD m default).2
            by_cases hst : (votes.getD m default).1 = (a.getD q default).getD i default
            · by_cases hin : (votes.getD m default).2 ∈ sumsP hs (ofB hs + q)
              · obtain ⟨⟨u, n⟩, hp, hu⟩ := hmm.2 hin
                have hu' : u = (votes.getD m default).2 := hu
                subst hu'
                obtain ⟨hn1, hn2⟩ := hle _ hp
                have hn1' : 0 < n := hn1
                have hn2' : n ≤ hs.length := Nat.le_trans hn2 hlen
                have hne : ¬ n = 0 := by omega
                have hget := Hb.get_yes (y0 := .k (.int .i64 0)) hnd hp
                have hok : m + 1 ≤ votes.length ∧ ∀ t, t < m + 1 → ¬ ((votes.getD t default).1 = (a.getD q default).getD i default ∧ (votes.getD t default).2 ∉ sumsP hs (ofB hs + q)) := ⟨hmv, fun t ht => by
                  by_cases e : t = m
                  · subst e; exact fun f => f.2 hin
                  · exact hV t (by omega)⟩
                clear hr hQ ka ks hV hc hcn hB hmm hle hEk hin
                exact wk trueW trueW trueW
              · have hnk : ∀ p ∈ E, p.1 ≠ (votes.getD m default).2 := fun p hp e => hin (hmm.1 ⟨p, hp, e⟩)
                have hget := Hb.get_no (y0 := .k (.int .i64 0)) hnk
                have hbf : badF hs votes (ofB hs + q) ((a.getD q default).getD i default) = true := decide_eq_true ⟨_, hvm, hst, hin⟩
                rw [if_pos hbf] at hcn
                have hok : i + 1 ≤ (a.getD q default).length ∧ c + 1 = badN hs votes (ofB hs + q) (a.getD q default) (i + 1) := ⟨hil, hcn.symm⟩
                clear hr hQ ka ks hV hc hcn hB hmm hle hEk hin hbf hnk
                exact wk trueW trueW trueW
            · have hok : m + 1 ≤ votes.length ∧ ∀ t, t < m + 1 → ¬ ((votes.getD t default).1 = (a.getD q default).getD i default ∧ (votes.getD t default).2 ∉ sumsP hs (ofB hs + q)) := ⟨hmv, fun t ht => by
                by_cases e : t = m
                · subst e; exact fun f => hst f.1
                · exact hV t (by omega)⟩
              clear hr hQ ka ks hV hc hcn hB hmm hle hEk
              exact wk trueW trueW trueW
          · obtain rfl : m = votes.length := by omega
            have hbf : ¬ badF hs votes (ofB hs + q) ((a.getD q default).getD i default) = true := fun f => by
              obtain ⟨v, hv1, hv2, hv3⟩ := of_decide_eq_true f
              obtain ⟨t, ht, e⟩ := List.mem_iff_getElem.1 hv1
              have e2 : votes.getD t default = v := by rw [List.getD_eq_getElem?_getD, List.getElem?_eq_getElem ht]; exact e
              exact hV t ht (by rw [e2]; exact ⟨hv2, hv3⟩)
            rw [if_neg hbf] at hcn
            have hok : i + 1 ≤ (a.getD q default).length ∧ c = badN hs votes (ofB hs + q) (a.getD q default) (i + 1) := ⟨hil, hcn.symm⟩
            clear hr hQ ka ks hV hc hcn hB hle hEk hbf
            exact wk trueW trueW trueW
        · obtain rfl : i = (a.getD q default).length := by omega
          by_cases hbad : 3 * c < 2 * (a.getD q default).length
          · have hok : q + 1 ≤ a.length ∧ ∀ m, m < q + 1 → 3 * badN hs votes (ofB hs + m) (a.getD m default) (a.getD m default).length < 2 * (a.getD m default).length := ⟨hqa, fun m hm => by
              by_cases e : m = q
              · subst e; rw [← hc]; exact hbad
              · exact hQ m (by omega)⟩
            clear hr hQ ka ks hc hB hle hEk
            exact wk trueW trueW trueW
          · have hrt : r = false := by
              cases r
              · rfl
              · exact absurd ((hr.1 rfl).2 q hqa) (by rw [← hc]; exact hbad)
            subst hrt
            clear hr hQ ka ks hc hB hle hEk
            exact wk trueW trueW trueW
    · obtain rfl : q = a.length := by omega
      have hrt : r = true := hr.2 ⟨h0, hQ⟩
      subst hrt
      clear hr hQ ka ks
      exact wk trueW trueW trueW
end Sr
end Lf
end Go.Proofs.Ytnmjpbcbldenmaa

/- Unlike seats come to unlike sums, or their texts clash. -/
namespace Go.Proofs.Ytnmjpbcbldenmaa
open Go.RowKit Rg Wm Ar
set_option linter.unusedVariables false
set_option maxRecDepth 100000
namespace Lf
open Pk
namespace Sr
theorem seatK_inj {s t : Nat} (h : seatK s = seatK t) : s = t := by
  unfold seatK at h
  have h1 : numL s = numL t := by injection h
  rw [← beN_numL s, ← beN_numL t, h1]
theorem map_seatK_inj : ∀ {a b : List Nat}, a.map seatK = b.map seatK → a = b
  | [], [], _ => rfl
  | [], _ :: _, h => by simp at h
  | _ :: _, [], h => by simp at h
  | x :: r, y :: s, h => by
    simp only [List.map_cons, List.cons.injEq] at h
    rw [seatK_inj h.1, map_seatK_inj h.2]
theorem nrm_seats : ∀ l : List Nat, nrmL (l.map seatK) = l.map seatK
  | [] => by simp [nrmL]
  | s :: r => by
    rw [List.map_cons, nrmL, nrm_seats r]
    rfl
theorem nrm_seatI (l : List Nat) : nrm (seatI l) = seatI l := by rw [seatI_eq, nrm, nrm_seats]
theorem seatI_inj {a b : List Nat} (ha : (enc (seatI a)).length < 2 ^ 64) (h : enc (seatI a) = enc (seatI b)) : a = b := by
  have h1 := dec_enc ha
  have h2 := dec_enc (a := seatI b) (by rw [← h]; exact ha)
  rw [h, h2, nrm_seatI, nrm_seatI] at h1
  have h3 := Option.some.inj h1
  rw [seatI_eq, seatI_eq] at h3
  injection h3 with _ _ h4
  exact (map_seatK_inj h4).symm
end Sr
end Lf
end Go.Proofs.Ytnmjpbcbldenmaa

/- What is followed is so: the law, without the program. -/
namespace Go.Proofs.Ytnmjpbcbldenmaa
open Go.RowKit Rg Wm Ar
set_option maxRecDepth 100000
namespace Lf
open Pk
theorem nrm_byt : ∀ l : List (List UInt8), nrmL (l.map bytI) = l.map bytI
  | [] => by simp [nrmL]
  | s :: r => by
    rw [List.map_cons, nrmL, nrm_byt r]
    rfl
theorem map_byt_inj : ∀ {a b : List (List UInt8)}, a.map bytI = b.map bytI → a = b
  | [], [], _ => rfl
  | [], _ :: _, h => by simp at h
  | _ :: _, [], h => by simp at h
  | x :: r, y :: s, h => by
    simp only [List.map_cons, List.cons.injEq] at h
    rw [map_byt_inj h.2]
    have : x = y := by have := h.1; unfold bytI at this; injection this
    rw [this]
theorem hdrB_inj {a b : Hdr} (ka : a.ok) (h : hdrB a = hdrB b) : a = b := by
  have h0 := hdrB_len ka
  unfold hdrB at *
  have h1 := dec_enc (a := hdrI a) (by omega)
  have h2 := dec_enc (a := hdrI b) (by rw [← h]; omega)
  rw [h, h2] at h1
  have h3 := Option.some.inj h1
  unfold hdrI at h3
  rw [nrm, nrm, nrm_byt, nrm_byt] at h3
  injection h3 with _ _ h4
  have h5 := map_byt_inj h4
  unfold hdrKs at h5
  simp only [List.cons.injEq, and_true] at h5
  obtain ⟨p1, p2, p3, p4, p5, p6, p7, p8, p9, p10, p11⟩ := h5
  have ni : ∀ {m n : Nat}, numL m = numL n → m = n := fun {m n} e => by rw [← beN_numL m, ← beN_numL n, e]
  cases a; cases b
  simp only [Hdr.mk.injEq]
  exact ⟨p1.symm, (ni p2).symm, (ni p3).symm, p6.symm, (ni p4).symm, (ni p5).symm, p7.symm, p8.symm, p9.symm, p10.symm, p11.symm⟩
theorem pc_cntH {m : Nat} {f : Nat → Bool} : ∀ k, (∀ i, i < k → m.testBit i = true → f i = true) → St.pc m k ≤ cntH f k
  | 0, _ => Nat.le_refl _
  | k + 1, h => by
    have h1 := pc_cntH k fun i hi => h i (by omega)
    have h2 := h k (by omega)
    simp only [St.pc, cntH]
    cases hb : m.testBit k
    · simp; omega
    · rw [if_pos (h2 hb)]; simp; omega
theorem ofM_some {hs : List Hdr} {a : List (List Nat)} {n : Nat} {l : List Nat} (h : ofM hs a n = some l) : ∃ k, k < a.length ∧ n / 8 = ofB hs + k ∧ a.getD k default = l := by
  unfold ofM at h
  split at h
  · cases h
  · rename_i hn
    have h1 : ¬ n / 8 < ofB hs := fun f => hn (.inr (.inl f))
    have h2 : ¬ a.length ≤ n / 8 - ofB hs := fun f => hn (.inr (.inr f))
    exact ⟨n / 8 - ofB hs, by omega, by omega, Option.some.inj h⟩
theorem ofM_per {hs : List Hdr} {a : List (List Nat)} {m n : Nat} (h : m / 8 = n / 8) : ofM hs a m = ofM hs a n := by
  unfold ofM; rw [h]
theorem getD_ne {o : Option (List Nat)} {l : List Nat} (h : l = o.getD []) (hl : l ≠ []) : o = some l := by
  cases o with
  | none => exact absurd h hl
  | some x => rw [h]; rfl
def beyond (hs : List Hdr) (a : List (List Nat)) (u : UpM) : Prop := ofB hs + a.length - 1 ≤ u.hdr.number / 8
def upT (u : UpM) : List (List UInt8) := [hdrB u.hdr, seatB u.next]
theorem Clashes.mono {a b : List (List UInt8)} (h : Clashes a) (hs : ∀ x ∈ a, x ∈ b) : Clashes b := by
  obtain ⟨x, hx, y, hy, h1, h2⟩ := h
  exact ⟨x, hs x hx, y, hs y hy, h1, h2⟩
theorem true_step {hs : List Hdr} {a : List (List Nat)} (k : CanOk hs a) (R : RightC hs a) {votes : List St.VoteT} (H : HonestP hs a votes) {s : StM} (T0 : trustP hs a s) {u : UpM} (ku : u.ok) {x : StM} (T : Taken s u votes x) :
    trustP hs a x ∨ Clashes (textsM hs a ++ upT u) ∨ beyond hs a u := by
  obtain ⟨j1, j2, j3⟩ := taken_judge T
  obtain ⟨t1, t2, t3⟩ := T0
  obtain ⟨l, hl⟩ := R.told _ t1
  have hsm := R.small _ t1
  rw [hl] at t2
  have t2' : s.seats = l := t2
  have hA : ofM hs a u.hdr.number = some x.seats := by
    rcases j3 with ⟨e1, e2⟩ | ⟨e0, e1, e2⟩
    · rw [e2, t2', ← hl]; exact ofM_per e1.symm
    · have hne : s.next ≠ [] := fun f => by
        rw [f] at e2
        have := (right_pos j2).1
        rw [e2] at this
        exact absurd this (by simp)
      rcases t3 with t3 | t3
      · exact absurd t3 hne
      · rw [e2, ← getD_ne t3 hne]; exact ofM_per (by omega)
  obtain ⟨q, hq, hp, hx⟩ := ofM_some hA
  have hh := H.2 q hq
  rw [hx, ← hp] at hh
  obtain ⟨_, _, q3⟩ := St.quo_spec ku.mask T.quo
  have h1 := (St.andn_zero ku.mask (St.tally_lt x.seats (sumB (hdrB u.hdr)) votes)).1 T.voted
  by_cases hin : sumB (hdrB u.hdr) ∈ sumsP hs (u.hdr.number / 8)
  · obtain ⟨g, hg, hgp, hgs⟩ := sumsP_mem.1 hin
    by_cases hbb : hdrB g = hdrB u.hdr
    · have hgu : g = u.hdr := hdrB_inj (k.1 _ hg) hbb
      subst hgu
      have hgsm := R.small _ hg
      have B : trustP hs a x ↔ (x.next = [] ∨ x.next = (ofM hs a (u.hdr.number + 8)).getD []) := by
        unfold trustP
        rw [T.hdr, hA]
        exact ⟨fun h => h.2.2, fun h => ⟨hg, rfl, h⟩⟩
      rw [B]
      have hn := T.next
      by_cases hu : u.next = []
      · by_cases hper : s.hdr.number / 8 = u.hdr.number / 8
        · rw [if_pos ⟨hu, hper⟩] at hn
          left
          rw [hn]
          rcases t3 with t3 | t3
          · exact .inl t3
          · right
            rw [t3, ofM_per (show (s.hdr.number + 8) / 8 = (u.hdr.number + 8) / 8 by omega)]
        · rw [if_neg (fun f => hper f.2), hu] at hn
          exact .inl (.inl hn)
      · rw [if_neg (fun f => hu f.1)] at hn
        have hsum := T.sum hu
        cases e2 : ofM hs a (u.hdr.number + 8) with
        | none =>
          right; right
          unfold ofM at e2
          split at e2
          · rename_i h
            unfold beyond
            rcases h with h | h | h
            · exact absurd h H.1
            · omega
            · omega
          · cases e2
        | some l2 =>
          have hnm := R.names _ hg _ e2
          by_cases hss : seatB l2 = seatB u.next
          · left; right
            rw [hn]
            obtain ⟨k1, k2⟩ := k.2.1 _ (ofM_mem e2)
            have := Sr.seatI_len k1 k2
            exact (Sr.seatI_inj (by omega) hss).symm
          · right; left
            exact ⟨seatB l2, List.mem_append_left _ (List.mem_append_right _ (List.mem_map.2 ⟨l2, ofM_mem e2, rfl⟩)), seatB u.next, List.mem_append_right _ (by simp [upT]), hnm.trans hsum.symm, hss⟩
    · right; left
      exact ⟨hdrB g, List.mem_append_left _ (List.mem_append_left _ (List.mem_map.2 ⟨g, hg, rfl⟩)), hdrB u.hdr, List.mem_append_right _ (by simp [upT]), hgs, hbb⟩
  · have h2 := pc_cntH (m := u.mask) (f := fun i => badF hs votes (u.hdr.number / 8) (x.seats.getD i default)) x.seats.length fun i _ hb => decide_eq_true ⟨_, St.tally_voted (h1 i hb), rfl, hin⟩
    have h3 : badN hs votes (u.hdr.number / 8) x.seats x.seats.length = cntH (fun i => badF hs votes (u.hdr.number / 8) (x.seats.getD i default)) x.seats.length := rfl
    rw [h3] at hh
    omega
theorem true_all {hs : List Hdr} {a : List (List Nat)} (k : CanOk hs a) (R : RightC hs a) {votes : List St.VoteT} (H : HonestP hs a votes) : ∀ (us : List UpM) (s : StM) (o : List Nat), s.ok → trustP hs a s → (∀ u ∈ us, UpM.ok u) →
    trustP hs a (us.foldl (stepM votes) (s, o)).1 ∨ Clashes (textsM hs a ++ us.flatMap upT) ∨ ∃ u ∈ us, beyond hs a u
  | [], s, o, _, T, _ => .inl T
  | u :: us, s, o, ks, T, ku => by
    rw [List.foldl_cons]
    have hu := ku u (by simp)
    have go : ∀ (s' : StM) (o' : List Nat), s'.ok → trustP hs a s' → trustP hs a (us.foldl (stepM votes) (s', o')).1 ∨ Clashes (textsM hs a ++ (u :: us).flatMap upT) ∨ ∃ v ∈ u :: us, beyond hs a v := fun s' o' k' T' => by
      rcases true_all k R H us s' o' k' T' (fun v hv => ku v (List.mem_cons_of_mem _ hv)) with h | h | ⟨v, hv, h⟩
      · exact .inl h
      · right; left
        refine h.mono fun x hx => ?_
        rw [List.flatMap_cons]
        rcases List.mem_append.1 hx with hx | hx
        · exact List.mem_append_left _ hx
        · exact List.mem_append_right _ (List.mem_append_right _ hx)
      · exact .inr (.inr ⟨v, List.mem_cons_of_mem _ hv, h⟩)
    have e : stepM votes (s, o) u = (if (applyM s u votes).2 = 0 then (applyM s u votes).1 else s, o ++ [(applyM s u votes).2]) := rfl
    rw [e]
    by_cases h0 : (applyM s u votes).2 = 0
    · rw [if_pos h0]
      rcases true_step k R H T hu (taken h0) with h | h | h
      · exact go _ _ (apply_ok ks hu votes) h
      · right; left
        refine h.mono fun x hx => ?_
        rw [List.flatMap_cons]
        rcases List.mem_append.1 hx with hx | hx
        · exact List.mem_append_left _ hx
        · exact List.mem_append_right _ (List.mem_append_left _ hx)
      · exact .inr (.inr ⟨u, by simp, h⟩)
    · rw [if_neg h0]
      exact go _ _ ks T
end Lf
end Go.Proofs.Ytnmjpbcbldenmaa

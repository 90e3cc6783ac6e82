/- A part of the proof: texts joined. -/
import Derived.Test.YtpaafpmofhajfaaGreatDoorQ8dda94c
import Derived.Test.YtpaafpmofhajfaaGreatDoorQ94d43ed
import Derived.Test.YtpaafpmofhajfaaGreatDoorQ10c644c3
set_option linter.unusedVariables false
set_option linter.unusedSimpArgs false
namespace Go.Proofs.YtpaafpmofhajfaaGreatDoor
open Go.RowKit Rg Wm Ar
set_option linter.unusedVariables false
set_option maxRecDepth 100000
namespace Lf
open Pk
theorem strip_cons (a : UInt8) (r : List UInt8) (h : a = 0) : Ps.strip (a :: r) = Ps.strip r := by subst h; rfl
theorem drop_get {l : List UInt8} {i : Nat} (h : i < l.length) : l.drop i = l.getD i default :: l.drop (i + 1) := by
 rw [List.drop_eq_getElem_cons h, List.getD_eq_getElem?_getD, List.getElem?_eq_getElem h]; rfl
theorem u8_zero {a : UInt8} (h : a.toNat = 0) : a = 0 := UInt8.toNat_inj.1 (by rw [h]; rfl)
namespace Pw
set_option maxHeartbeats 1000000 in
theorem Num (x : Nat) : LF Tryz.prog 27 [wV x] (fun _ => .s none ((numL (x % M256)).map bK)) none := by
  have c1 := Wo.Bytes x
  have hl := limbs_len x
  have hs := Pk.strip_num (wordB_num x)
  have hb := wordB_len x
  rw [← hs]
  generalize wordB x = B at *
  clear hs
  refine LFx.mk' tt Tryz.func27 rfl rfl rfl (by kernel_rfl) rfl rfl fun F => ?_
  refine wk ?_ trueW trueW
  refine LC.loop2 (fun i S => [(3, .p 3 0), (4, S)]) (fun i S => [(3, .b (B.map bK))]) (fun i S => Ps.strip (B.drop i) = Ps.strip B ∧ ((i < 32 ∧ S = .sb 3 i (32 - i) (32 - i)) ∨ (i = 32 ∧ S = .s none []))) ((32 - ·)) (0) ((.sb 3 0 (32 - 0) (32 - 0))) ⟨rfl, .inl ⟨by omega, rfl⟩⟩ ⟨rfl, rfl, trivial⟩ ⟨rfl, trivial⟩ rfl rfW rfW ?_
  rintro i S ⟨hstr, ⟨h, rfl⟩ | ⟨rfl, rfl⟩⟩
  · have hd := drop_get (l := B) (i := i) (by omega)
    by_cases hz : (B.getD i default).toNat = 0
    · have hz2 : ((B.getD (i + 0) default).toNat : Int) = 0 := by rw [Nat.add_zero, hz]; rfl
      have hs2 : Ps.strip (B.drop (i + 1)) = Ps.strip B := by rw [← hstr, hd, strip_cons _ _ (u8_zero hz)]
      clear hd
      rcases Nat.lt_or_ge i 31 with h31 | h31
      · have hok : Ps.strip (B.drop (i + 1)) = Ps.strip B ∧ ((i + 1 < 32 ∧ V.sb 3 (i + 1) (32 - (i + 1)) (32 - (i + 1)) = .sb 3 (i + 1) (32 - (i + 1)) (32 - (i + 1))) ∨ (i + 1 = 32 ∧ V.sb 3 (i + 1) (32 - (i + 1)) (32 - (i + 1)) = .s none [])) := ⟨hs2, .inl ⟨by omega, rfl⟩⟩
        exact wk trueW trueW trueW
      · obtain rfl : i = 31 := by omega
        have hok : Ps.strip (B.drop 32) = Ps.strip B ∧ ((32 < 32 ∧ V.s none [] = .sb 3 32 (32 - 32) (32 - 32)) ∨ (32 = 32 ∧ V.s none [] = .s none [])) := ⟨hs2, .inr ⟨rfl, rfl⟩⟩
        exact wk trueW trueW trueW
    · have hz2 : ¬ ((B.getD (i + 0) default).toNat : Int) = 0 := by rw [Nat.add_zero]; omega
      have hv1 : V.s none (((B.drop i).take (32 - i)).map bK) = V.s none ((Ps.strip B).map bK) := by
        rw [← hstr, Ps.strip_id (l := B.drop i) (by rw [hd]; intro e; simp only [List.head?_cons, Option.some.injEq] at e; rw [e] at hz; exact hz rfl), List.take_of_length_le (by rw [List.length_drop]; omega)]
      clear hd hstr
      have hn : ((B.drop i).take (32 - i)).length = 32 - i := by rw [List.length_take, List.length_drop]; omega
      exact wk trueW trueW trueW
  · have hv1 : V.s none [] = V.s none ((Ps.strip B).map bK) := by
      rw [← hstr, List.drop_of_length_le (by omega)]; rfl
    clear hstr
    exact wk trueW trueW trueW
end Pw
end Lf
open Go.RowKit Rg Wm Ar
set_option linter.unusedVariables false
set_option maxRecDepth 100000
namespace Lf
open Pk
mutual
def itC : Itm → List V
 | .mk l t ks => [.k (.bool l), bV t, .s none (itL ks)]
def itL : List Itm → List V
 | [] => []
 | k :: r => .a (itC k) :: itL r
end
abbrev itV (x : Itm) : V := .a (itC x)
theorem itL_map : ∀ ks : List Itm, itL ks = ks.map itV
 | [] => rfl
 | k :: r => by rw [itL, itL_map r]; rfl
theorem itC_eq (l : Bool) (t : List UInt8) (ks : List Itm) : itC (.mk l t ks) = [.k (.bool l), bV t, .s none (ks.map itV)] := by rw [itC, itL_map]
theorem itC_len (x : Itm) : (itC x).length = 3 := by obtain ⟨l, t, ks⟩ := x; rw [itC_eq]; rfl
theorem itC_refs (m : Mem) (x : Itm) : V.refs.go m (itC x) = true := by obtain ⟨l, t, ks⟩ := x; rw [itC_eq]; rfl
theorem itC_bare (x : Itm) : (itV x).bare = some (itV x) := by obtain ⟨l, t, ks⟩ := x; simp only [itV, itC_eq]; rfl
theorem itC_cv (x : Itm) (keep : Nat → Bool) (nn : Bool) : V.cv.go keep nn (itC x) = itC x := by obtain ⟨l, t, ks⟩ := x; rw [itC_eq]; simp [V.cv.go, V.cv]
theorem sizeL_mem {ks : List Itm} {k : Itm} (h : k ∈ ks) : k.size < Itm.sizeL ks := by
 induction ks with
 | nil => cases h
 | cons a r ih =>
  simp only [Itm.sizeL]
  rcases List.mem_cons.1 h with rfl | h
  ·omega
  ·have := ih h; omega
theorem encL_take {ks : List Itm} {i : Nat} (h : i < ks.length) : encL (ks.take (i + 1)) = encL (ks.take i) ++ enc (ks.getD i default) := by
 rw [List.take_succ_eq_append_getElem h]
 have : ∀ (a b : List Itm), encL (a ++ b) = encL a ++ encL b := by
  intro a b
  induction a with
  | nil => simp [encL]
  | cons k r ih => simp only [List.cons_append, encL, ih, List.append_assoc]
 rw [this, List.getD_eq_getElem?_getD, List.getElem?_eq_getElem h]
 simp [encL]
theorem encL_take_le (ks : List Itm) (i : Nat) : (encL (ks.take i)).length ≤ (encL ks).length := by
 have : ∀ (a b : List Itm), encL (a ++ b) = encL a ++ encL b := by
  intro a b
  induction a with
  | nil => simp [encL]
  | cons k r ih => simp only [List.cons_append, encL, ih, List.append_assoc]
 have h2 := this (ks.take i) (ks.drop i)
 rw [List.take_append_drop] at h2
 rw [h2, List.length_append]
 omega
attribute [irreducible] itC
namespace Pw
set_option maxHeartbeats 1000000 in
theorem ToNum_ok (l : List UInt8) (h1 : l.length ≤ 32) (h2 : l.head? ≠ some 0) : LF Tryz.prog 20 [bV l] (fun _ => .t [wV (Ps.beN l), .k (.int .i64 0)]) none := by
 have c1 := Wo.Read l h1
 have hz : 0 < l.length → ¬ ((l.getD 0 default).toNat : Int) = 0 := fun h0 e => by
  cases l with
  | nil => simp at h0
  | cons a r => exact h2 (by simp only [List.head?_cons, Option.some.injEq]; exact u8_zero (by simpa using e))
 have hl := limbs_len (Ps.beN l)
 rcases Nat.eq_zero_or_pos l.length with h0 | h0
 ·clear hz
  refine LFx.mk' tt Tryz.func20 rfl rfl rfl (by kernel_rfl) rfl rfl fun F => ?_
  exact wk trueW trueW trueW
 ·have hz2 := hz h0
  clear hz
  refine LFx.mk' tt Tryz.func20 rfl rfl rfl (by kernel_rfl) rfl rfl fun F => ?_
  exact wk trueW trueW trueW
set_option maxHeartbeats 1000000 in
theorem ToNum_no (l : List UInt8) (h : 32 < l.length ∨ l.head? = some 0) (hm : l.length < 1073741824) : LF Tryz.prog 20 [bV l] (fun _ => .t [.a ((List.replicate 4 0).map uK), .k (.int .i64 1)]) none := by
  rcases Nat.lt_or_ge 32 l.length with h1 | h1
  · clear h
    refine LFx.mk' tt Tryz.func20 rfl rfl rfl (by kernel_rfl) rfl rfl fun F => ?_
    exact wk trueW trueW trueW
  · have h0 : 0 < l.length := by
      rcases h with h | h
      · omega
      · cases l with
        | nil => cases h
        | cons a r => simp
    have hz : ((l.getD 0 default).toNat : Int) = 0 := by
      rcases h with h | h
      · omega
      · cases l with
        | nil => cases h
        | cons a r => simp only [List.head?_cons, Option.some.injEq] at h; subst h; rfl
    clear h
    refine LFx.mk' tt Tryz.func20 rfl rfl rfl (by kernel_rfl) rfl rfl fun F => ?_
    exact wk trueW trueW trueW
theorem head_lt (b n : Nat) (h : n < 1073741824) : (numL n).length ≤ 4 := numL_len (by simpa using (by omega : n < 4294967296))
set_option maxHeartbeats 1000000 in
theorem head (b : UInt8) (hb : b.toNat = 128 ∨ b.toNat = 192) (n : Nat) (hn : n < 1073741824) (k : Nat) : LM Tryz.prog 48 [bK b, .k (.int .i64 (n : Int))] [] fun o m => o = .ret (.s (some k) ((Pk.head b.toNat n).map bK)) ∧ m = [(k, .r 5 1 (Pk.head b.toNat n).length)] := by
 have e : Pk.head b.toNat n = if n < 48 then [UInt8.ofNat (b.toNat + n)] else UInt8.ofNat (b.toNat + 48 + ((numL n).length - 1)) :: numL n := by unfold Pk.head; rfl
 rcases Nat.lt_or_ge n 48 with h | h
 ·rw [if_pos h] at e
  rw [e]
  have hx : IntKind.u8.wrap ((b.toNat : Int) + (n : Int)) = ((UInt8.ofNat (b.toNat + n)).toNat : Int) := by rw [wrap_u8 (by omega), Pk.ofNat_toNat (by omega)]; omega
  generalize UInt8.ofNat (b.toNat + n) = y at *
  refine LM.row1 (k0 := 12) (fun ρ => by simp [V.ren, bK]) ?_ k
  clear e
  refine LFx.mk' tt Tryz.func48 rfl rfl rfl (by kernel_rfl) rfl rfl fun F => ?_
  exact wk trueW trueW trueW
 ·rw [if_neg (by omega)] at e
  have hn4 := head_lt 0 n hn
  have hp := numL_pos (n := n) (by omega)
  have hx : IntKind.u8.wrap ((b.toNat : Int) + 48 + (((numL n).length - 1 : Nat) : Int)) = ((UInt8.ofNat (b.toNat + 48 + ((numL n).length - 1))).toNat : Int) := by rw [wrap_u8 (by omega), Pk.ofNat_toNat (by omega)]; omega
  have c1 := Wo.IntW n (by unfold m64; omega)
  have c2 := Num n
  rw [Nat.mod_eq_of_lt (show n < M256 by unfold M256 m64; omega)] at c2
  rw [e]
  clear e
  generalize UInt8.ofNat (b.toNat + 48 + ((numL n).length - 1)) = y at *
  generalize numL n = L at *
  refine LM.row1 (k0 := 24) (fun ρ => by simp [V.ren, bK]) ?_ k
  refine LFx.mk' tt Tryz.func48 rfl rfl rfl (by kernel_rfl) rfl rfl fun F => ?_
  exact wk trueW trueW trueW
end Pw
end Lf
open Go.RowKit Rg Wm Ar
set_option maxRecDepth 100000
namespace Lf
open Pk
structure Hdr where
 parent : List UInt8
 number : Nat
 time : Nat
 keeper : List UInt8
 limit : Nat
 used : Nat
 bloom : List UInt8
 state : List UInt8
 txs : List UInt8
 receipts : List UInt8
 next : List UInt8
 deriving Inhabited, DecidableEq
structure Hdr.ok (h : Hdr) : Prop where
 parent : h.parent.length = 32
 number : h.number < 18446744073709551616
 time : h.time < 18446744073709551616
 keeper : h.keeper.length = 8
 limit : h.limit < 18446744073709551616
 used : h.used < 18446744073709551616
 bloom : h.bloom.length = 32
 state : h.state.length = 32
 txs : h.txs.length = 32
 receipts : h.receipts.length = 32
 next : h.next.length = 32
def hdrC (h : Hdr) : List V := h.parent.map bK ++ (uK h.number :: uK h.time :: (h.keeper.map bK ++ (uK h.limit :: uK h.used :: (h.bloom.map bK ++ (h.state.map bK ++ (h.txs.map bK ++ (h.receipts.map bK ++ h.next.map bK)))))))
theorem hdrC_eq (h : Hdr) : hdrC h = h.parent.map bK ++ (uK h.number :: uK h.time :: (h.keeper.map bK ++ (uK h.limit :: uK h.used :: (h.bloom.map bK ++ (h.state.map bK ++ (h.txs.map bK ++ (h.receipts.map bK ++ h.next.map bK))))))) := rfl
theorem hdrC_len {h : Hdr} (k : h.ok) : (hdrC h).length = 204 := by
 simp [hdrC, k.parent, k.keeper, k.bloom, k.state, k.txs, k.receipts, k.next]
theorem drop_at {a b : List V} {n : Nat} (h : a.length = n) (m : Nat) : (a ++ b).drop (n + m) = b.drop m := by
 subst h; rw [List.drop_append]; simp
theorem len_b (l : List UInt8) {n : Nat} (h : l.length = n) : (l.map bK).length = n := by rw [List.length_map, h]
theorem hd32 {h : Hdr} (k : h.ok) (m : Nat) : (hdrC h).drop (32 + m) = (uK h.number :: uK h.time :: (h.keeper.map bK ++ (uK h.limit :: uK h.used :: (h.bloom.map bK ++ (h.state.map bK ++ (h.txs.map bK ++ (h.receipts.map bK ++ h.next.map bK))))))).drop m := drop_at (len_b _ k.parent) m
theorem hd34 {h : Hdr} (k : h.ok) : (hdrC h).drop 34 = h.keeper.map bK ++ (uK h.limit :: uK h.used :: (h.bloom.map bK ++ (h.state.map bK ++ (h.txs.map bK ++ (h.receipts.map bK ++ h.next.map bK))))) := hd32 k 2
theorem hd42 {h : Hdr} (k : h.ok) (m : Nat) : (hdrC h).drop (42 + m) = (uK h.limit :: uK h.used :: (h.bloom.map bK ++ (h.state.map bK ++ (h.txs.map bK ++ (h.receipts.map bK ++ h.next.map bK))))).drop m := by
 have e : (hdrC h).drop (42 + m) = ((hdrC h).drop 34).drop (8 + m) := by rw [List.drop_drop]; congr 1; omega
 rw [e, hd34 k]; exact drop_at (len_b _ k.keeper) m
theorem hd44 {h : Hdr} (k : h.ok) : (hdrC h).drop 44 = h.bloom.map bK ++ (h.state.map bK ++ (h.txs.map bK ++ (h.receipts.map bK ++ h.next.map bK))) := hd42 k 2
theorem hd76 {h : Hdr} (k : h.ok) : (hdrC h).drop 76 = h.state.map bK ++ (h.txs.map bK ++ (h.receipts.map bK ++ h.next.map bK)) := by
 have e : (hdrC h).drop 76 = ((hdrC h).drop 44).drop (32 + 0) := by rw [List.drop_drop]
 rw [e, hd44 k]; exact drop_at (len_b _ k.bloom) 0
theorem hd108 {h : Hdr} (k : h.ok) : (hdrC h).drop 108 = h.txs.map bK ++ (h.receipts.map bK ++ h.next.map bK) := by
 have e : (hdrC h).drop 108 = ((hdrC h).drop 76).drop (32 + 0) := by rw [List.drop_drop]
 rw [e, hd76 k]; exact drop_at (len_b _ k.state) 0
theorem hd140 {h : Hdr} (k : h.ok) : (hdrC h).drop 140 = h.receipts.map bK ++ h.next.map bK := by
 have e : (hdrC h).drop 140 = ((hdrC h).drop 108).drop (32 + 0) := by rw [List.drop_drop]
 rw [e, hd108 k]; exact drop_at (len_b _ k.txs) 0
theorem hd172 {h : Hdr} (k : h.ok) : (hdrC h).drop 172 = h.next.map bK := by
 have e : (hdrC h).drop 172 = ((hdrC h).drop 140).drop (32 + 0) := by rw [List.drop_drop]
 rw [e, hd140 k]; exact drop_at (len_b _ k.receipts) 0
theorem take_at {a b : List V} {n : Nat} (h : a.length = n) : (a ++ b).take n = a := by subst h; simp
theorem hqP {h : Hdr} (k : h.ok) : CutQ (hdrC h) 32 h.parent := ⟨take_at (len_b _ k.parent), k.parent⟩
theorem hqK {h : Hdr} (k : h.ok) : CutQ ((hdrC h).drop 34) 8 h.keeper := ⟨by rw [hd34 k]; exact take_at (len_b _ k.keeper), k.keeper⟩
theorem hqB {h : Hdr} (k : h.ok) : CutQ ((hdrC h).drop 44) 32 h.bloom := ⟨by rw [hd44 k]; exact take_at (len_b _ k.bloom), k.bloom⟩
theorem hqS {h : Hdr} (k : h.ok) : CutQ ((hdrC h).drop 76) 32 h.state := ⟨by rw [hd76 k]; exact take_at (len_b _ k.state), k.state⟩
theorem hqT {h : Hdr} (k : h.ok) : CutQ ((hdrC h).drop 108) 32 h.txs := ⟨by rw [hd108 k]; exact take_at (len_b _ k.txs), k.txs⟩
theorem hqR {h : Hdr} (k : h.ok) : CutQ ((hdrC h).drop 140) 32 h.receipts := ⟨by rw [hd140 k]; exact take_at (len_b _ k.receipts), k.receipts⟩
theorem hqN {h : Hdr} (k : h.ok) : CutQ ((hdrC h).drop 172) 32 h.next := ⟨by rw [hd172 k]; rw [← len_b _ k.next]; exact List.take_length, k.next⟩
theorem part_num {ti : TI} {cs r : List V} {u : V} {off : Nat} (hd : ti.d.agg = false) (h : cs.drop off = u :: r) : ti.part cs off = some u := by
 have e : cs[off]? = some u := by
  have := congrArg (·[0]?) h
  simpa using this
 unfold TI.part
 rw [hd]
 exact e
theorem hdrC_bare (h : Hdr) : V.bare.go (hdrC h) = some (hdrC h) := by
 have hb : ∀ (l : List UInt8) (r : List V), V.bare.go r = some r → V.bare.go (l.map bK ++ r) = some (l.map bK ++ r) := by
  intro l
  induction l with
  | nil => intro r hr; exact hr
  | cons a l ih =>
   intro r hr
   rw [List.map_cons, List.cons_append, V.bare.go, ih r hr]
   rfl
 have hu : ∀ (n : Nat) (r : List V), V.bare.go r = some r → V.bare.go (uK n :: r) = some (uK n :: r) := fun n r hr => by
  rw [V.bare.go, hr]; rfl
 have hn : ∀ l : List UInt8, V.bare.go (l.map bK) = some (l.map bK) := fun l => by
  have := hb l [] rfl
  rwa [List.append_nil] at this
 rw [hdrC_eq]
 exact hb _ _ (hu _ _ (hu _ _ (hb _ _ (hu _ _ (hu _ _ (hb _ _ (hb _ _ (hb _ _ (hb _ _ (hn _))))))))))
theorem hdrC_refs (m : List (Nat × M)) (h : Hdr) : V.refs.go m (hdrC h) = true := by
 have hb : ∀ (l : List UInt8) (r : List V), V.refs.go m r = true → V.refs.go m (l.map bK ++ r) = true := by
  intro l
  induction l with
  | nil => intro r hr; exact hr
  | cons a l ih =>
   intro r hr
   rw [List.map_cons, List.cons_append, V.refs.go, ih r hr]
   rfl
 have hu : ∀ (n : Nat) (r : List V), V.refs.go m r = true → V.refs.go m (uK n :: r) = true := fun n r hr => by
  rw [V.refs.go, hr]; rfl
 have hn : ∀ l : List UInt8, V.refs.go m (l.map bK) = true := fun l => by
  have := hb l [] rfl
  rwa [List.append_nil] at this
 rw [hdrC_eq]
 exact hb _ _ (hu _ _ (hu _ _ (hb _ _ (hu _ _ (hu _ _ (hb _ _ (hb _ _ (hb _ _ (hb _ _ (hn _))))))))))
attribute [irreducible] hdrC
def bytI (l : List UInt8) : Itm := .mk false l []
def hdrKs (h : Hdr) : List (List UInt8) := [h.parent, numL h.number, numL h.time, numL h.limit, numL h.used, h.keeper, h.bloom, h.state, h.txs, h.receipts, h.next]
def hdrI (h : Hdr) : Itm := .mk true [] ((hdrKs h).map bytI)
def hdrB (h : Hdr) : List UInt8 := enc (hdrI h)
end Lf
open Go.RowKit Rg Wm Ar
set_option linter.unusedVariables false
set_option maxRecDepth 100000
namespace Lf
open Pk
theorem sizeL_len (ks : List Itm) : ks.length ≤ Itm.sizeL ks := by
 induction ks with
 | nil => simp
 | cons a r ih => simp only [List.length_cons, Itm.sizeL]; omega
theorem getD_mem {ks : List Itm} {i : Nat} (h : i < ks.length) : ks.getD i default ∈ ks := by
 rw [List.getD_eq_getElem?_getD, List.getElem?_eq_getElem h]; exact List.getElem_mem h
namespace Pw
set_option maxHeartbeats 2000000 in
theorem Encode : ∀ (n : Nat) (x : Itm), x.size ≤ n → n < 100000000 → LF Tryz.prog 22 [itV x] (fun _ => .s none ((enc x).map bK)) none := by
 intro n
 induction n with
 | zero => intro x hx; obtain ⟨l, t, ks⟩ := x; simp only [Itm.size] at hx; omega
 | succ n ih =>
  intro x hx hn
  have hlen := enc_len x (by omega)
  obtain ⟨l, t, ks⟩ := x
  simp only [Itm.size] at hx hlen
  simp only [itV, itC_eq]
  cases l with
  | false =>
   by_cases hc : t.length = 1 ∧ t.getD 0 default < 128
   ·have e : enc (.mk false t ks) = t := by unfold enc; rw [if_pos hc]
    rw [e]
    obtain ⟨h1, h2⟩ := hc
    have h3 : ((t.getD 0 default).toNat : Int) < 128 := by have : (t.getD 0 default).toNat < 128 := h2; omega
    have hv : V.s none [bK (t.getD 0 default)] = V.s none (t.map bK) := by
     match t, h1 with
     | [c], _ => rfl
    clear h2 hlen e
    refine LFx.mk' tt Tryz.func22 rfl rfl rfl (by kernel_rfl) rfl rfl fun F => ?_
    exact wk trueW trueW trueW
   ·have e : enc (.mk false t ks) = Pk.head 128 t.length ++ t := by unfold enc; rw [if_neg hc]
    rw [e] at hlen ⊢
    rw [List.length_append] at hlen
    have c1 := head 128 (.inl rfl) t.length (by omega) 28
    rw [show (128 : UInt8).toNat = 128 from rfl] at c1
    generalize Pk.head 128 t.length = H at *
    clear e
    by_cases h1 : t.length = 1
    ·have h3 : ¬ ((t.getD 0 default).toNat : Int) < 128 := fun h => hc ⟨h1, (show (t.getD 0 default).toNat < 128 by omega)⟩
     clear hc
     refine LFx.mk' tt Tryz.func22 rfl rfl rfl (by kernel_rfl) rfl rfl fun F => ?_
     exact wk trueW trueW trueW
    ·clear hc
     refine LFx.mk' tt Tryz.func22 rfl rfl rfl (by kernel_rfl) rfl rfl fun F => ?_
     exact wk trueW trueW trueW
  | true =>
   have e : enc (.mk true t ks) = Pk.head 192 (encL ks).length ++ encL ks := by unfold enc; rfl
   rw [e] at hlen ⊢
   rw [List.length_append] at hlen
   have c2 := head 192 (.inr rfl) (encL ks).length (by omega) 46
   rw [show (192 : UInt8).toNat = 192 from rfl] at c2
   generalize Pk.head 192 (encL ks).length = H at *
   clear e
   have hkl := sizeL_len ks
   refine LFx.mk' tt Tryz.func22 rfl rfl rfl (by kernel_rfl) rfl rfl fun F => ?_
   refine wk ?_ trueW trueW
   refine LC.nilrow 3 3 5 1 rfl rfl rfl ?_
   refine LC.loop2 (fun i S => [(1, .p 1 0), (3, .s (some 3) (S.map bK)), (33, .s none (ks.map itV)), (34, .k (.int .i64 ((ks.length : Nat) : Int))), (35, .k (.int .i64 ((i : Nat) : Int)))]) (fun i S => [(1, .b [.k (.bool true), bV t, .s none (ks.map itV)]), (3, .r 5 1 S.length)]) (fun i S => i ≤ ks.length ∧ S = encL (ks.take i)) ((ks.length - ·)) (0) ([]) ⟨by omega, by rw [List.take_zero]; unfold encL; rfl⟩ ⟨rfl, rfl, rfl, rfl, rfl, trivial⟩ ⟨rfl, rfl, trivial⟩ rfl rfW rfW ?_
   rintro i S ⟨hi, hS⟩
   have hSl := encL_take_le ks i
   rw [← hS] at hSl
   rcases Nat.lt_or_ge i ks.length with h | h
   ·have hm := sizeL_mem (getD_mem h)
    have c1 := ih (ks.getD i default) (by omega) (by omega)
    have hk3 := itC_len (ks.getD i default)
    have hE := encL_take h
    rw [← hS] at hE
    have hSl2 := encL_take_le ks (i + 1)
    rw [hE, List.length_append] at hSl2
    have hok : i + 1 ≤ ks.length ∧ S ++ enc (ks.getD i default) = encL (ks.take (i + 1)) := ⟨h, hE.symm⟩
    have hrf := itC_refs
    clear ih hS hE
    exact wk trueW trueW trueW
   ·obtain rfl : i = ks.length := by omega
    rw [List.take_length] at hS
    subst hS
    clear ih
    exact wk trueW trueW trueW
end Pw
end Lf
end Go.Proofs.YtpaafpmofhajfaaGreatDoor

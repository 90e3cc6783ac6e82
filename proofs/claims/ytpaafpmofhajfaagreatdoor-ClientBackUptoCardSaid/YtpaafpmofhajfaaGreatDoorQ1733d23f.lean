/- A part of the proof: texts joined. -/
import Derived.Test.YtpaafpmofhajfaaGreatDoorQ12a934ae
import Derived.Test.YtpaafpmofhajfaaGreatDoorQ164f1572
set_option linter.unusedVariables false
set_option linter.unusedSimpArgs false
namespace Go.Proofs.YtpaafpmofhajfaaGreatDoor
open Go.RowKit Rg Wm Ar
set_option maxRecDepth 100000
namespace Lf
namespace Cb
open Pk
def itxt : Itm → List UInt8
 | .mk _ t _ => t
def ikds : Itm → List Itm
 | .mk _ _ ks => ks
theorem dec_nrm' {b : List UInt8} {k : Itm} (h : dec b = some k) : nrm k = k := by
 unfold dec at h
 cases hr : rd b with
 | none => rw [hr] at h; cases h
 | some x =>
  obtain ⟨k', r⟩ := x
  rw [hr] at h
  cases r with
  | cons => cases h
  | nil => cases h; exact ((rd_uniq b.length).1 b [] k (Nat.le_refl _) hr).2
theorem dec_text {b t : List UInt8} {ks : List Itm} (h : dec b = some (.mk false t ks)) : ks = [] := by
 have := dec_nrm' h
 rw [nrm] at this
 injection this with _ _ e
 exact e.symm
theorem head_pos' (b n : Nat) : 1 ≤ (Pk.head b n).length := by unfold Pk.head; split <;> simp
mutual
theorem enc_size' : ∀ a, (nrm a).size + 1 ≤ 3 * (enc a).length
 | .mk false t ks => by
  unfold enc
  simp only [nrm, Itm.size, Itm.sizeL]
  split
  ·rename_i h; omega
  ·have := head_pos' 128 t.length; simp only [List.length_append]; omega
 | .mk true t ks => by
  have h := encL_size' ks
  have := head_pos' 192 (encL ks).length
  unfold enc
  simp only [nrm, Itm.size, List.length_append, List.length_nil]
  omega
theorem encL_size' : ∀ a, Itm.sizeL (nrmL a) ≤ 3 * (encL a).length
 | [] => by simp [nrmL, Itm.sizeL]
 | k :: r => by
  have h1 := enc_size' k
  have h2 := encL_size' r
  unfold encL
  simp only [nrmL, Itm.sizeL, List.length_append]
  omega
end
theorem dec_size {code : List UInt8} {it : Itm} (h : dec code = some it) : it.size ≤ 3 * code.length := by
 have h1 := enc_size' it
 rw [dec_nrm' h, ← dec_uniq h] at h1
 omega
end Cb
open Pk Cb
theorem it_txt {ti : TI} {x : Itm} (hd : ti.d.agg = false) : ti.part (itC x) 1 = some (bV (itxt x)) := by
 obtain ⟨l, t, ks⟩ := x
 rw [itC_eq]
 unfold TI.part
 simp [hd, itxt]
theorem it_txt' {ti : TI} {x : Itm} (hd : ti.d.agg = false) : ti.part ((itC x).drop 1) 0 = some (bV (itxt x)) := by
 obtain ⟨l, t, ks⟩ := x
 rw [itC_eq]
 unfold TI.part
 simp [hd, itxt]
namespace Cb
theorem kid_len : ∀ {ks : List Itm} {x : Itm}, x ∈ ks → (itxt x).length ≤ Itm.sizeL ks
 | [], x, h => by cases h
 | y :: r, x, h => by
  rcases List.mem_cons.1 h with rfl | h
  ·obtain ⟨l, t, k⟩ := x
   simp only [Itm.sizeL, Itm.size, itxt]
   omega
  ·have := kid_len h
   simp only [Itm.sizeL]
   omega
theorem kids_len : ∀ {ks : List Itm}, ks.length ≤ Itm.sizeL ks
 | [] => Nat.le_refl _
 | y :: r => by
  have := kids_len (ks := r)
  simp only [Itm.sizeL, List.length_cons]
  omega
theorem getD_in {α : Type} [Inhabited α] {l : List α} {i : Nat} (h : i < l.length) : l.getD i default ∈ l := by
 rw [List.getD_eq_getElem?_getD, List.getElem?_eq_getElem h]
 exact List.getElem_mem h
theorem limbs4 (x : Nat) : limbs x = [limb x 0, limb x 1, limb x 2, limb x 3] := by unfold limbs; rfl
theorem limbs_zero : limbs 0 = List.replicate 4 0 := by rw [limbs4]; decide
def tnum (t : List UInt8) : Nat := if t.length ≤ 32 ∧ t.head? ≠ some 0 then Ps.beN t else 0
theorem ToNum_any (t : List UInt8) (hm : t.length < 1073741824) : ∃ e : Int, LF Tryz.prog 20 [bV t] (fun _ => .t [wV (tnum t), .k (.int .i64 e)]) none := by
  unfold tnum
  by_cases h : t.length ≤ 32 ∧ t.head? ≠ some 0
  · rw [if_pos h]; exact ⟨0, Pw.ToNum_ok t h.1 h.2⟩
  · rw [if_neg h]
    refine ⟨1, ?_⟩
    have := Pw.ToNum_no t (by by_cases h1 : t.length ≤ 32
                              · exact .inr (Decidable.byContradiction fun k => h ⟨h1, k⟩)
                              · exact .inl (by omega)) hm
    rwa [← limbs_zero] at this
theorem num32 {n : Nat} (h : n < M256) : (numL n).length ≤ 32 := numL_len (by rw [← m256_bytes]; exact h)
theorem tnum_num {n : Nat} (h : n < M256) : tnum (numL n) = n := by
 unfold tnum
 rw [if_pos ⟨num32 h, numL_head n⟩]
 exact beN_numL n
theorem limb_small {n : Nat} (h : n < 18446744073709551616) : limb n 0 = n := by
 have := limbs_small (n := n) h
 rw [limbs4] at this
 exact (List.cons.inj this).1
def padT (n : Nat) (t : List UInt8) : List UInt8 := t.take n ++ List.replicate (n - t.length) 0
theorem padT_len (n : Nat) (t : List UInt8) : (padT n t).length = n := by
 unfold padT
 rw [List.length_append, List.length_take, List.length_replicate]
 omega
theorem padT_all {n : Nat} {t : List UInt8} (h : t.length = n) : padT n t = t := by
 unfold padT
 rw [List.take_of_length_le (by omega), h, Nat.sub_self, List.replicate_zero, List.append_nil]
def n64 (t : List UInt8) : Nat := limb (tnum t) 0
theorem n64_lt (t : List UInt8) : n64 t < 18446744073709551616 := limb_lt64 _ _
theorem n64_num {n : Nat} (h : n < 18446744073709551616) : n64 (numL n) = n := by
 unfold n64
 rw [tnum_num (Nat.lt_trans h (by decide)), limb_small h]
abbrev kt (ks : List Itm) (i : Nat) : List UInt8 := itxt (ks.getD i default)
def hdAt (ks : List Itm) : Hdr := ⟨padT 32 (kt ks 0), n64 (kt ks 1), n64 (kt ks 2), padT 8 (kt ks 5), n64 (kt ks 3), n64 (kt ks 4), padT 32 (kt ks 6), padT 32 (kt ks 7), padT 32 (kt ks 8), padT 32 (kt ks 9), padT 32 (kt ks 10)⟩
theorem hdAt_ok (ks : List Itm) : (hdAt ks).ok := ⟨padT_len _ _, n64_lt _, n64_lt _, padT_len _ _, n64_lt _, n64_lt _, padT_len _ _, padT_len _ _, padT_len _ _, padT_len _ _, padT_len _ _⟩
def rdHd (b : List UInt8) : Option Hdr :=
 match dec b with
 | some (.mk true _ ks) => if ks.length = 11 ∧ hdrB (hdAt ks) = b then some (hdAt ks) else none
 | _ => none
theorem rdHd_back {b : List UInt8} {h : Hdr} (k : rdHd b = some h) : hdrB h = b ∧ h.ok := by
 unfold rdHd at k
 split at k
 ·split at k
  ·rename_i q
   cases k
   exact ⟨q.2, hdAt_ok _⟩
  ·cases k
 ·cases k
theorem nrm_byt : ∀ l : List (List UInt8), nrmL (l.map bytI) = l.map bytI
 | [] => rfl
 | x :: r => by rw [List.map_cons, nrmL, nrm_byt r]; rfl
theorem hdAt_back {h : Hdr} (k : h.ok) : hdAt ((hdrKs h).map bytI) = h := by
 have e : hdAt ((hdrKs h).map bytI) = ⟨padT 32 h.parent, n64 (numL h.number), n64 (numL h.time), padT 8 h.keeper, n64 (numL h.limit), n64 (numL h.used), padT 32 h.bloom, padT 32 h.state, padT 32 h.txs, padT 32 h.receipts, padT 32 h.next⟩ := rfl
 rw [e, padT_all k.parent, padT_all k.keeper, padT_all k.bloom, padT_all k.state, padT_all k.txs, padT_all k.receipts, padT_all k.next, n64_num k.number, n64_num k.time, n64_num k.limit, n64_num k.used]
theorem rdHd_hdrB {h : Hdr} (k : h.ok) : rdHd (hdrB h) = some h := by
 have hl := hdrB_len k
 have hd : dec (hdrB h) = some (nrm (hdrI h)) := dec_enc (a := hdrI h) (by show (hdrB h).length < _; omega)
 have hn : nrm (hdrI h) = .mk true [] ((hdrKs h).map bytI) := by
  unfold hdrI
  rw [nrm, nrm_byt]
 unfold rdHd
 rw [hd, hn]
 show (if _ ∧ hdrB (hdAt _) = hdrB h then some (hdAt _) else none) = some h
 rw [hdAt_back k, if_pos ⟨rfl, rfl⟩]
def numsI (l : List Nat) : Itm := .mk true [] (l.map fun s => bytI (numL s))
def stI (s : StM) : Itm := .mk true [] [bytI (hdrB s.hdr), numsI s.seats, numsI s.next]
def stB (s : StM) : List UInt8 := enc (stI s)
def numsAt (k : Itm) : List Nat := (ikds k).map fun x => n64 (itxt x)
def stAt (ks : List Itm) (h : Hdr) : StM := ⟨h, numsAt (ks.getD 1 default), numsAt (ks.getD 2 default)⟩
def rdSt (b : List UInt8) : Option StM :=
  match dec b with
  | some (.mk true _ ks) => if ks.length = 3 then
      match rdHd (kt ks 0) with
      | some h => if stB (stAt ks h) = b then some (stAt ks h) else none
      | none => none
    else none
  | _ => none
theorem numsAt_lt (k : Itm) : seats64 (numsAt k) := fun s hs => by
 obtain ⟨x, _, rfl⟩ := List.mem_map.1 hs
 exact n64_lt _
theorem nums_size : ∀ {l : List Nat}, seats64 l → Itm.sizeL (l.map fun s => bytI (numL s)) ≤ 10 * l.length
 | [], _ => by simp [Itm.sizeL]
 | s :: r, h => by
  have h1 := numL64 (h s (by simp))
  have h2 := nums_size (l := r) fun x hx => h x (by simp [hx])
  have h3 : (bytI (numL s)).size = 1 + (numL s).length := by unfold bytI; simp [Itm.size, Itm.sizeL]
  simp only [List.map_cons, Itm.sizeL, List.length_cons]
  omega
theorem stI_size {s : StM} (k1 : s.hdr.ok) (k2 : seats64 s.seats) (k3 : seats64 s.next) : (stI s).size ≤ 3400 + 10 * s.seats.length + 10 * s.next.length := by
 have h1 := hdrB_len k1
 have h2 := nums_size k2
 have h3 := nums_size k3
 simp only [stI, numsI, bytI, Itm.size, Itm.sizeL, List.length_nil] at *
 omega
theorem rdSt_back {b : List UInt8} {s : StM} (k : rdSt b = some s) : stB s = b ∧ s.hdr.ok ∧ seats64 s.seats ∧ seats64 s.next := by
 unfold rdSt at k
 split at k
 ·split at k
  ·split at k
   ·rename_i h hh
    split at k
    ·rename_i q
     cases k
     exact ⟨q, (rdHd_back hh).2, numsAt_lt _, numsAt_lt _⟩
    ·cases k
   ·cases k
  ·cases k
 ·cases k
theorem nrm_bytI (x : List UInt8) : nrm (bytI x) = bytI x := rfl
theorem nrm_num : ∀ l : List Nat, nrmL (l.map fun s => bytI (numL s)) = l.map fun s => bytI (numL s)
 | [] => rfl
 | x :: r => by rw [List.map_cons, nrmL, nrm_num r]; rfl
theorem numsAt_back {l : List Nat} (h : seats64 l) : numsAt (numsI l) = l := by
 show (l.map fun s => bytI (numL s)).map (fun x => n64 (itxt x)) = l
 rw [List.map_map]
 conv => rhs; rw [← List.map_id l]
 exact List.map_congr_left fun s hs => n64_num (h s hs)
theorem rdSt_stB {s : StM} (k1 : s.hdr.ok) (k2 : seats64 s.seats) (k3 : seats64 s.next) (hl : (stB s).length < 2 ^ 64) : rdSt (stB s) = some s := by
 have hd : dec (stB s) = some (nrm (stI s)) := dec_enc (a := stI s) hl
 have hn : nrm (stI s) = stI s := by
  simp only [stI, numsI, nrm, nrmL, nrm_num, nrm_bytI]
 unfold rdSt
 rw [hd, hn]
 show (if _ then (match rdHd (hdrB s.hdr) with | some h => if stB (stAt _ h) = stB s then some (stAt _ h) else none | none => none) else none) = some s
 rw [rdHd_hdrB k1, if_pos (show [bytI (hdrB s.hdr), numsI s.seats, numsI s.next].length = 3 from rfl)]
 have e : stAt [bytI (hdrB s.hdr), numsI s.seats, numsI s.next] s.hdr = s := by
  show StM.mk s.hdr (numsAt (numsI s.seats)) (numsAt (numsI s.next)) = s
  rw [numsAt_back k2, numsAt_back k3]
 show (if stB (stAt [bytI (hdrB s.hdr), numsI s.seats, numsI s.next] s.hdr) = stB s then some (stAt [bytI (hdrB s.hdr), numsI s.seats, numsI s.next] s.hdr) else none) = some s
 rw [e, if_pos rfl]
end Cb
end Lf
open Go.RowKit Rg Wm Ar
set_option maxRecDepth 100000
namespace Lf
open Pk
namespace Cb
theorem splice_app {A B U : List V} {n : Nat} (h : A.length = n) (o : Nat) : splice (A ++ B) (n + o) U = A ++ splice B o U := by
 subst h
 unfold splice
 rw [List.take_length_add_append, show A.length + o + U.length = A.length + (o + U.length) by omega, List.drop_length_add_append]
 simp only [List.append_assoc]
theorem splice_cons {a : V} {B U : List V} (o : Nat) : splice (a :: B) (o + 1) U = a :: splice B o U := by
 unfold splice
 rw [show o + 1 + U.length = (o + U.length) + 1 by omega]
 rfl
theorem splA {A B U : List V} {n m : Nat} (h : A.length = n) (hm : n ≤ m) : splice (A ++ B) m U = A ++ splice B (m - n) U := by
 have := splice_app (B := B) (U := U) h (m - n)
 rwa [show n + (m - n) = m by omega] at this
theorem splC {a : V} {B U : List V} {m : Nat} (hm : 0 < m) : splice (a :: B) m U = a :: splice B (m - 1) U := by
 have := splice_cons (a := a) (B := B) (U := U) (m - 1)
 rwa [show m - 1 + 1 = m by omega] at this
theorem splice_at {A B U : List V} {o : Nat} (h : U.length ≤ A.length) (ho : o = 0) : splice (A ++ B) o U = (U ++ A.drop U.length) ++ B := by
 subst ho
 unfold splice
 rw [List.take_zero, Nat.zero_add, List.drop_append, Nat.sub_eq_zero_of_le h, List.drop_zero]
 simp only [List.nil_append, List.append_assoc]
theorem splice_end {A U : List V} {o : Nat} (h : U.length ≤ A.length) (ho : o = 0) : splice A o U = U ++ A.drop U.length := by
 subst ho
 unfold splice
 rw [List.take_zero, Nat.zero_add]
 simp only [List.nil_append]
theorem pad_cells (n : Nat) (t : List UInt8) : ((t.map bK).take (if (t.map bK).length ≤ n then (t.map bK).length else n)).length ≤ n ∧
  (t.map bK).take (if (t.map bK).length ≤ n then (t.map bK).length else n) ++ ((List.replicate n (0 : UInt8)).map bK).drop ((t.map bK).take (if (t.map bK).length ≤ n then (t.map bK).length else n)).length = (padT n t).map bK := by
 have e : (t.map bK).take (if (t.map bK).length ≤ n then (t.map bK).length else n) = (t.take n).map bK := by
  rw [List.map_take]
  split
  ·rw [List.take_length, List.take_of_length_le (by assumption)]
  ·rfl
 rw [e, List.length_map, List.length_take]
 refine ⟨by omega, ?_⟩
 unfold padT
 rw [List.map_append, ← List.map_drop, List.drop_replicate]
 congr 3
 omega
abbrev cpN (n : Nat) (t : List UInt8) : Nat := if (t.map bK).length ≤ n then (t.map bK).length else n
abbrev cpC (n : Nat) (t : List UInt8) : List V := (t.map bK).take (cpN n t)
section
variable {h : Hdr} (k : h.ok)
include k
theorem set_number (x : Nat) : splice (hdrC h) 32 [uK x] = hdrC { h with number := x } := by
 rw [hdrC_eq, hdrC_eq, splA (len_b _ k.parent) (by decide)]
 rfl
theorem set_time (x : Nat) : splice (hdrC h) 33 [uK x] = hdrC { h with time := x } := by
 rw [hdrC_eq, hdrC_eq, splA (len_b _ k.parent) (by decide), splC (by decide)]
 rfl
theorem set_limit (x : Nat) : splice (hdrC h) 42 [uK x] = hdrC { h with limit := x } := by
 rw [hdrC_eq, hdrC_eq, splA (len_b _ k.parent) (by decide), splC (by decide), splC (by decide), splA (len_b _ k.keeper) (by decide)]
 rfl
theorem set_used (x : Nat) : splice (hdrC h) 43 [uK x] = hdrC { h with used := x } := by
 rw [hdrC_eq, hdrC_eq, splA (len_b _ k.parent) (by decide), splC (by decide), splC (by decide), splA (len_b _ k.keeper) (by decide), splC (by decide)]
 rfl
theorem set_parent (t : List UInt8) (e : h.parent = List.replicate 32 0) : splice (hdrC h) 0 (cpC 32 t) = hdrC { h with parent := padT 32 t } := by
 obtain ⟨p1, p2⟩ := pad_cells 32 t
 rw [hdrC_eq, hdrC_eq, splice_at (by rw [len_b _ k.parent]; exact p1) rfl, e, p2]
theorem set_keeper (t : List UInt8) (e : h.keeper = List.replicate 8 0) : splice (hdrC h) 34 (cpC 8 t) = hdrC { h with keeper := padT 8 t } := by
 obtain ⟨p1, p2⟩ := pad_cells 8 t
 rw [hdrC_eq, hdrC_eq, splA (len_b _ k.parent) (by decide), splC (by decide), splC (by decide), splice_at (by rw [len_b _ k.keeper]; exact p1) rfl, e, p2]
theorem set_bloom (t : List UInt8) (e : h.bloom = List.replicate 32 0) : splice (hdrC h) 44 (cpC 32 t) = hdrC { h with bloom := padT 32 t } := by
 obtain ⟨p1, p2⟩ := pad_cells 32 t
 rw [hdrC_eq, hdrC_eq, splA (len_b _ k.parent) (by decide), splC (by decide), splC (by decide), splA (len_b _ k.keeper) (by decide), splC (by decide), splC (by decide), splice_at (by rw [len_b _ k.bloom]; exact p1) rfl, e, p2]
theorem set_state (t : List UInt8) (e : h.state = List.replicate 32 0) : splice (hdrC h) 76 (cpC 32 t) = hdrC { h with state := padT 32 t } := by
 obtain ⟨p1, p2⟩ := pad_cells 32 t
 rw [hdrC_eq, hdrC_eq, splA (len_b _ k.parent) (by decide), splC (by decide), splC (by decide), splA (len_b _ k.keeper) (by decide), splC (by decide), splC (by decide), splA (len_b _ k.bloom) (by decide), splice_at (by rw [len_b _ k.state]; exact p1) rfl, e, p2]
theorem set_txs (t : List UInt8) (e : h.txs = List.replicate 32 0) : splice (hdrC h) 108 (cpC 32 t) = hdrC { h with txs := padT 32 t } := by
 obtain ⟨p1, p2⟩ := pad_cells 32 t
 rw [hdrC_eq, hdrC_eq, splA (len_b _ k.parent) (by decide), splC (by decide), splC (by decide), splA (len_b _ k.keeper) (by decide), splC (by decide), splC (by decide), splA (len_b _ k.bloom) (by decide), splA (len_b _ k.state) (by decide), splice_at (by rw [len_b _ k.txs]; exact p1) rfl, e, p2]
theorem set_receipts (t : List UInt8) (e : h.receipts = List.replicate 32 0) : splice (hdrC h) 140 (cpC 32 t) = hdrC { h with receipts := padT 32 t } := by
 obtain ⟨p1, p2⟩ := pad_cells 32 t
 rw [hdrC_eq, hdrC_eq, splA (len_b _ k.parent) (by decide), splC (by decide), splC (by decide), splA (len_b _ k.keeper) (by decide), splC (by decide), splC (by decide), splA (len_b _ k.bloom) (by decide), splA (len_b _ k.state) (by decide), splA (len_b _ k.txs) (by decide), splice_at (by rw [len_b _ k.receipts]; exact p1) rfl, e, p2]
theorem set_next (t : List UInt8) (e : h.next = List.replicate 32 0) : splice (hdrC h) 172 (cpC 32 t) = hdrC { h with next := padT 32 t } := by
 obtain ⟨p1, p2⟩ := pad_cells 32 t
 rw [hdrC_eq, hdrC_eq, splA (len_b _ k.parent) (by decide), splC (by decide), splC (by decide), splA (len_b _ k.keeper) (by decide), splC (by decide), splC (by decide), splA (len_b _ k.bloom) (by decide), splA (len_b _ k.state) (by decide), splA (len_b _ k.txs) (by decide), splA (len_b _ k.receipts) (by decide), splice_end (by rw [len_b _ k.next]; exact p1) rfl, e, p2]
end
end Cb
end Lf
end Go.Proofs.YtpaafpmofhajfaaGreatDoor

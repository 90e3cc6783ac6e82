/- A part of the proof: texts joined. -/
import Derived.Test.YtpaafpmofhajfaaGreatDoorQ1733d23f
set_option linter.unusedVariables false
set_option linter.unusedSimpArgs false
namespace Go.Proofs.YtpaafpmofhajfaaGreatDoor
open Go.RowKit Rg Wm Ar
set_option linter.unusedVariables false
set_option maxRecDepth 100000
namespace Lf
open Pk
namespace Cb
theorem eqS_y (a : List UInt8) : arithS .eql ⟨a.toArray⟩ ⟨a.toArray⟩ = some (.bool true) := by simp [arithS]
theorem eqS_n {a b : List UInt8} (h : ¬ a = b) : arithS .eql ⟨a.toArray⟩ ⟨b.toArray⟩ = some (.bool false) := by simp [arithS, h]
theorem EqualB (a b : List UInt8) : LF Tryz.prog 21 [bV a, bV b] (fun _ => .k (.bool (decide (a = b)))) none := by
 by_cases h : a = b
 ·have hs : arithS .eql ⟨a.toArray⟩ ⟨b.toArray⟩ = some (.bool true) := by rw [h]; exact eqS_y _
  rw [decide_eq_true h]
  clear h
  refine LFx.mk' tt Tryz.func21 rfl rfl rfl (by kernel_rfl) rfl rfl fun F => ?_
  exact wk trueW trueW trueW
 ·have hs := eqS_n h
  rw [decide_eq_false h]
  clear h
  refine LFx.mk' tt Tryz.func21 rfl rfl rfl (by kernel_rfl) rfl rfl fun F => ?_
  exact wk trueW trueW trueW
def zerosH : List Z := List.replicate 32 (.int .u8) ++ ([.int .u64, .int .u64] ++ (List.replicate 8 (.int .u8) ++ ([.int .u64, .int .u64] ++ List.replicate 160 (.int .u8))))
theorem zeroH_cells : hdrC zeroH = zerosH.map Z.v := by
 rw [hdrC_eq]
 rfl
def hdR : Option Hdr → V
 | some h => .t [.a (hdrC h), .k (.int .i64 0)]
 | none => .t [.a (hdrC zeroH), .k (.int .i64 1)]
def hdStep (ks : List Itm) (i : Nat) (h : Hdr) : Hdr :=
 match i with
 | 0 => { h with number := n64 (kt ks 1) }
 | 1 => { h with time := n64 (kt ks 2) }
 | 2 => { h with limit := n64 (kt ks 3) }
 | 3 => { h with used := n64 (kt ks 4) }
 | 4 => { h with parent := padT 32 (kt ks 0) }
 | 5 => { h with keeper := padT 8 (kt ks 5) }
 | 6 => { h with bloom := padT 32 (kt ks 6) }
 | 7 => { h with state := padT 32 (kt ks 7) }
 | 8 => { h with txs := padT 32 (kt ks 8) }
 | 9 => { h with receipts := padT 32 (kt ks 9) }
 | _ => { h with next := padT 32 (kt ks 10) }
def hdN (ks : List Itm) : Nat → Hdr
 | 0 => zeroH
 | i + 1 => hdStep ks i (hdN ks i)
theorem hdN_ok (ks : List Itm) : ∀ i, (hdN ks i).ok
 | 0 => zeroH_ok
 | i + 1 => by
  have h := hdN_ok ks i
  show (hdStep ks i (hdN ks i)).ok
  unfold hdStep
  split
  ·exact ⟨h.1, n64_lt _, h.3, h.4, h.5, h.6, h.7, h.8, h.9, h.10, h.11⟩
  ·exact ⟨h.1, h.2, n64_lt _, h.4, h.5, h.6, h.7, h.8, h.9, h.10, h.11⟩
  ·exact ⟨h.1, h.2, h.3, h.4, n64_lt _, h.6, h.7, h.8, h.9, h.10, h.11⟩
  ·exact ⟨h.1, h.2, h.3, h.4, h.5, n64_lt _, h.7, h.8, h.9, h.10, h.11⟩
  ·exact ⟨padT_len _ _, h.2, h.3, h.4, h.5, h.6, h.7, h.8, h.9, h.10, h.11⟩
  ·exact ⟨h.1, h.2, h.3, padT_len _ _, h.5, h.6, h.7, h.8, h.9, h.10, h.11⟩
  ·exact ⟨h.1, h.2, h.3, h.4, h.5, h.6, padT_len _ _, h.8, h.9, h.10, h.11⟩
  ·exact ⟨h.1, h.2, h.3, h.4, h.5, h.6, h.7, padT_len _ _, h.9, h.10, h.11⟩
  ·exact ⟨h.1, h.2, h.3, h.4, h.5, h.6, h.7, h.8, padT_len _ _, h.10, h.11⟩
  ·exact ⟨h.1, h.2, h.3, h.4, h.5, h.6, h.7, h.8, h.9, padT_len _ _, h.11⟩
  ·exact ⟨h.1, h.2, h.3, h.4, h.5, h.6, h.7, h.8, h.9, h.10, padT_len _ _⟩
theorem hdN_all (ks : List Itm) : hdN ks 11 = hdAt ks := rfl
theorem limb0 (x : Nat) : (limbs x).getD 0 default = limb x 0 := limbs_get x (by decide)
theorem hs_num (ks : List Itm) {i off : Nat} {x : Nat} (h : splice (hdrC (hdN ks i)) off [uK (n64 (kt ks x))] = hdrC (hdN ks (i + 1))) : splice (hdrC (hdN ks i)) off [uK ((limbs (tnum (itxt (ks.getD x default)))).getD 0 default)] = hdrC (hdN ks (i + 1)) := by
 rw [limb0]
 exact h
set_option maxHeartbeats 8000000 in
theorem Read_ (b : List UInt8) (hb : b.length < 300000000) : LF Tryz.prog 15 [bV b] (fun _ => hdR (rdHd b)) none := by
 have hbl : (b.map bK).length = b.length := List.length_map _
 unfold rdHd
 cases hd : dec b with
 | none =>
  have c1 := Pw.Decode_no b (by omega) hd
  show LF _ _ _ (fun _ => .t [.a (hdrC zeroH), .k (.int .i64 1)]) none
  rw [zeroH_cells]
  clear hd
  refine LFx.mk' tt Tryz.func15 rfl rfl rfl (by kernel_rfl) rfl rfl fun F => ?_
  exact wk trueW trueW trueW
 | some k =>
  have hsz := dec_size hd
  have c1 := Pw.Decode_ok b k (by omega) hd
  obtain ⟨lst, t, ks⟩ := k
  simp only [itV, itC_eq] at c1
  simp only [Itm.size] at hsz
  have hkl := kids_len (ks := ks)
  have hkm : (ks.map fun x => V.a (itC x)).length = ks.length := List.length_map _
  have hrf := itC_refs
  have hcv := itC_cv
  have hbr := itC_bare
  have z1 : ∀ e ∈ ks.map (fun x => V.a (itC x)), e.cells.length = 3 := fun e he => by obtain ⟨x, _, rfl⟩ := List.mem_map.1 he; exact itC_len x
  cases lst with
  | false =>
   have h0 := dec_text hd
   subst h0
   show LF _ _ _ (fun _ => .t [.a (hdrC zeroH), .k (.int .i64 1)]) none
   rw [zeroH_cells]
   clear hd
   refine LFx.mk' tt Tryz.func15 rfl rfl rfl (by kernel_rfl) rfl rfl fun F => ?_
   exact wk trueW trueW trueW
  | true =>
   clear hd
   by_cases h4 : ks.length = 11
   ·have ld1 : ∀ {ti : TI} {x : Itm}, ti.d.agg = false → ti.part ((itC x).drop 1) 0 = some (bV (itxt x)) := @it_txt'
    have hk := hdN_ok ks
    have hrg := And.intro hdrC_refs itC_refs
    have hlz : (zerosH.map Z.v).length = 204 := rfl
    show LF _ _ _ (fun _ => hdR (if ks.length = 11 ∧ hdrB (hdAt ks) = b then some (hdAt ks) else none)) none
    rw [← hdN_all]
    generalize hE : hdR (if ks.length = 11 ∧ hdrB (hdN ks 11) = b then some (hdN ks 11) else none) = R
    refine LFx.mk' tt Tryz.func15 rfl rfl rfl (by kernel_rfl) rfl rfl fun F => ?_
    refine wk ?_ trueW trueW
    refine LC.loop2 (fun i C => [(0, bV b), (2, .p 2 0), (3, .k (.int .i64 ((0 : Nat) : Int))), (4, .p 4 0), (6, .p 6 0), (32, .a [.p 6 32, .p 6 33, .p 6 42, .p 6 43]), (33, .k (.int .i64 ((i : Nat) : Int)))]) (fun i C => [(2, .b (zerosH.map Z.v)), (4, .b [.k (.bool true), bV t, .s none (ks.map fun x => V.a (itC x))]), (6, .b C)]) (fun i C => i ≤ 4 ∧ C = hdrC (hdN ks i)) ((4 - ·)) (0) ((zerosH.map Z.v)) ⟨by omega, zeroH_cells.symm⟩ ⟨rfl, rfl, rfl, rfl, rfl, rfl, rfl, trivial⟩ ⟨rfl, rfl, rfl, trivial⟩ rfl rfW rfW ?_
    rintro i C ⟨hi, rfl⟩
    by_cases hlt : i < 4
    ·rcases (show i = 0 ∨ i = 1 ∨ i = 2 ∨ i = 3 by omega) with rfl | rfl | rfl | rfl
     ·have hl0 := hdrC_len (hk 0)
      have y1 := itC_len (ks.getD 1 default)
      have w1 := kid_len (getD_in (l := ks) (i := 1) (by omega))
      obtain ⟨e, c2⟩ := ToNum_any (itxt (ks.getD 1 default)) (by omega)
      have hl4 := limbs_len (tnum (itxt (ks.getD 1 default)))
      have hs := hs_num ks (i := 0) (x := 1) (set_number (hk 0) _)
      have hle1 : 32 + 1 ≤ (hdrC (hdN ks 0)).length := by omega
      have hok : 0 + 1 ≤ 4 ∧ hdrC (hdN ks 1) = hdrC (hdN ks (0 + 1)) := ⟨by omega, rfl⟩
      clear hE
      exact wk trueW trueW trueW
     ·have hl0 := hdrC_len (hk 1)
      have y1 := itC_len (ks.getD 2 default)
      have w1 := kid_len (getD_in (l := ks) (i := 2) (by omega))
      obtain ⟨e, c2⟩ := ToNum_any (itxt (ks.getD 2 default)) (by omega)
      have hl4 := limbs_len (tnum (itxt (ks.getD 2 default)))
      have hs := hs_num ks (i := 1) (x := 2) (set_time (hk 1) _)
      have hle1 : 33 + 1 ≤ (hdrC (hdN ks 1)).length := by omega
      have hok : 1 + 1 ≤ 4 ∧ hdrC (hdN ks 2) = hdrC (hdN ks (1 + 1)) := ⟨by omega, rfl⟩
      clear hE
      exact wk trueW trueW trueW
     ·have hl0 := hdrC_len (hk 2)
      have y1 := itC_len (ks.getD 3 default)
      have w1 := kid_len (getD_in (l := ks) (i := 3) (by omega))
      obtain ⟨e, c2⟩ := ToNum_any (itxt (ks.getD 3 default)) (by omega)
      have hl4 := limbs_len (tnum (itxt (ks.getD 3 default)))
      have hs := hs_num ks (i := 2) (x := 3) (set_limit (hk 2) _)
      have hle1 : 42 + 1 ≤ (hdrC (hdN ks 2)).length := by omega
      have hok : 2 + 1 ≤ 4 ∧ hdrC (hdN ks 3) = hdrC (hdN ks (2 + 1)) := ⟨by omega, rfl⟩
      clear hE
      exact wk trueW trueW trueW
     ·have hl0 := hdrC_len (hk 3)
      have y1 := itC_len (ks.getD 4 default)
      have w1 := kid_len (getD_in (l := ks) (i := 4) (by omega))
      obtain ⟨e, c2⟩ := ToNum_any (itxt (ks.getD 4 default)) (by omega)
      have hl4 := limbs_len (tnum (itxt (ks.getD 4 default)))
      have hs := hs_num ks (i := 3) (x := 4) (set_used (hk 3) _)
      have hle1 : 43 + 1 ≤ (hdrC (hdN ks 3)).length := by omega
      have hok : 3 + 1 ≤ 4 ∧ hdrC (hdN ks 4) = hdrC (hdN ks (3 + 1)) := ⟨by omega, rfl⟩
      clear hE
      exact wk trueW trueW trueW
    ·obtain rfl : i = 4 := by omega
     refine wk ?_ trueW trueW
     refine LC.loop2 (fun j C => [(0, bV b), (2, .p 2 0), (3, .k (.int .i64 ((0 : Nat) : Int))), (4, .p 4 0), (6, .p 6 0), (67, .a [.sb 6 0 32 32, .sb 6 34 8 8, .sb 6 44 32 32, .sb 6 76 32 32, .sb 6 108 32 32, .sb 6 140 32 32, .sb 6 172 32 32]), (68, .k (.int .i64 ((j : Nat) : Int)))]) (fun j C => [(2, .b (zerosH.map Z.v)), (4, .b [.k (.bool true), bV t, .s none (ks.map fun x => V.a (itC x))]), (6, .b C)]) (fun j C => j ≤ 7 ∧ C = hdrC (hdN ks (4 + j))) ((7 - ·)) (0) ((hdrC (hdN ks 4))) ⟨by omega, rfl⟩ ⟨rfl, rfl, rfl, rfl, rfl, rfl, rfl, trivial⟩ ⟨rfl, rfl, rfl, trivial⟩ rfl rfW rfW ?_
     rintro j C ⟨hj, rfl⟩
     by_cases hlt : j < 7
     ·rcases (show j = 0 ∨ j = 1 ∨ j = 2 ∨ j = 3 ∨ j = 4 ∨ j = 5 ∨ j = 6 by omega) with rfl | rfl | rfl | rfl | rfl | rfl | rfl
      ·have hl0 : (hdrC (hdN ks (4 + 0))).length = 204 := hdrC_len (hk 4)
       have y1 := itC_len (ks.getD 0 default)
       have hs : splice (hdrC (hdN ks (4 + 0))) 0 (cpC 32 (itxt (ks.getD 0 default))) = hdrC (hdN ks 5) := set_parent (hk 4) _ rfl
       have hok : 0 + 1 ≤ 7 ∧ hdrC (hdN ks 5) = hdrC (hdN ks (4 + (0 + 1))) := ⟨by omega, rfl⟩
       clear hE
       exact wk trueW trueW trueW
      ·have hl0 : (hdrC (hdN ks (4 + 1))).length = 204 := hdrC_len (hk 5)
       have y1 := itC_len (ks.getD 5 default)
       have hs : splice (hdrC (hdN ks (4 + 1))) 34 (cpC 8 (itxt (ks.getD 5 default))) = hdrC (hdN ks 6) := set_keeper (hk 5) _ rfl
       have hok : 1 + 1 ≤ 7 ∧ hdrC (hdN ks 6) = hdrC (hdN ks (4 + (1 + 1))) := ⟨by omega, rfl⟩
       clear hE
       exact wk trueW trueW trueW
      ·have hl0 : (hdrC (hdN ks (4 + 2))).length = 204 := hdrC_len (hk 6)
       have y1 := itC_len (ks.getD 6 default)
       have hs : splice (hdrC (hdN ks (4 + 2))) 44 (cpC 32 (itxt (ks.getD 6 default))) = hdrC (hdN ks 7) := set_bloom (hk 6) _ rfl
       have hok : 2 + 1 ≤ 7 ∧ hdrC (hdN ks 7) = hdrC (hdN ks (4 + (2 + 1))) := ⟨by omega, rfl⟩
       clear hE
       exact wk trueW trueW trueW
      ·have hl0 : (hdrC (hdN ks (4 + 3))).length = 204 := hdrC_len (hk 7)
       have y1 := itC_len (ks.getD 7 default)
       have hs : splice (hdrC (hdN ks (4 + 3))) 76 (cpC 32 (itxt (ks.getD 7 default))) = hdrC (hdN ks 8) := set_state (hk 7) _ rfl
       have hok : 3 + 1 ≤ 7 ∧ hdrC (hdN ks 8) = hdrC (hdN ks (4 + (3 + 1))) := ⟨by omega, rfl⟩
       clear hE
       exact wk trueW trueW trueW
      ·have hl0 : (hdrC (hdN ks (4 + 4))).length = 204 := hdrC_len (hk 8)
       have y1 := itC_len (ks.getD 8 default)
       have hs : splice (hdrC (hdN ks (4 + 4))) 108 (cpC 32 (itxt (ks.getD 8 default))) = hdrC (hdN ks 9) := set_txs (hk 8) _ rfl
       have hok : 4 + 1 ≤ 7 ∧ hdrC (hdN ks 9) = hdrC (hdN ks (4 + (4 + 1))) := ⟨by omega, rfl⟩
       clear hE
       exact wk trueW trueW trueW
      ·have hl0 : (hdrC (hdN ks (4 + 5))).length = 204 := hdrC_len (hk 9)
       have y1 := itC_len (ks.getD 9 default)
       have hs : splice (hdrC (hdN ks (4 + 5))) 140 (cpC 32 (itxt (ks.getD 9 default))) = hdrC (hdN ks 10) := set_receipts (hk 9) _ rfl
       have hok : 5 + 1 ≤ 7 ∧ hdrC (hdN ks 10) = hdrC (hdN ks (4 + (5 + 1))) := ⟨by omega, rfl⟩
       clear hE
       exact wk trueW trueW trueW
      ·have hl0 : (hdrC (hdN ks (4 + 6))).length = 204 := hdrC_len (hk 10)
       have y1 := itC_len (ks.getD 10 default)
       have hs : splice (hdrC (hdN ks (4 + 6))) 172 (cpC 32 (itxt (ks.getD 10 default))) = hdrC (hdN ks 11) := set_next (hk 10) _ rfl
       have hok : 6 + 1 ≤ 7 ∧ hdrC (hdN ks 11) = hdrC (hdN ks (4 + (6 + 1))) := ⟨by omega, rfl⟩
       clear hE
       exact wk trueW trueW trueW
     ·obtain rfl : j = 7 := by omega
      have hl11 := hdrC_len (hk 11)
      have hle0 : 0 + (hdrC (hdN ks 11)).length ≤ 204 := by omega
      have c6 := Write (hdN ks 11) (hk 11)
      have hbl2 := hdrB_len (hk 11)
      have c7 := EqualB (hdrB (hdN ks 11)) b
      by_cases hq : hdrB (hdN ks 11) = b
      ·rw [if_pos ⟨h4, hq⟩] at hE
       rw [decide_eq_true hq] at c7
       subst hE
       clear hq
       show LC _ _ _ _ _ _ _
       simp only [hdR]
       generalize hdN ks 11 = H at *
       exact wk trueW trueW trueW
      ·rw [if_neg fun q => hq q.2] at hE
       rw [decide_eq_false hq] at c7
       subst hE
       clear hq
       simp only [hdR, zeroH_cells]
       generalize hdN ks 11 = H at *
       exact wk trueW trueW trueW
   ·have hif : (if ks.length = 11 ∧ hdrB (hdAt ks) = b then some (hdAt ks) else none) = none := if_neg fun k => h4 k.1
    simp only [hif]
    show LF _ _ _ (fun _ => .t [.a (hdrC zeroH), .k (.int .i64 1)]) none
    rw [zeroH_cells]
    clear hif
    refine LFx.mk' tt Tryz.func15 rfl rfl rfl (by kernel_rfl) rfl rfl fun F => ?_
    exact wk trueW trueW trueW
end Cb
end Lf
end Go.Proofs.YtpaafpmofhajfaaGreatDoor

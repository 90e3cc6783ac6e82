/- A part of the proof: texts joined. -/
import Derived.Test.YtpaafpmofhajfaaGreatDoorQ190bb184
set_option linter.unusedVariables false
set_option linter.unusedSimpArgs false
namespace Go.Proofs.YtpaafpmofhajfaaGreatDoor
open Go.RowKit Rg Wm Ar
set_option linter.unusedVariables false
set_option maxRecDepth 100000
namespace Lf
open Pk
namespace Cb
def zerosS : List Z := List.replicate 32 (.int .u8) ++ (Z.int .u64 :: Z.int .u64 :: (List.replicate 8 (.int .u8) ++ (Z.int .u64 :: Z.int .u64 :: (List.replicate 160 (.int .u8) ++ [Z.sl, Z.sl]))))
theorem store_b0 : ∃ cs, vfill (fun i => [(0, 204), (204, 1), (205, 1)][i]?) (zerosS.map Z.v) [] = some cs ∧ V.cv.go (fun _ => false) true cs = hx zeroH (sV []) (sV []) := by
 refine ⟨_, rfl, ?_⟩
 rw [hx_eq, hdrC_eq]
 rfl
theorem cv_app (keep : Nat → Bool) (nn : Bool) : ∀ a b : List V, V.cv.go keep nn (a ++ b) = V.cv.go keep nn a ++ V.cv.go keep nn b
 | [], _ => rfl
 | x :: r, b => by rw [List.cons_append, V.cv.go, V.cv.go, cv_app keep nn r b]; rfl
theorem cv_hdrC (keep : Nat → Bool) (nn : Bool) (h : Hdr) : V.cv.go keep nn (hdrC h) = hdrC h := by
 have hb : ∀ (l : List UInt8) (r : List V), V.cv.go keep nn r = r → V.cv.go keep nn (l.map bK ++ r) = l.map bK ++ r := by
  intro l
  induction l with
  | nil => intro r hr; exact hr
  | cons a l ih => intro r hr; rw [List.map_cons, List.cons_append, V.cv.go, ih r hr]; rfl
 have hu : ∀ (n : Nat) (r : List V), V.cv.go keep nn r = r → V.cv.go keep nn (uK n :: r) = uK n :: r := fun n r hr => by
  rw [V.cv.go, hr]; rfl
 have hn : ∀ l : List UInt8, V.cv.go keep nn (l.map bK) = l.map bK := fun l => cv_mapb keep nn l
 rw [hdrC_eq]
 exact hb _ _ (hu _ _ (hu _ _ (hb _ _ (hu _ _ (hu _ _ (hb _ _ (hb _ _ (hb _ _ (hb _ _ (hn _))))))))))
theorem store_b {h : Hdr} (k : h.ok) (l b : List Nat) : ∃ cs, vfill (fun i => [(0, 204), (204, 1), (205, 1)][i]?) (zerosS.map Z.v) [(0, .a (hdrC h)), (1, sV l), (2, sV b)] = some cs ∧ V.cv.go (fun _ => false) true cs = hx h (sV l) (sV b) := by
 have hl := hdrC_len k
 refine ⟨hdrC h ++ [sV l, sV b], ?_, ?_⟩
 ·have hz : (zerosS.map Z.v).length = 206 := rfl
  have e1 : splice (zerosS.map Z.v) 0 (hdrC h) = hdrC h ++ [.nil, .nil] := by
   unfold splice
   rw [List.take_zero, List.nil_append, Nat.zero_add, hl]
   rfl
  have e2 : splice (hdrC h ++ [.nil, .nil]) 204 [sV l] = hdrC h ++ [sV l, .nil] := by
   unfold splice
   rw [List.take_append_of_le_length (by omega), List.take_of_length_le (by omega)]
   have := drop_at hl (b := [V.nil, V.nil]) 1
   rw [show 204 + [sV l].length = 204 + 1 from rfl, this]
   simp
  have e3 : splice (hdrC h ++ [sV l, .nil]) 205 [sV b] = hdrC h ++ [sV l, sV b] := by
   have := hx_set (a := sV l) (b := .nil) (c := sV b) k rfl
   rwa [hx_eq, hx_eq] at this
  have e4 : (V.a (hdrC h)).ok = true := rfl
  have e5 : ∀ l, (sV l).ok = true := fun _ => rfl
  have n1 : (hdrC h ++ [V.nil, V.nil]).length = 206 := by rw [List.length_append, hl]; rfl
  have n2 : (hdrC h ++ [sV l, V.nil]).length = 206 := by rw [List.length_append, hl]; rfl
  simp only [vfill, cells_a, cells_s, List.getElem?_cons_zero, List.getElem?_cons_succ, e1, e2, e3, e4, e5, hl, hz, n1, n2]
  rfl
 ·rw [cv_app, cv_hdrC, hx_eq]
  rfl
theorem enc_pos (a : Itm) : 1 ≤ (enc a).length := by
 have := enc_size' a
 omega
theorem encL_cnt : ∀ ks : List Itm, ks.length ≤ (encL ks).length
 | [] => Nat.zero_le _
 | k :: r => by
  have h1 := enc_pos k
  have h2 := encL_cnt r
  unfold encL
  rw [List.length_append, List.length_cons]
  omega
theorem nrmL_cnt : ∀ ks : List Itm, (nrmL ks).length = ks.length
 | [] => rfl
 | k :: r => by rw [nrmL, List.length_cons, List.length_cons, nrmL_cnt r]
theorem nums_enc : ∀ y : Itm, (numsAt (nrm y)).length ≤ (enc y).length
 | .mk false t ks => by
  rw [nrm]
  exact Nat.zero_le _
 | .mk true t ks => by
  have h := encL_cnt ks
  rw [nrm]
  show ((nrmL ks).map fun x => n64 (itxt x)).length ≤ _
  rw [List.length_map, nrmL_cnt]
  unfold enc
  rw [List.length_append]
  omega
theorem nums_dec {b t : List UInt8} {ks : List Itm} (h : dec b = some (.mk true t ks)) (h3 : ks.length = 3) : (numsAt (ks.getD 1 default)).length + (numsAt (ks.getD 2 default)).length ≤ b.length := by
 have hn := dec_nrm' h
 have hb := dec_uniq h
 match ks, h3 with
 | [x, y, z], _ =>
  rw [nrm] at hn
  injection hn with _ _ e
  simp only [nrmL] at e
  injection e with e1 e
  injection e with e2 e
  injection e with e3 e
  have q1 := nums_enc y
  have q2 := nums_enc z
  rw [e2] at q1
  rw [e3] at q2
  show (numsAt y).length + (numsAt z).length ≤ b.length
  rw [hb]
  unfold enc encL encL encL
  simp only [List.length_append]
  omega
def stR : Option StM → V
 | some s => .t [.a (storeC s), .k (.int .i64 0)]
 | none => .t [.a (storeC zeroS), .k (.int .i64 1)]
theorem kid_size : ∀ {ks : List Itm} {x : Itm}, x ∈ ks → x.size ≤ Itm.sizeL ks
 | [], x, h => by cases h
 | y :: r, x, h => by
  simp only [Itm.sizeL]
  rcases List.mem_cons.1 h with rfl | h
  ·omega
  ·have := kid_size h
   omega
theorem SWriteG (s : StM) (k1 : s.hdr.ok) (k2 : seats64 s.seats) (k3 : seats64 s.next) (hs : s.seats.length + s.next.length < 2000000) : LF Tryz.prog 12 [.a (storeC s)] (fun _ => .s none ((stB s).map bK)) none := SWrite s ⟨k1, k2, k3, by omega, by omega⟩
theorem stB_len {s : StM} (k1 : s.hdr.ok) (k2 : seats64 s.seats) (k3 : seats64 s.next) (hs : s.seats.length + s.next.length < 2000000) : (stB s).length < 300000000 := by
 have h1 := stI_size k1 k2 k3
 have h2 := enc_len (stI s) (by omega)
 unfold stB
 omega
set_option maxHeartbeats 8000000 in
theorem SRead (b : List UInt8) (hb : b.length < 1000000000) (hn : ∀ t ks, dec b = some (.mk true t ks) → Itm.sizeL ks < 100000000 ∧ (ks.length = 3 → (numsAt (ks.getD 1 default)).length + (numsAt (ks.getD 2 default)).length < 2000000)) : LF Tryz.prog 11 [bV b] (fun _ => stR (rdSt b)) none := by
  have hbl : (b.map bK).length = b.length := List.length_map _
  obtain ⟨zc, z2, z3⟩ := store_b0
  have hl0 := hx_len zeroH_ok (sV []) (sV [])
  have hle0 : 0 + (hx zeroH (sV []) (sV [])).length ≤ 206 := by omega
  have hrg := And.intro hx_refsS (And.intro hdrC_refs itC_refs)
  have hrf := itC_refs
  unfold rdSt
  cases hd : dec b with
  | none =>
    have c1 := Pw.Decode_no b (by omega) hd
    show LF _ _ _ (fun _ => .t [.a (hx zeroH (sV []) (sV [])), .k (.int .i64 1)]) none
    clear hd hn
    refine LFx.mk' tt Tryz.func11 rfl rfl rfl (by kernel_rfl) rfl rfl fun F => ?_
    exact wk trueW trueW trueW
  | some k =>
    have hsz := dec_size hd
    have c1 := Pw.Decode_ok b k (by omega) hd
    obtain ⟨lst, t, ks⟩ := k
    simp only [itV, itC_eq] at c1
    simp only [Itm.size] at hsz
    have hkl := kids_len (ks := ks)
    have hkm : (ks.map fun x => V.a (itC x)).length = ks.length := List.length_map _
    have hcv := itC_cv
    have hbr := itC_bare
    have z1 : ∀ e ∈ ks.map (fun x => V.a (itC x)), e.cells.length = 3 := fun e he => by obtain ⟨x, _, rfl⟩ := List.mem_map.1 he; exact itC_len x
    cases lst with
    | false =>
      have h0 := dec_text hd
      subst h0
      show LF _ _ _ (fun _ => .t [.a (hx zeroH (sV []) (sV [])), .k (.int .i64 1)]) none
      clear hd hn
      refine LFx.mk' tt Tryz.func11 rfl rfl rfl (by kernel_rfl) rfl rfl fun F => ?_
      exact wk trueW trueW trueW
    | true =>
      obtain ⟨hszL, hsz3⟩ := hn t ks hd
      clear hd hn
      by_cases h4 : ks.length = 3
      · have hsz2 := hsz3 h4
        clear hsz3
        show LF _ _ _ (fun _ => stR (if ks.length = 3 then
            match rdHd (kt ks 0) with
            | some h => if stB (stAt ks h) = b then some (stAt ks h) else none
            | none => none
          else none)) none
        rw [if_pos h4]
        have ld1 : ∀ {ti : TI} {x : Itm}, ti.d.agg = false → ti.part ((itC x).drop 1) 0 = some (bV (itxt x)) := @it_txt'
        have y0 := itC_len (ks.getD 0 default)
        have y1 := itC_len (ks.getD 1 default)
        have y2 := itC_len (ks.getD 2 default)
        have w0 := kid_len (getD_in (l := ks) (i := 0) (by omega))
        have w1 := kid_size (getD_in (l := ks) (i := 1) (by omega))
        have w2 := kid_size (getD_in (l := ks) (i := 2) (by omega))
        have c2 := Read_ (itxt (ks.getD 0 default)) (by omega)
        have c3 := numbers_ (ks.getD 1 default) (by omega)
        have c4 := numbers_ (ks.getD 2 default) (by omega)
        cases hh : rdHd (kt ks 0) with
        | none =>
          rw [show rdHd (itxt (ks.getD 0 default)) = none from hh] at c2
          have e2 : hdR none = .t [.a (hdrC zeroH), .k (.int .i64 1)] := rfl
          rw [e2] at c2
          show LF _ _ _ (fun _ => .t [.a (hx zeroH (sV []) (sV [])), .k (.int .i64 1)]) none
          have hlh := hdrC_len zeroH_ok
          obtain ⟨cs, b1, b2⟩ := store_b zeroH_ok (numsAt (ks.getD 1 default)) (numsAt (ks.getD 2 default))
          have hl1 := hx_len zeroH_ok (sV (numsAt (ks.getD 1 default))) (sV (numsAt (ks.getD 2 default)))
          clear hh e2
          refine LFx.mk' tt Tryz.func11 rfl rfl rfl (by kernel_rfl) rfl rfl fun F => ?_
          exact wk trueW trueW trueW
        | some h =>
          obtain ⟨hB, hok⟩ := rdHd_back hh
          rw [show rdHd (itxt (ks.getD 0 default)) = some h from hh] at c2
          have e2 : hdR (some h) = .t [.a (hdrC h), .k (.int .i64 0)] := rfl
          rw [e2] at c2
          have hlh := hdrC_len hok
          have s1 := numsAt_lt (ks.getD 1 default)
          have s2 := numsAt_lt (ks.getD 2 default)
          have c5 := SWriteG (stAt ks h) hok s1 s2 hsz2
          have hlb := stB_len (s := stAt ks h) hok s1 s2 hsz2
          have c6 := EqualB (stB (stAt ks h)) b
          obtain ⟨cs, b1, b2⟩ := store_b hok (numsAt (ks.getD 1 default)) (numsAt (ks.getD 2 default))
          have hl1 := hx_len hok (sV (numsAt (ks.getD 1 default))) (sV (numsAt (ks.getD 2 default)))
          have hle1 : 0 + (hx h (sV (numsAt (ks.getD 1 default))) (sV (numsAt (ks.getD 2 default)))).length ≤ 206 := by omega
          show LF _ _ _ (fun _ => stR (if stB (stAt ks h) = b then some (stAt ks h) else none)) none
          by_cases hq : stB (stAt ks h) = b
          · rw [if_pos hq]
            rw [decide_eq_true hq] at c6
            show LF _ _ _ (fun _ => .t [.a (hx h (sV (numsAt (ks.getD 1 default))) (sV (numsAt (ks.getD 2 default)))), .k (.int .i64 0)]) none
            change LF _ _ [.a (hx h (sV (numsAt (ks.getD 1 default))) (sV (numsAt (ks.getD 2 default))))] _ _ at c5
            generalize stB (stAt ks h) = B at *
            clear hh e2 hq hB
            generalize numsAt (ks.getD 1 default) = N1 at *
            generalize numsAt (ks.getD 2 default) = N2 at *
            refine LFx.mk' tt Tryz.func11 rfl rfl rfl (by kernel_rfl) rfl rfl fun F => ?_
            exact wk trueW trueW trueW
          · rw [if_neg hq]
            rw [decide_eq_false hq] at c6
            show LF _ _ _ (fun _ => .t [.a (hx zeroH (sV []) (sV [])), .k (.int .i64 1)]) none
            change LF _ _ [.a (hx h (sV (numsAt (ks.getD 1 default))) (sV (numsAt (ks.getD 2 default))))] _ _ at c5
            generalize stB (stAt ks h) = B at *
            clear hh e2 hq hB
            generalize numsAt (ks.getD 1 default) = N1 at *
            generalize numsAt (ks.getD 2 default) = N2 at *
            refine LFx.mk' tt Tryz.func11 rfl rfl rfl (by kernel_rfl) rfl rfl fun F => ?_
            exact wk trueW trueW trueW
      · have hif : ∀ {α : Type} {x : α} {y : α}, (if ks.length = 3 then x else y) = y := if_neg h4
        show LF _ _ _ (fun _ => stR (if ks.length = 3 then
            match rdHd (kt ks 0) with
            | some h => if stB (stAt ks h) = b then some (stAt ks h) else none
            | none => none
          else none)) none
        rw [if_neg h4]
        show LF _ _ _ (fun _ => .t [.a (hx zeroH (sV []) (sV [])), .k (.int .i64 1)]) none
        clear hif
        refine LFx.mk' tt Tryz.func11 rfl rfl rfl (by kernel_rfl) rfl rfl fun F => ?_
        exact wk trueW trueW trueW
theorem dec_stB {s : StM} (hl : (stB s).length < 2 ^ 64) : dec (stB s) = some (stI s) := by
 have hd : dec (stB s) = some (nrm (stI s)) := dec_enc (a := stI s) hl
 have hn : nrm (stI s) = stI s := by
  simp only [stI, numsI, nrm, nrmL, nrm_num, nrm_bytI]
 rw [hd, hn]
theorem SReadW (s : StM) (k1 : s.hdr.ok) (k2 : seats64 s.seats) (k3 : seats64 s.next) (hs : s.seats.length + s.next.length < 2000000) : LF Tryz.prog 11 [bV (stB s)] (fun _ => .t [.a (storeC s), .k (.int .i64 0)]) none := by
 have hlen := stB_len k1 k2 k3 hs
 have hsz := stI_size k1 k2 k3
 have c := SRead (stB s) (by omega) (fun t ks h => by
  rw [dec_stB (by omega)] at h
  cases h
  refine ⟨?_, fun _ => ?_⟩
  ·simp only [stI, Itm.size, List.length_nil] at hsz
   omega
  ·show (numsAt (numsI s.seats)).length + (numsAt (numsI s.next)).length < 2000000
   rw [numsAt_back k2, numsAt_back k3]
   exact hs)
 rw [rdSt_stB k1 k2 k3 (by omega)] at c
 exact c
theorem SReadA (b : List UInt8) (hb : b.length ≤ 1048576) : LF Tryz.prog 11 [bV b] (fun _ => stR (rdSt b)) none :=
 SRead b (by omega) fun t ks h => by
  have h1 := dec_size h
  simp only [Itm.size] at h1
  exact ⟨by omega, fun h3 => by have := nums_dec h h3; omega⟩
end Cb
end Lf
end Go.Proofs.YtpaafpmofhajfaaGreatDoor

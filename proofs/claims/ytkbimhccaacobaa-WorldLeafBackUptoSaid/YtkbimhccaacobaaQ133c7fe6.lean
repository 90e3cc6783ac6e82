/- A part of the proof: texts joined. -/
import Derived.Test.YtkbimhccaacobaaQ12d74c22
namespace Go.Proofs.Ytkbimhccaacobaa
open Go.RowKit Rg Wm Ar
set_option linter.unusedVariables false
set_option maxRecDepth 100000
namespace Lf
open Tr Ro Pk
def zeroS : Shp := ⟨0, [], [], []⟩
theorem it_lst {ti : TI} {x : Itm} (hd : ti.d.agg = false) : ti.part (itC x) 0 = some (.k (.bool (ilst x))) := by
 obtain ⟨l, t, ks⟩ := x
 rw [itC_eq]
 unfold TI.part
 simp [hd, ilst]
theorem it_txt {ti : TI} {x : Itm} (hd : ti.d.agg = false) : ti.part (itC x) 1 = some (bV (itxt x)) := by
 obtain ⟨l, t, ks⟩ := x
 rw [itC_eq]
 unfold TI.part
 simp [hd, itxt]
theorem it_txt' {ti : TI} {x : Itm} (hd : ti.d.agg = false) : ti.part ((itC x).drop 1) 0 = some (bV (itxt x)) := by
 obtain ⟨l, t, ks⟩ := x
 rw [itC_eq]
 unfold TI.part
 simp [hd, itxt]
theorem any_at {ks : List Itm} {j : Nat} (hj : j < ks.length) (h : ilst (ks.getD j default) = true) : ks.any ilst = true := by
 rw [List.any_eq_true]
 refine ⟨ks.getD j default, ?_, h⟩
 rw [List.getD_eq_getElem?_getD, List.getElem?_eq_getElem hj]
 exact List.getElem_mem hj
theorem any_no {ks : List Itm} (h : ∀ j, j < ks.length → ilst (ks.getD j default) = false) : ks.any ilst = false := by
 rw [List.any_eq_false]
 intro x hx
 obtain ⟨i, hi, e⟩ := List.mem_iff_getElem.1 hx
 have := h i hi
 rw [List.getD_eq_getElem?_getD, List.getElem?_eq_getElem hi, Option.getD_some, e] at this
 rw [this]; decide
theorem take_getD {α : Type} [Inhabited α] {l : List α} {n i : Nat} (h : i < n) : (l.take n).getD i default = l.getD i default := by
 rw [List.getD_eq_getElem?_getD, List.getD_eq_getElem?_getD, List.getElem?_take, if_pos h]
namespace Rw
theorem shV_zero : shV zeroS = .a [.k (.int .i64 0), bV [], bV [], .s none []] := by simp only [shV, shC_eq]; rfl
set_option maxHeartbeats 4000000 in
theorem shape_text (t : List UInt8) (ks : List Itm) (ht : t.length < 1073741824) : LF Try.prog 49 [itV (.mk false t ks)] (fun _ => .t [shV zeroS, .k (.bool (decide (t.length = 0)))]) none := by
 rw [shV_zero]
 simp only [itV, itC_eq]
 by_cases h : t.length = 0
 ·rw [decide_eq_true h]
  refine LFx.mk' tt Try.func49 rfl rfl rfl (by kernel_rfl) rfl rfl fun F => ?_
  exact wk trueW trueW trueW
 ·rw [decide_eq_false h]
  refine LFx.mk' tt Try.func49 rfl rfl rfl (by kernel_rfl) rfl rfl fun F => ?_
  exact wk trueW trueW trueW
set_option maxHeartbeats 4000000 in
theorem shape_in (t : List UInt8) (ks : List Itm) (hn : ks.length < 1073741824) :
  (ks.any ilst = true → LF Try.prog 49 [itV (.mk true t ks)] (fun _ => .t [shV zeroS, .k (.bool false)]) none) ∧
  (ks.any ilst = false → ks.length ≠ 17 → ks.length ≠ 2 → LF Try.prog 49 [itV (.mk true t ks)] (fun _ => .t [shV zeroS, .k (.bool false)]) none) ∧
  (ks.any ilst = false → ks.length = 2 → LF Try.prog 90 [bV (itxt (ks.getD 0 default))] (fun _ => .t [bV [], .k (.bool false), .k (.int .i64 1)]) none → LF Try.prog 49 [itV (.mk true t ks)] (fun _ => .t [shV zeroS, .k (.bool false)]) none) ∧
  (ks.any ilst = false → ks.length = 2 → ∀ q, LF Try.prog 90 [bV (itxt (ks.getD 0 default))] (fun _ => .t [bV q, .k (.bool true), .k (.int .i64 0)]) none → LF Try.prog 49 [itV (.mk true t ks)] (fun _ => .t [shV ⟨1, q, itxt (ks.getD 1 default), []⟩, .k (.bool true)]) none) ∧
  (ks.any ilst = false → ks.length = 2 → ∀ q, LF Try.prog 90 [bV (itxt (ks.getD 0 default))] (fun _ => .t [bV q, .k (.bool false), .k (.int .i64 0)]) none → LF Try.prog 49 [itV (.mk true t ks)] (fun _ => .t [shV ⟨2, q, [], [itxt (ks.getD 1 default)]⟩, .k (.bool true)]) none) ∧
  (ks.any ilst = false → ks.length = 17 → LF Try.prog 49 [itV (.mk true t ks)] (fun _ => .t [shV ⟨3, [], itxt (ks.getD 16 default), (ks.take 16).map itxt⟩, .k (.bool true)]) none) := by
 rw [shV_zero]
 simp only [itV, itC_eq, shV, shC_eq]
 have hrf := itC_refs
 have hcv := itC_cv
 have hbr := itC_bare
 have z1 : ∀ e ∈ ks.map (fun x => V.a (itC x)), e.cells.length = 3 := fun e he => by obtain ⟨x, _, rfl⟩ := List.mem_map.1 he; exact itC_len x
 refine ⟨fun ha => ?_, fun ha h17 h2 => ?_, fun ha h2 c1 => ?_, fun ha h2 q c1 => ?_, fun ha h2 q c1 => ?_, fun ha h17 => ?_⟩
 ·refine LFx.mk' tt Try.func49 rfl rfl rfl (by kernel_rfl) rfl rfl fun F => ?_
  refine wk ?_ trueW trueW
  refine LC.loopN (fun i => [(1, .p 1 0), (2, .p 2 0), (20, .s none (ks.map fun x => V.a (itC x))), (21, .k (.int .i64 ((ks.length : Nat) : Int))), (22, .k (.int .i64 ((i : Nat) : Int)))]) (fun i => [(1, .b [.k (.bool true), bV t, .s none (ks.map fun x => V.a (itC x))]), (2, .b [.k (.int .i64 0), .nil, .nil, .nil])]) (fun i => i ≤ ks.length ∧ ∀ j, j < i → ilst (ks.getD j default) = false) ((ks.length - ·)) (0) ⟨by omega, fun j hj => by omega⟩ ⟨rfl, rfl, rfl, rfl, rfl, trivial⟩ ⟨rfl, rfl, trivial⟩ rfl rfW rfW ?_
  rintro i ⟨hi, hall⟩
  rcases Nat.lt_or_ge i ks.length with h | h
  ·have ld1 : ∀ {ti : TI}, ti.d.agg = false → ti.part (itC (ks.getD i default)) 0 = some (.k (.bool (ilst (ks.getD i default)))) := it_lst
   have hk3 := itC_len (ks.getD i default)
   cases hl : ilst (ks.getD i default) with
   | true =>
    rw [hl] at ld1
    clear ha hall hl
    exact wk trueW trueW trueW
   | false =>
    rw [hl] at ld1
    have hok : i + 1 ≤ ks.length ∧ ∀ j, j < i + 1 → ilst (ks.getD j default) = false := ⟨h, fun j hj => by
     by_cases e : j = i
     ·subst e; exact hl
     ·exact hall j (by omega)⟩
    clear ha hall hl
    exact wk trueW trueW trueW
  ·have := any_no (ks := ks) fun j hj => hall j (by omega)
   rw [ha] at this; cases this
 all_goals
  have hno : ∀ j, j < ks.length → ilst (ks.getD j default) = false := fun j hj => by
   cases hl : ilst (ks.getD j default) with
   | false => rfl
   | true => rw [any_at hj hl] at ha; cases ha
  clear ha
  refine LFx.mk' tt Try.func49 rfl rfl rfl (by kernel_rfl) rfl rfl fun F => ?_
  refine wk ?_ trueW trueW
  refine LC.loopN (fun i => [(1, .p 1 0), (2, .p 2 0), (20, .s none (ks.map fun x => V.a (itC x))), (21, .k (.int .i64 ((ks.length : Nat) : Int))), (22, .k (.int .i64 ((i : Nat) : Int)))]) (fun i => [(1, .b [.k (.bool true), bV t, .s none (ks.map fun x => V.a (itC x))]), (2, .b [.k (.int .i64 0), .nil, .nil, .nil])]) (fun i => i ≤ ks.length) ((ks.length - ·)) (0) (by omega) ⟨rfl, rfl, rfl, rfl, rfl, trivial⟩ ⟨rfl, rfl, trivial⟩ rfl rfW rfW ?_
  intro i hi
  rcases Nat.lt_or_ge i ks.length with h | h
  ·have ld1 : ∀ {ti : TI}, ti.d.agg = false → ti.part (itC (ks.getD i default)) 0 = some (.k (.bool (ilst (ks.getD i default)))) := it_lst
   have hk3 := itC_len (ks.getD i default)
   rw [hno i h] at ld1
   have hok : i + 1 ≤ ks.length := h
   clear hno
   exact wk trueW trueW trueW
  obtain rfl : i = ks.length := by omega
  clear hno
 ·exact wk trueW trueW trueW
 ·have ld3 := @it_txt'
  have hk3 := itC_len (ks.getD 0 default)
  exact wk trueW trueW trueW
 ·have ld3 := @it_txt'
  have hk3 := itC_len (ks.getD 0 default)
  have hk4 := itC_len (ks.getD 1 default)
  exact wk trueW trueW trueW
 ·have ld3 := @it_txt'
  have hk3 := itC_len (ks.getD 0 default)
  have hk4 := itC_len (ks.getD 1 default)
  exact wk trueW trueW trueW
 ·have ld3 := @it_txt'
  have hk3 := itC_len (ks.getD 16 default)
  refine wk ?_ trueW trueW
  refine LC.nilcell 2 3 61 22 1 rfl rfl rfl (by decide) rfl ?_
  refine LC.loop2 (fun j R => [(2, .p 2 0), (45, .s none ((ks.take 16).map fun x => V.a (itC x))), (46, .k (.int .i64 (((ks.take 16).length : Nat) : Int))), (47, .k (.int .i64 ((j : Nat) : Int)))]) (fun j R => [(2, .b [.k (.int .i64 3), .nil, bV (itxt (ks.getD 16 default)), .s (some 61) (R.map bV)]), (61, .r 22 1 R.length)]) (fun j R => j ≤ 16 ∧ R = ((ks.take 16).take j).map itxt) ((16 - ·)) (0) ([]) ⟨by omega, rfl⟩ ⟨rfl, rfl, rfl, rfl, trivial⟩ ⟨rfl, rfl, trivial⟩ rfl rfW rfW ?_
  rintro j R ⟨hj, hR⟩
  have hlt : (ks.take 16).length = 16 := by rw [List.length_take]; omega
  have hRl : R.length = j := by rw [hR, List.length_map, List.length_take]; omega
  generalize ks.take 16 = L at *
  have z2 : ∀ e ∈ L.map (fun x => V.a (itC x)), e.cells.length = 3 := fun e he => by obtain ⟨x, _, rfl⟩ := List.mem_map.1 he; exact itC_len x
  rcases Nat.lt_or_ge j 16 with h | h
  ·have ld1 : ∀ {ti : TI}, ti.d.agg = false → ti.part (itC (L.getD j default)) 1 = some (bV (itxt (L.getD j default))) := it_txt
   have hk5 := itC_len (L.getD j default)
   have hok : j + 1 ≤ 16 ∧ R ++ [itxt (L.getD j default)] = (L.take (j + 1)).map itxt := ⟨h, by rw [hR]; exact take_map (by omega)⟩
   clear hR ld3 z1 hk3
   exact wk trueW trueW trueW
  ·obtain rfl : j = 16 := by omega
   rw [List.take_of_length_le (by omega)] at hR
   subst hR
   clear ld3 z1 hk3
   exact wk trueW trueW trueW
end Rw
end Lf
open Go.RowKit Rg Wm Ar
set_option linter.unusedVariables false
set_option maxRecDepth 100000
namespace Ro
open Tr Pk
theorem head_pos' (b n : Nat) : 1 ≤ (Pk.head b n).length := by unfold Pk.head; split <;> simp
mutual
theorem enc_size' : ∀ a, (nrm a).size + 1 ≤ 3 * (enc a).length
 | .mk false t ks => by
  unfold enc
  simp only [nrm, Itm.size, Itm.sizeL]
  split
  ·rename_i h; omega
  ·have := head_pos' 128 t.length; simp only [List.length_append]; omega
 | .mk true t ks => by
  have h := encL_size' ks
  have := head_pos' 192 (encL ks).length
  unfold enc
  simp only [nrm, Itm.size, List.length_append, List.length_nil]
  omega
theorem encL_size' : ∀ a, Itm.sizeL (nrmL a) ≤ 3 * (encL a).length
 | [] => by simp [nrmL, Itm.sizeL]
 | k :: r => by
  have h1 := enc_size' k
  have h2 := encL_size' r
  unfold encL
  simp only [nrmL, Itm.sizeL, List.length_append]
  omega
end
theorem dec_size {code : List UInt8} {it : Itm} (h : dec code = some it) : it.size ≤ 3 * code.length := by
 have h1 := enc_size' it
 rw [dec_nrm' h, ← dec_uniq h] at h1
 omega
theorem itxt_le (it : Itm) : (itxt it).length < it.size := by
 obtain ⟨l, t, ks⟩ := it
 rw [Itm.size]
 show t.length < _
 omega
end Ro
namespace Lf
open Tr Ro Pk
theorem kid_txt {t : List UInt8} {ks : List Itm} {l : Bool} {i : Nat} (h : i < ks.length) : (itxt (ks.getD i default)).length < (Itm.mk l t ks).size := by
 rw [Itm.size]
 have h1 := itxt_le (ks.getD i default)
 have h2 := sizeL_mem (ks := ks) (k := ks.getD i default) (by rw [List.getD_eq_getElem?_getD, List.getElem?_eq_getElem h]; exact List.getElem_mem h)
 omega
theorem sizeL_len' (ks : List Itm) : ks.length ≤ Itm.sizeL ks := by
 induction ks with
 | nil => simp
 | cons a r ih => rw [Itm.sizeL, List.length_cons]; omega
namespace Rw
theorem shape_ (it : Itm) (hs : it.size < 100000000) : LF Try.prog 49 [itV it] (fun _ => .t [shV ((shpI it).getD zeroS), .k (.bool (shpI it).isSome)]) none := by
 obtain ⟨l, t, ks⟩ := it
 have hs2 := hs
 rw [Itm.size] at hs2
 have hkl := sizeL_len' ks
 cases l with
 | false =>
  have c := shape_text t ks (by omega)
  unfold shpI
  rw [if_pos (show ilst (.mk false t ks) = false from rfl)]
  by_cases h : t.length = 0
  ·rw [decide_eq_true h] at c
   rw [if_pos (show (itxt (.mk false t ks)).length = 0 from h)]
   exact c
  ·rw [decide_eq_false h] at c
   rw [if_neg (show ¬ (itxt (.mk false t ks)).length = 0 from h)]
   exact c
 | true =>
  obtain ⟨k1, k2, k3, k4, k5, k6⟩ := shape_in t ks (by omega)
  unfold shpI
  rw [if_neg (show ¬ ilst (.mk true t ks) = false from fun h => Bool.noConfusion h)]
  rw [show ikds (.mk true t ks) = ks from rfl]
  by_cases ha : ks.any ilst = true
  ·rw [if_pos ha]; exact k1 ha
  ·rw [if_neg ha]
   rw [Bool.not_eq_true] at ha
   by_cases h17 : ks.length = 17
   ·rw [if_pos h17]; exact k6 ha h17
   ·rw [if_neg h17]
    by_cases h2 : ks.length = 2
    ·rw [if_pos h2]
     obtain ⟨u1, u2⟩ := Te.Untag_ (itxt (ks.getD 0 default)) (by have := kid_txt (t := t) (l := true) (ks := ks) (i := 0) (by omega); omega)
     cases hu : untag (itxt (ks.getD 0 default)) with
     | none => exact k3 ha h2 (u1 hu)
     | some x =>
      obtain ⟨q, leaf⟩ := x
      have c := u2 q leaf hu
      cases leaf with
      | true => exact k4 ha h2 _ c
      | false => exact k5 ha h2 _ c
    ·rw [if_neg h2]; exact k2 ha h17 h2
theorem shp_bound {it : Itm} {s : Shp} (h : shpI it = some s) : s.path.length ≤ 2 * it.size ∧ s.value.length ≤ it.size ∧ s.kids.length ≤ it.size := by
 obtain ⟨l, t, ks⟩ := it
 have hkl := sizeL_len' ks
 have hks : ks.length ≤ (Itm.mk l t ks).size := by rw [Itm.size]; omega
 unfold shpI at h
 split at h
 ·split at h
  ·cases h; exact ⟨Nat.zero_le _, Nat.zero_le _, Nat.zero_le _⟩
  ·cases h
 ·rw [show ikds (.mk l t ks) = ks from rfl] at h
  split at h
  ·cases h
  ·split at h
   ·rename_i h17
    cases h
    have := kid_txt (t := t) (l := l) (ks := ks) (i := 16) (by omega)
    refine ⟨Nat.zero_le _, by show (itxt _).length ≤ _; omega, ?_⟩
    show ((ks.take 16).map itxt).length ≤ _
    rw [List.length_map, List.length_take]; omega
   ·split at h
    ·rename_i h2
     have h0 := kid_txt (t := t) (l := l) (ks := ks) (i := 0) (by omega)
     have h1 := kid_txt (t := t) (l := l) (ks := ks) (i := 1) (by omega)
     cases hu : untag (itxt (ks.getD 0 default)) with
     | none => rw [hu] at h; cases h
     | some x =>
      obtain ⟨q, leaf⟩ := x
      have ht := congrArg List.length (tag_untag hu)
      have hq : q.length ≤ 2 * (itxt (ks.getD 0 default)).length := by
       have h3 := keyP_len (tag q leaf)
       rw [keyP_tag] at h3
       have h4 : q.length + 1 ≤ (tagPa q leaf).length := by unfold tagPa; split <;> simp
       omega
      rw [hu] at h
      cases leaf with
      | true => cases h; exact ⟨by rw [pB_len]; omega, by show (itxt _).length ≤ _; omega, Nat.zero_le _⟩
      | false => cases h; exact ⟨by rw [pB_len]; omega, Nat.zero_le _, by show 1 ≤ _; rw [Itm.size]; omega⟩
    ·cases h
set_option maxHeartbeats 4000000 in
theorem Read_ (code : List UInt8) (hl : code.length < 3000000) : (readS code = none → LF Try.prog 17 [bV code] (fun _ => .t [shV zeroS, .k (.int .i64 1)]) none) ∧
  ∀ s, readS code = some s → LF Try.prog 17 [bV code] (fun _ => .t [shV s, .k (.int .i64 0)]) none := by
 have hrf := itC_refs
 have hrg := shC_refs
 cases hd : dec code with
 | none =>
  have c1 := Pw.Decode_no code (by omega) hd
  have e : readS code = none := by unfold readS; rw [hd]
  rw [e]
  refine ⟨fun _ => ?_, fun s h => by cases h⟩
  rw [shV_zero]
  clear hd e
  refine LFx.mk' tt Try.func17 rfl rfl rfl (by kernel_rfl) rfl rfl fun F => ?_
  exact wk trueW trueW trueW
 | some it =>
  have c1 := Pw.Decode_ok code it (by omega) hd
  have hsz := dec_size hd
  have c2 := shape_ it (by omega)
  have hk3 := itC_len it
  cases hs : shpI it with
  | none =>
   have e : readS code = none := by unfold readS; rw [hd]; simp only []; rw [hs]
   rw [e]
   refine ⟨fun _ => ?_, fun s h => by cases h⟩
   rw [hs] at c2
   replace c2 : LF Try.prog 49 [itV it] (fun _ => .t [shV zeroS, .k (.bool false)]) none := c2
   rw [shV_zero] at c2 ⊢
   clear hd e hs hrg
   refine LFx.mk' tt Try.func17 rfl rfl rfl (by kernel_rfl) rfl rfl fun F => ?_
   exact wk trueW trueW trueW
  | some s =>
   rw [hs] at c2
   replace c2 : LF Try.prog 49 [itV it] (fun _ => .t [shV s, .k (.bool true)]) none := c2
   obtain ⟨b1, b2, b3⟩ := shp_bound hs
   obtain ⟨it2, c3, _⟩ := item_ s (by omega) (by omega) (by omega)
   have hk4 := itC_len it2
   have hk5 := shC_len s
   have hk6 := shC_len zeroS
   have e : readS code = if (itmS s).isSome = true then some s else none := by unfold readS; rw [hd]; simp only []; rw [hs]
   rw [e]
   cases hi : (itmS s).isSome with
   | false =>
    rw [hi] at c3
    refine ⟨fun _ => ?_, fun s h => by cases h⟩
    clear hd e hs hi
    rw [shV_zero]
    have hrf : ∀ m, (∀ x, V.refs.go m (itC x) = true) ∧ ∀ s, V.refs.go m (shC s) = true := fun m => ⟨itC_refs m, shC_refs m⟩
    refine LFx.mk' tt Try.func17 rfl rfl rfl (by kernel_rfl) rfl rfl fun F => ?_
    exact wk trueW trueW trueW
   | true =>
    rw [hi] at c3
    refine ⟨fun h => (by cases h), fun s' h => ?_⟩
    cases h
    clear hd e hs hi
    have hrf : ∀ m, (∀ x, V.refs.go m (itC x) = true) ∧ ∀ s, V.refs.go m (shC s) = true := fun m => ⟨itC_refs m, shC_refs m⟩
    have hcv : ∀ keep nn, (∀ x, V.cv.go keep nn (itC x) = itC x) ∧ ∀ s, V.cv.go keep nn (shC s) = shC s := fun keep nn => ⟨fun x => itC_cv x keep nn, fun s => shC_cv s keep nn⟩
    refine LFx.mk' tt Try.func17 rfl rfl rfl (by kernel_rfl) rfl rfl fun F => ?_
    exact wk trueW trueW trueW
end Rw
end Lf
end Go.Proofs.Ytkbimhccaacobaa

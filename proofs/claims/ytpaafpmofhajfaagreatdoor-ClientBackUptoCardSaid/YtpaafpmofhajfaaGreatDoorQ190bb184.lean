/- A part of the proof: texts joined. -/
import Derived.Test.YtpaafpmofhajfaaGreatDoorQ18193803
set_option linter.unusedVariables false
set_option linter.unusedSimpArgs false
namespace Go.Proofs.YtpaafpmofhajfaaGreatDoor
open Go.RowKit Rg Wm Ar
set_option linter.unusedVariables false
set_option maxRecDepth 100000
namespace Lf
open Pk
namespace Cb
theorem List0 : LF Tryz.prog 23 [.nil] (fun _ => .a [.k (.bool true), .nil, .nil]) none := by
 refine LFx.mk' tt Tryz.func23 rfl rfl rfl (by kernel_rfl) rfl rfl fun F => ?_
 exact wk trueW trueW trueW
theorem getD64 {l : List Nat} (hl : seats64 l) {i : Nat} (h : i < l.length) : l.getD i default < 18446744073709551616 := hl _ (getD_in h)
set_option maxHeartbeats 4000000 in
theorem list_ (l : List Nat) (hl : seats64 l) (hn : l.length < 2000000) : LF Tryz.prog 30 [.s none (l.map uK)] (fun _ => itV (numsI l)) none := by
 have c1 := List0
 unfold numsI
 simp only [itV, itC_eq]
 refine LFx.mk' tt Tryz.func30 rfl rfl rfl (by kernel_rfl) rfl rfl fun F => ?_
 refine wk ?_ trueW trueW
 refine LC.nilcell 3 2 60 69 3 rfl rfl rfl (by decide) rfl ?_
 refine LC.loop2 (fun i S => [(2, .p 2 0), (3, .p 3 0), (7, .s none (l.map uK)), (8, .k (.int .i64 ((l.length : Nat) : Int))), (9, .k (.int .i64 ((i : Nat) : Int)))]) (fun i S => [(2, .b [.k (.bool false), .nil, .nil]), (3, .b [.k (.bool true), .nil, .s (some 60) (S.map itV)]), (60, .r 69 3 S.length)]) (fun i S => i ≤ l.length ∧ S = (l.take i).map fun s => bytI (numL s)) ((l.length - ·)) (0) ([]) ⟨by omega, rfl⟩ ⟨rfl, rfl, rfl, rfl, rfl, trivial⟩ ⟨rfl, rfl, rfl, trivial⟩ rfl rfW rfW ?_
 rintro i S ⟨hi, hS⟩
 have hSl : S.length = i := by rw [hS, List.length_map, List.length_take]; omega
 have z1 : ∀ e ∈ S.map itV, e.cells.length = 3 := fun e he => by obtain ⟨x, _, rfl⟩ := List.mem_map.1 he; exact itC_len x
 by_cases h : i < l.length
 ·have hs := getD64 hl h
  have c2 := Wo.IntW (l.getD i default) hs
  have c3 := Pw.Num (l.getD i default)
  rw [mod256 hs] at c3
  have c4 := Text (numL (l.getD i default))
  have hok : i + 1 ≤ l.length ∧ S ++ [bytI (numL (l.getD i default))] = (l.take (i + 1)).map fun s => bytI (numL s) := ⟨h, by rw [hS]; exact map_take h⟩
  unfold bytI at hok
  have z2 := itC_len (.mk false (numL (l.getD i default)) [])
  have hrf := itC_refs
  have hbr := itC_bare
  clear hS
  generalize numL (l.getD i default) = t at *
  exact wk trueW trueW trueW
 ·have hS' : S = l.map fun s => bytI (numL s) := by rw [hS, List.take_of_length_le (by omega)]
  subst hS'
  clear hS
  exact wk trueW trueW trueW
set_option maxHeartbeats 4000000 in
theorem SWrite (s : StM) (k : s.ok) : LF Tryz.prog 12 [.a (storeC s)] (fun _ => .s none ((stB s).map bK)) none := by
 have kh := k.hdr
 have hsz := stI_size kh k.seats k.next
 have hsl := k.sl
 have hnl := k.nl
 have cE := Pw.Encode (3400 + 10 * s.seats.length + 10 * s.next.length) (stI s) hsz (by omega)
 unfold stB
 unfold stI at *
 generalize ho : enc _ = out at *
 simp only [itV, itC_eq] at cE
 clear ho hsz
 have ld1 := @hx_a
 have ld2 := @hx_b
 have ld3 := @hx_h
 have hls := hx_len kh (sV s.seats) (sV s.next)
 have hrf := hx_refsS
 have hrh := And.intro hdrC_refs itC_refs
 have hrg := hrh
 have hbr := itC_bare
 have c1 := Write s.hdr kh
 have c2 := Text (hdrB s.hdr)
 have c3 := list_ s.seats k.seats hsl
 have c4 := list_ s.next k.next hnl
 have c5 := ListR [bytI (hdrB s.hdr), numsI s.seats, numsI s.next]
 have c6 := cE
 have y1 := itC_len (bytI (hdrB s.hdr))
 have y2 := itC_len (numsI s.seats)
 have y3 := itC_len (numsI s.next)
 have hhl := hdrC_len kh
 refine LFx.mk' tt Tryz.func12 rfl rfl rfl (by kernel_rfl) rfl rfl fun F => ?_
 exact wk trueW trueW trueW
set_option maxHeartbeats 4000000 in
theorem numbers_ (k : Itm) (hs : k.size < 100000000) : LF Tryz.prog 29 [itV k] (fun _ => .s none ((numsAt k).map uK)) none := by
 obtain ⟨l, t, ks⟩ := k
 simp only [itV, itC_eq]
 simp only [Itm.size] at hs
 have hkl := kids_len (ks := ks)
 have e0 : numsAt (.mk l t ks) = ks.map fun x => n64 (itxt x) := rfl
 rw [e0]
 have hkm : (ks.map fun x => V.a (itC x)).length = ks.length := List.length_map _
 have z1 : ∀ e ∈ ks.map (fun x => V.a (itC x)), e.cells.length = 3 := fun e he => by obtain ⟨x, _, rfl⟩ := List.mem_map.1 he; exact itC_len x
 have hrf := itC_refs
 have hcv := itC_cv
 have hbr := itC_bare
 refine LFx.mk' tt Tryz.func29 rfl rfl rfl (by kernel_rfl) rfl rfl fun F => ?_
 refine wk ?_ trueW trueW
 refine LC.nilrow 3 60 24 1 rfl rfl rfl ?_
 refine LC.loop2 (fun i S => [(3, .s (some 60) (S.map uK)), (9, .s none (ks.map fun x => V.a (itC x))), (10, .k (.int .i64 ((ks.length : Nat) : Int))), (11, .k (.int .i64 ((i : Nat) : Int)))]) (fun i S => [(60, .r 24 1 S.length)]) (fun i S => i ≤ ks.length ∧ S = (ks.take i).map fun x => n64 (itxt x)) ((ks.length - ·)) (0) ([]) ⟨by omega, rfl⟩ ⟨rfl, rfl, rfl, rfl, trivial⟩ ⟨rfl, trivial⟩ rfl rfW rfW ?_
 rintro i S ⟨hi, hS⟩
 have hSl : S.length = i := by rw [hS, List.length_map, List.length_take]; omega
 by_cases h : i < ks.length
 ·have ld1 : ∀ {ti : TI} {x : Itm}, ti.d.agg = false → ti.part ((itC x).drop 1) 0 = some (bV (itxt x)) := @it_txt'
  have ld2 : ∀ {ti : TI} {x : Itm}, ti.d.agg = false → ti.part (itC x) 1 = some (bV (itxt x)) := @it_txt
  have y1 := itC_len (ks.getD i default)
  have w1 := kid_len (getD_in (l := ks) h)
  obtain ⟨e, c2⟩ := ToNum_any (itxt (ks.getD i default)) (by omega)
  have hl4 := limbs_len (tnum (itxt (ks.getD i default)))
  have hok : i + 1 ≤ ks.length ∧ S ++ [(limbs (tnum (itxt (ks.getD i default)))).getD 0 default] = (ks.take (i + 1)).map fun x => n64 (itxt x) := ⟨h, by rw [hS, limb0]; exact map_take h⟩
  clear hS
  exact wk trueW trueW trueW
 ·have hS' : S = ks.map fun x => n64 (itxt x) := by rw [hS, List.take_of_length_le (by omega)]
  subst hS'
  clear hS
  exact wk trueW trueW trueW
end Cb
end Lf
end Go.Proofs.YtpaafpmofhajfaaGreatDoor

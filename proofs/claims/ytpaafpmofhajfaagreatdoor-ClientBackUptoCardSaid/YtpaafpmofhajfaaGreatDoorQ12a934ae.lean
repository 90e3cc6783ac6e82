/- A part of the proof: texts joined. -/
import Derived.Test.YtpaafpmofhajfaaGreatDoorQ11561bcd
set_option linter.unusedVariables false
set_option linter.unusedSimpArgs false
namespace Go.Proofs.YtpaafpmofhajfaaGreatDoor
open Go.RowKit Rg Wm Ar
set_option linter.unusedVariables false
set_option maxRecDepth 100000
namespace Lf
open Pk
theorem item_b2 (t : List UInt8) (o : Option Nat) : ∃ cs, vfill (fun i => [(0, 1), (1, 1), (2, 1)][i]?) ([Z.bool, Z.sl, Z.sl].map Z.v) [(1, .s o (t.map bK))] = some cs ∧ V.cv.go (fun _ => false) true cs = itC (.mk false t []) := by
 refine ⟨[.k (.bool false), .s o (t.map bK), .nil], rfl, ?_⟩
 rw [itC_eq]
 cases o <;> rfl
theorem numL64 {s : Nat} (h : s < 18446744073709551616) : (numL s).length ≤ 8 := numL_len (by simpa using h)
theorem mod256 {s : Nat} (h : s < 18446744073709551616) : s % M256 = s := Nat.mod_eq_of_lt (by unfold M256 m64; omega)
theorem take_get {α : Type} [Inhabited α] {l : List α} {t : Nat} (h : t < l.length) : l.take (t + 1) = l.take t ++ [l.getD t default] := by
 rw [List.take_succ_eq_append_getElem h, List.getD_eq_getElem?_getD, List.getElem?_eq_getElem h]; rfl
theorem map_take {α β : Type} [Inhabited α] {f : α → β} {l : List α} {i : Nat} (h : i < l.length) : (l.take i).map f ++ [f (l.getD i default)] = (l.take (i + 1)).map f := by
 rw [take_get h, List.map_append]; rfl
theorem hdrKs_len {h : Hdr} (k : h.ok) : ∀ l ∈ hdrKs h, l.length ≤ 32 := by
 intro l hl
 have h1 := numL64 k.number
 have h2 := numL64 k.time
 have h3 := numL64 k.limit
 have h4 := numL64 k.used
 have h5 := k.parent
 have h6 := k.keeper
 have h7 := k.bloom
 have h8 := k.state
 have h9 := k.txs
 have h10 := k.receipts
 have h11 := k.next
 simp only [hdrKs, List.mem_cons, List.not_mem_nil, or_false] at hl
 rcases hl with rfl | rfl | rfl | rfl | rfl | rfl | rfl | rfl | rfl | rfl | rfl <;> omega
theorem sizeL_byt : ∀ {l : List (List UInt8)}, (∀ x ∈ l, x.length ≤ 32) → Itm.sizeL (l.map bytI) ≤ 34 * l.length
 | [], _ => by simp [Itm.sizeL]
 | s :: r, h => by
  have h1 := h s (by simp)
  have h2 := sizeL_byt (l := r) fun x hx => h x (by simp [hx])
  have h3 : (bytI s).size = 1 + s.length := by unfold bytI; simp [Itm.size, Itm.sizeL]
  simp only [List.map_cons, Itm.sizeL, List.length_cons]
  omega
theorem hdrI_size {h : Hdr} (k : h.ok) : (hdrI h).size ≤ 375 := by
 have h1 := sizeL_byt (hdrKs_len k)
 have h2 : (hdrKs h).length = 11 := rfl
 rw [h2] at h1
 unfold hdrI
 simp only [Itm.size, List.length_nil]
 omega
theorem hdrB_len {h : Hdr} (k : h.ok) : (hdrB h).length ≤ 3375 := by
 have h1 := hdrI_size k
 have h2 := enc_len (hdrI h) (by omega)
 unfold hdrB
 omega
theorem refs_mapbV (m : List (Nat × M)) : ∀ l : List (List UInt8), V.refs.go m (l.map bV) = true
 | [] => rfl
 | x :: r => by rw [List.map_cons, V.refs.go, refs_mapbV m r]; rfl
namespace Cb
theorem Text (t : List UInt8) : LF Tryz.prog 24 [.s none (t.map bK)] (fun _ => itV (.mk false t [])) none := by
 obtain ⟨cs, b1, b2⟩ := item_b2 t none
 have hl := itC_len (.mk false t [])
 have hle : 0 + (itC (.mk false t [])).length ≤ 3 := by omega
 have hrf := itC_refs
 refine LFx.mk' tt Tryz.func24 rfl rfl rfl (by kernel_rfl) rfl rfl fun F => ?_
 exact wk trueW trueW trueW
theorem ListR0 (ks : List Itm) : LM Tryz.prog 23 [.s (some 1000) (ks.map itV)] [(1000, .r 69 3 ks.length)] fun o m => o = .ret (.a [.k (.bool true), .nil, .s (some 1000) (ks.map itV)]) ∧ m = [(1000, .r 69 3 ks.length)] := by
 refine LM.enter tt Tryz.func23 rfl rfl rfl (by kernel_rfl) rfl rfl rfl (fun o mo h => by rw [h.2]; rfl) fun F _ => ?_
 exact wk trueW trueW trueW
theorem ListR (ks : List Itm) (k : Nat) : LM Tryz.prog 23 [.s (some k) (ks.map itV)] [(k, .r 69 3 ks.length)] fun o m => o = .ret (.a [.k (.bool true), .nil, .s (some k) (ks.map itV)]) ∧ m = [(k, .r 69 3 ks.length)] :=
 LM.gen [1000] [k] (by simp) (by simp) rfl (ListR0 ks) fun ρ hρ => by
  simp at hρ
  refine ⟨?_, ?_, ?_, ?_⟩
  ·simp [V.ren, hρ]
  ·simp [Mem.ren, M.ren, hρ]
  ·simp only [Out.ren, V.ren, V.ren.go, hρ]
  ·simp [Mem.ren, M.ren, hρ]
set_option maxHeartbeats 4000000 in
theorem Write (h : Hdr) (k : h.ok) : LF Tryz.prog 16 [.a (hdrC h)] (fun _ => .s none ((hdrB h).map bK)) none := by
  have cE := Pw.Encode 375 (hdrI h) (hdrI_size k) (by omega)
  unfold hdrB
  unfold hdrI at *
  generalize ho : enc (.mk true [] ((hdrKs h).map bytI)) = out at *
  simp only [itV, itC_eq] at cE
  clear ho
  have c1 := ListR [bytI h.parent]
  have c2 := Text h.parent
  have hfb : FrzBox 1 1 := ⟨⟩
  have hbare := hdrC_bare h
  have hl := hdrC_len k
  have q1 := hqP k
  have z2 := itC_len (bytI h.parent)
  have hrf := itC_refs
  have hbr := itC_bare
  have kn := numL64 k.number
  unfold bytI at c1 z2
  have q2 := hqK k
  have q3 := hqB k
  have q4 := hqS k
  have q5 := hqT k
  have q6 := hqR k
  have q7 := hqN k
  have ld1 : ∀ {ti : TI}, ti.d.agg = false → ti.part ((hdrC h).drop 32) 0 = some (uK h.number) := fun hd => part_num hd (hd32 k 0)
  have ld2 : ∀ {ti : TI}, ti.d.agg = false → ti.part ((hdrC h).drop 33) 0 = some (uK h.time) := fun hd => part_num hd (hd32 k 1)
  have ld3 : ∀ {ti : TI}, ti.d.agg = false → ti.part ((hdrC h).drop 42) 0 = some (uK h.limit) := fun hd => part_num hd (hd42 k 0)
  have ld4 : ∀ {ti : TI}, ti.d.agg = false → ti.part ((hdrC h).drop 43) 0 = some (uK h.used) := fun hd => part_num hd (hd42 k 1)
  have hkl : (hdrKs h).length = 11 := rfl
  refine LFx.mk' tt Tryz.func16 rfl rfl rfl (by kernel_rfl) rfl rfl fun F => ?_
  refine wk ?_ trueW trueW
  refine LC.loop2 (fun i S => [(1, .q (hdrC h)), (3, .p 3 0), (21, .a ([h.number, h.time, h.limit, h.used].map uK)), (22, .k (.int .i64 ((i : Nat) : Int)))]) (fun i S => [(3, .b [.k (.bool true), .nil, .s (some 11) (S.map itV)]), (11, .r 69 3 S.length)]) (fun i S => i ≤ 4 ∧ S = ((hdrKs h).take (1 + i)).map bytI) ((4 - ·)) (0) ([bytI h.parent]) ⟨by omega, rfl⟩ ⟨rfl, rfl, rfl, rfl, trivial⟩ ⟨rfl, rfl, trivial⟩ rfl rfW rfW ?_
  rintro i S ⟨hi, hS⟩
  have hSl : S.length = 1 + i := by rw [hS, List.length_map, List.length_take]; omega
  have z1 : ∀ e ∈ S.map itV, e.cells.length = 3 := fun e he => by obtain ⟨x, _, rfl⟩ := List.mem_map.1 he; exact itC_len x
  by_cases hlt : i < 4
  · have hx : [h.number, h.time, h.limit, h.used].getD i default < 18446744073709551616 := by
      rcases i with _ | _ | _ | _ | i
      · exact k.number
      · exact k.time
      · exact k.limit
      · exact k.used
      · omega
    have hK : (hdrKs h).getD (1 + i) default = numL ([h.number, h.time, h.limit, h.used].getD i default) := by
      rcases i with _ | _ | _ | _ | i
      · rfl
      · rfl
      · rfl
      · rfl
      · omega
    have c3 := Wo.IntW ([h.number, h.time, h.limit, h.used].getD i default) hx
    have c4 := Pw.Num ([h.number, h.time, h.limit, h.used].getD i default)
    rw [mod256 hx] at c4
    have c5 := Text (numL ([h.number, h.time, h.limit, h.used].getD i default))
    have hok : i + 1 ≤ 4 ∧ S ++ [bytI (numL ([h.number, h.time, h.limit, h.used].getD i default))] = ((hdrKs h).take (1 + (i + 1))).map bytI := ⟨hlt, by rw [hS, ← hK]; exact map_take (by omega)⟩
    unfold bytI at hok
    have z3 := itC_len (.mk false (numL ([h.number, h.time, h.limit, h.used].getD i default)) [])
    have hnl : [h.number, h.time, h.limit, h.used].length = 4 := rfl
    clear hS cE hK hfb hbare q1 q2 q3 q4 q5 q6 q7 ld1 ld2 ld3 ld4 c1 c2 hkl
    generalize [h.number, h.time, h.limit, h.used] = Ns at *
    exact wk trueW trueW trueW
  · obtain rfl : i = 4 := by omega
    clear hfb c1 c2 ld1 ld2 ld3 ld4
    refine wk ?_ trueW trueW
    refine LC.loop2 (fun j S => [(3, .p 3 0), (47, .a ([h.keeper, h.bloom, h.state, h.txs, h.receipts, h.next].map bV)), (48, .k (.int .i64 ((j : Nat) : Int)))]) (fun j S => [(3, .b [.k (.bool true), .nil, .s (some 11) (S.map itV)]), (11, .r 69 3 S.length)]) (fun j S => j ≤ 6 ∧ S = ((hdrKs h).take (5 + j)).map bytI) ((6 - ·)) (0) (S) ⟨by omega, hS⟩ ⟨rfl, rfl, rfl, trivial⟩ ⟨rfl, rfl, trivial⟩ rfl rfW rfW ?_
    rintro j S ⟨hj, hS⟩
    have hSl : S.length = 5 + j := by rw [hS, List.length_map, List.length_take]; omega
    have z1 : ∀ e ∈ S.map itV, e.cells.length = 3 := fun e he => by obtain ⟨x, _, rfl⟩ := List.mem_map.1 he; exact itC_len x
    by_cases hlt : j < 6
    · have hK : (hdrKs h).getD (5 + j) default = [h.keeper, h.bloom, h.state, h.txs, h.receipts, h.next].getD j default := by
        rcases j with _ | _ | _ | _ | _ | _ | j
        · rfl
        · rfl
        · rfl
        · rfl
        · rfl
        · rfl
        · omega
      have c5 := Text ([h.keeper, h.bloom, h.state, h.txs, h.receipts, h.next].getD j default)
      have hok : j + 1 ≤ 6 ∧ S ++ [bytI ([h.keeper, h.bloom, h.state, h.txs, h.receipts, h.next].getD j default)] = ((hdrKs h).take (5 + (j + 1))).map bytI := ⟨hlt, by rw [hS, ← hK]; exact map_take (by omega)⟩
      unfold bytI at hok
      have z3 := itC_len (.mk false ([h.keeper, h.bloom, h.state, h.txs, h.receipts, h.next].getD j default) [])
      have hnl : [h.keeper, h.bloom, h.state, h.txs, h.receipts, h.next].length = 6 := rfl
      clear hS cE hK hbare q1 q2 q3 q4 q5 q6 q7 hkl
      generalize [h.keeper, h.bloom, h.state, h.txs, h.receipts, h.next] = Ns at *
      have hrg := refs_mapbV
      exact wk trueW trueW trueW
    · have hS' : S = (hdrKs h).map bytI := by rw [hS, List.take_of_length_le (by omega)]
      subst hS'
      have c2 := cE
      clear hS cE q1 q2 q3 q4 q5 q6 q7
      exact wk trueW trueW trueW
end Cb
end Lf
open Go.RowKit Rg Wm Ar
set_option maxRecDepth 100000
namespace Lf
open Pk
abbrev sV (l : List Nat) : V := .s none (l.map uK)
def hx (h : Hdr) (a b : V) : List V := hdrC h ++ [a, b]
theorem hx_eq (h : Hdr) (a b : V) : hx h a b = hdrC h ++ [a, b] := rfl
theorem hx_len {h : Hdr} (k : h.ok) (a b : V) : (hx h a b).length = 206 := by rw [hx_eq, List.length_append, hdrC_len k]; rfl
theorem hx_drop {h : Hdr} (k : h.ok) (a b : V) {n : Nat} (hn : n ≤ 204) : (hx h a b).drop n = (hdrC h).drop n ++ [a, b] := by
 rw [hx_eq, List.drop_append, hdrC_len k, Nat.sub_eq_zero_of_le hn, List.drop_zero]
theorem hx_a {ti : TI} {h : Hdr} {a b : V} (k : h.ok) (hd : ti.d.agg = false) : ti.part (hx h a b) 204 = some a := part_num hd (by
 rw [hx_drop k _ _ (Nat.le_refl _), List.drop_of_length_le (by rw [hdrC_len k]; exact Nat.le_refl _)]; rfl)
theorem hx_b {ti : TI} {h : Hdr} {a b : V} (k : h.ok) (hd : ti.d.agg = false) : ti.part (hx h a b) 205 = some b := part_num (r := []) hd (by
 rw [hx_eq]; have := drop_at (hdrC_len k) (b := [a, b]) 1; exact this)
theorem hx_h {ti : TI} {h : Hdr} {a b : V} (k : h.ok) (hd : ti.d.agg = true) (hs : ti.size = 204) : ti.part (hx h a b) 0 = some (.a (hdrC h)) := by
 have hl := hdrC_len k
 have e : (hx h a b).take 204 = hdrC h := by rw [hx_eq, List.take_append_of_le_length (by omega), List.take_of_length_le (by omega)]
 have h3 : ((hx h a b).take 204).length = 204 := by rw [e, hl]
 unfold TI.part
 rw [hd, hs]
 simp only [List.drop_zero, cond_true, e, hx_len k]
 rfl
theorem hx_set {h : Hdr} {a b c : V} {us : List V} (k : h.ok) (hu : us = [c]) : splice (hx h a b) 205 us = hx h a c := by
 subst hu
 have hl := hdrC_len k
 rw [hx_eq, hx_eq]
 unfold splice
 have e1 : (hdrC h ++ [a, b]).take 205 = hdrC h ++ [a] := by rw [show hdrC h ++ [a, b] = (hdrC h ++ [a]) ++ [b] from by simp, List.take_append_of_le_length (by simp; omega), List.take_of_length_le (by simp; omega)]
 rw [e1, List.drop_of_length_le (by simp; omega)]
 simp
theorem refs_app' (m : List (Nat × M)) : ∀ (a b : List V), V.refs.go m a = true → V.refs.go m b = true → V.refs.go m (a ++ b) = true
 | [], _, _, h => h
 | x :: r, b, h1, h2 => by
  rw [List.cons_append, V.refs.go]
  rw [V.refs.go, Bool.and_eq_true] at h1
  rw [h1.1, refs_app' m r b h1.2 h2]; rfl
theorem hx_refsS (m : List (Nat × M)) (h : Hdr) (a b : List Nat) : V.refs.go m (hx h (sV a) (sV b)) = true := refs_app' m _ _ (hdrC_refs m h) rfl
structure StM where
 hdr : Hdr
 seats : List Nat
 next : List Nat
 deriving Inhabited, DecidableEq
def seats64 (l : List Nat) : Prop := ∀ s ∈ l, s < 18446744073709551616
structure StM.ok (s : StM) : Prop where
 hdr : s.hdr.ok
 seats : seats64 s.seats
 next : seats64 s.next
 sl : s.seats.length < 2000000
 nl : s.next.length < 2000000
abbrev storeC (s : StM) : List V := hx s.hdr (sV s.seats) (sV s.next)
def zeroH : Hdr := ⟨List.replicate 32 0, 0, 0, List.replicate 8 0, 0, 0, List.replicate 32 0, List.replicate 32 0, List.replicate 32 0, List.replicate 32 0, List.replicate 32 0⟩
def zeroS : StM := ⟨zeroH, [], []⟩
theorem zeroH_ok : zeroH.ok := ⟨rfl, by decide, by decide, rfl, by decide, by decide, rfl, rfl, rfl, rfl, rfl⟩
attribute [irreducible] hx
end Lf
end Go.Proofs.YtpaafpmofhajfaaGreatDoor

/- A part of the proof: texts joined. -/
import Derived.Test.YtgjoecocahpfhaaQ20767743
namespace Go.Proofs.Ytgjoecocahpfhaa
open Go.RowKit Rg Rp Wm Ar
set_option linter.unusedVariables false
set_option maxRecDepth 100000
namespace Lf
open Pk
namespace Cm
open Sq
theorem nrm_byt : ∀ l : List (List UInt8), nrmL (l.map bytI) = l.map bytI
  | [] => by simp [nrmL]
  | s :: r => by
    rw [List.map_cons, nrmL, nrm_byt r]
    rfl
theorem map_byt_inj : ∀ {a b : List (List UInt8)}, a.map bytI = b.map bytI → a = b
  | [], [], _ => rfl
  | [], _ :: _, h => by simp at h
  | _ :: _, [], h => by simp at h
  | x :: r, y :: s, h => by
    simp only [List.map_cons, List.cons.injEq] at h
    rw [map_byt_inj h.2]
    have : x = y := by have := h.1; unfold bytI at this; injection this
    rw [this]
theorem hdrB_inj {a b : Hdr} (ka : a.ok) (h : hdrB a = hdrB b) : a = b := by
  have h0 := hdrB_len ka
  unfold hdrB at *
  have h1 := dec_enc (a := hdrI a) (by omega)
  have h2 := dec_enc (a := hdrI b) (by rw [← h]; omega)
  rw [h, h2] at h1
  have h3 := Option.some.inj h1
  unfold hdrI at h3
  rw [nrm, nrm, nrm_byt, nrm_byt] at h3
  injection h3 with _ _ h4
  have h5 := map_byt_inj h4
  unfold hdrKs at h5
  simp only [List.cons.injEq, and_true] at h5
  obtain ⟨p1, p2, p3, p4, p5, p6, p7, p8, p9, p10, p11⟩ := h5
  have ni : ∀ {m n : Nat}, numL m = numL n → m = n := fun {m n} e => by rw [← beN_numL m, ← beN_numL n, e]
  cases a; cases b
  simp only [Hdr.mk.injEq]
  exact ⟨p1.symm, (ni p2).symm, (ni p3).symm, p6.symm, (ni p4).symm, (ni p5).symm, p7.symm, p8.symm, p9.symm, p10.symm, p11.symm⟩
abbrev tsV (ts : List (List UInt8)) : List V := ts.map fun l => .s none (l.map bK)
theorem tsV_one (ts : List (List UInt8)) : ∀ e ∈ tsV ts, e.cells.length = 1 := fun e he => by obtain ⟨x, _, rfl⟩ := List.mem_map.1 he; rfl
set_option maxHeartbeats 8000000 in
theorem HTexts_ (hs : List Hdr) (ks : ∀ x ∈ hs, Hdr.ok x) (hn : hs.length < 2000000) (k : Nat) : LM Try.prog 23 [hdsV hs] [] fun o m => o = .ret (.s (some k) (tsV (hs.map hdrB))) ∧ m = [(k, .r 41 1 (hs.map hdrB).length)] := by
  have hrf := hdrC_refs
  refine LM.row1 (k0 := 60) (fun _ => rfl) ?_ k
  refine LFx.mk' tt Try.func23 rfl rfl rfl (by kernel_rfl) rfl rfl fun F => ?_
  refine wk ?_ trueW trueW
  refine LC.nilrow 3 60 41 1 rfl rfl rfl ?_
  refine LC.loop2 (fun i S => [(3, .s (some 60) (tsV S)), (6, hdsV hs), (7, .k (.int .i64 ((hs.length : Nat) : Int))), (8, .k (.int .i64 ((i : Nat) : Int)))]) (fun i S => [(60, .r 41 1 S.length)]) (fun i S => i ≤ hs.length ∧ S = (hs.take i).map hdrB) ((hs.length - ·)) (0) ([]) ⟨by omega, rfl⟩ ⟨rfl, rfl, rfl, rfl, trivial⟩ ⟨rfl, trivial⟩ rfl rfW rfW ?_
  rintro i S ⟨hi, hS⟩
  have hSl : S.length = i := by rw [hS, List.length_map, List.length_take]; omega
  have hz := tsV_one S
  by_cases h : i < hs.length
  · have kh := ks _ (mem_at h)
    have hl0 := hdrC_len kh
    have c1 := Sr.BWrite _ kh
    have hok : i + 1 ≤ hs.length ∧ S ++ [hdrB (hs.getD i default)] = (hs.take (i + 1)).map hdrB := ⟨h, by rw [hS, Sr.take_get h, List.map_append]; rfl⟩
    clear hS ks
    generalize hdrB (hs.getD i default) = t at *
    exact wk trueW trueW trueW
  · obtain rfl : i = hs.length := by omega
    rw [List.take_length] at hS
    rw [← hS]
    clear hS ks
    exact wk trueW trueW trueW
set_option maxHeartbeats 1000000 in
theorem GrowH (n : Nat) (hn : n < 100000000) (k : Nat) : LM Try.prog 38 [.nil, .k (.int .i64 (n : Int))] [] fun o m => o = .ret (.s (some k) []) ∧ m = [(k, .r 28 204 0)] := by
  rcases Nat.eq_zero_or_pos n with h0 | h0
  · subst h0
    refine LM.nilrow _ _ k rfl ?_
    refine LFx.mk' tt Try.func38 rfl rfl rfl (by kernel_rfl) rfl rfl fun F => ?_
    refine wk ?_ trueW trueW
    refine DR.pp rfl rfl (Does.capNil tt rfl rfl rfl rfl rfl) rfl ?_
    exact wk trueW trueW trueW
  · refine LM.row1 (k0 := 22) (fun _ => rfl) ?_ k
    refine LFx.mk' tt Try.func38 rfl rfl rfl (by kernel_rfl) rfl rfl fun F => ?_
    refine wk ?_ trueW trueW
    refine DR.pp rfl rfl (Does.capNil tt rfl rfl rfl rfl rfl) rfl ?_
    refine wk ?_ trueW trueW
    refine DR.pp rfl rfl (Does.capNil tt rfl rfl rfl rfl rfl) rfl ?_
    refine DR.pp rfl rfl (Does.cutNil tt rfl rfl rfl rfl rfl (.some rfl rfl)) rfl ?_
    refine wk ?_ trueW trueW
    refine DR.nn rfl rfl (Does.appMake (n := n) tt rfl rfl rfl rfl rfl rfl rfl rfl rfl rfl h0 (by omega) (by show n * 232 ≤ _; omega)) rfl rfl ?_
    refine wk ?_ trueW trueW
    refine DR.ww rfl rfl (Does.cutW0 tt rfl rfl rfl rfl rfl (.some rfl rfl)) rfl rfl ?_
    exact wk trueW trueW trueW
set_option maxHeartbeats 1000000 in
theorem ConcatH (ls : List (List Hdr)) (hk : ∀ l ∈ ls, ∀ x ∈ l, Hdr.ok x) (h1 : ls.length < 1073741824) (h2 : ls.flatten.length < 100000000) (k : Nat) : LM Try.prog 21 [.s none (ls.map hdsV)] [] fun o m => o = .ret (.s (some k) (ls.flatten.map hdV)) ∧ m = [(k, .r 28 204 ls.flatten.length)] := by
  refine LM.row1 (k0 := 24) (fun ρ => by simp [V.ren]) ?_ k
  have c1 := GrowH ls.flatten.length h2 24
  refine LFx.mk' tt Try.func21 rfl rfl rfl (by kernel_rfl) rfl rfl fun F => ?_
  refine wk ?_ trueW trueW
  refine LC.loopN (fun i => [(0, .s none (ls.map hdsV)), (2, .nil), (3, .k (.int .i64 (((ls.take i).flatten.length : Nat) : Int))), (9, .s none (ls.map hdsV)), (10, .k (.int .i64 ((ls.length : Nat) : Int))), (11, .k (.int .i64 ((i : Nat) : Int)))]) (fun i => []) (fun i => i ≤ ls.length) ((ls.length - ·)) (0) (by omega) ⟨rfl, rfl, rfl, rfl, rfl, rfl, trivial⟩ trivial rfl rfW rfW ?_
  intro i hi
  have q1 := flat_le (ls := ls) (i := i)
  rcases Nat.lt_or_ge i ls.length with h3 | h3
  · have hok : i + 1 ≤ ls.length := h3
    have q2 := flat_takeL h3
    have q3 := flat_le (ls := ls) (i := i + 1)
    have q5 : ((ls.getD i default).map hdV).length = (ls.getD i default).length := List.length_map _
    refine wk ?_ trueW trueW
    rw [← q2]
    exact wk trueW trueW trueW
  · obtain rfl : i = ls.length := by omega
    rw [List.take_length]
    refine wk ?_ trueW trueW
    refine LC.loopN (fun j => [(2, .nil), (6, .s (some 24) ((ls.take j).flatten.map hdV)), (25, .s none (ls.map hdsV)), (26, .k (.int .i64 ((ls.length : Nat) : Int))), (27, .k (.int .i64 ((j : Nat) : Int)))]) (fun j => [(24, .r 28 204 (ls.take j).flatten.length)]) (fun j => j ≤ ls.length) ((ls.length - ·)) (0) (by omega) ⟨rfl, rfl, rfl, rfl, rfl, trivial⟩ ⟨rfl, trivial⟩ rfl rfW rfW ?_
    intro j hj
    have q1 := flat_le (ls := ls) (i := j)
    have q0 : ((ls.take j).flatten.map hdV).length = (ls.take j).flatten.length := List.length_map _
    rcases Nat.lt_or_ge j ls.length with h4 | h4
    · have hok : j + 1 ≤ ls.length := h4
      have q2 := flat_takeL h4
      have q4 := flat_take h4
      have q3 := flat_le (ls := ls) (i := j + 1)
      have q5 : ((ls.getD j default).map hdV).length = (ls.getD j default).length := List.length_map _
      have hzs := hds_sz (l := ls.getD j default) (hk _ (by rw [List.getD_eq_getElem?_getD, List.getElem?_eq_getElem h4]; exact List.getElem_mem h4))
      have hzr := hds_sz (l := (ls.take j).flatten) (fun x hx => by
        obtain ⟨l, hl, hx⟩ := List.mem_flatten.1 hx
        exact hk l (List.mem_of_mem_take hl) x hx)
      refine wk ?_ trueW trueW
      rw [← q4]
      exact wk trueW trueW trueW
    · obtain rfl : j = ls.length := by omega
      rw [List.take_length]
      exact wk trueW trueW trueW
end Cm
end Lf
open Go.RowKit Rg
set_option linter.unusedVariables false
set_option maxRecDepth 100000
namespace Lf
theorem mapTyH : MapTy Try.prog 82 23 (.int .i64 0) := ⟨⟨3, by kernel_rfl, fun w => by kernel_rfl⟩, lawH⟩
def hE (E : List (List UInt8 × Nat)) : List (Value × V) := E.map fun p => (hashK p.1, .k (.int .i64 ((p.2 : Nat) : Int)))
theorem hget_no {E : List (List UInt8 × Nat)} {h : List UInt8} {y0 : V} (hn : ∀ p ∈ E, p.1 ≠ h) : MGetO (hE E) (hashK h) y0 y0 false := ⟨fun _ => ⟨rfl, rfl⟩, fun p hp e => by
  obtain ⟨q, hq, rfl⟩ := List.mem_map.1 hp
  exact absurd (hashK_inj e) (hn q hq)⟩
theorem hget_yes {E : List (List UInt8 × Nat)} {h : List UInt8} {k : Nat} {y0 : V} (hu : ∀ p ∈ E, ∀ q ∈ E, p.1 = q.1 → p = q) (hm : (h, k) ∈ E) : MGetO (hE E) (hashK h) y0 (.k (.int .i64 ((k : Nat) : Int))) true := ⟨fun h1 => absurd rfl (h1 (hashK h, .k (.int .i64 ((k : Nat) : Int))) (List.mem_map.2 ⟨(h, k), hm, rfl⟩)), fun p hp e => by
  obtain ⟨q, hq, rfl⟩ := List.mem_map.1 hp
  have e2 := hashK_inj e
  have := hu q hq (h, k) hm e2
  subst this
  exact ⟨rfl, rfl⟩⟩
theorem hks {E : List (List UInt8 × Nat)} (h : ∀ p ∈ E, p.1.length = 32) : KeysV Try.prog 23 (hE E) := ⟨fun p hp => by
  obtain ⟨q, hq, rfl⟩ := List.mem_map.1 hp
  exact key_hashK (h q hq)⟩
theorem hno {E : List (List UInt8 × Nat)} {h : List UInt8} (hn : ∀ p ∈ E, p.1 ≠ h) : MNo (hE E) (hashK h) := ⟨fun p hp e => by
  obtain ⟨q, hq, rfl⟩ := List.mem_map.1 hp
  exact hn q hq (hashK_inj e)⟩
theorem hE_snoc (E : List (List UInt8 × Nat)) (h : List UInt8) (k : Nat) : hE E ++ [(hashK h, .k (.int .i64 ((k : Nat) : Int)))] = hE (E ++ [(h, k)]) := by
  unfold hE; rw [List.map_append]; rfl
def Clashes (ts : List (List UInt8)) : Prop := ∃ a ∈ ts, ∃ b ∈ ts, sumB a = sumB b ∧ a ≠ b
structure ClashAt (ts : List (List UInt8)) (i : Nat) (E : List (List UInt8 × Nat)) : Prop where
  one : ∀ p ∈ E, ∀ q ∈ E, p.1 = q.1 → p = q
  at_ : ∀ p ∈ E, p.2 < i ∧ p.1 = sumB (ts.getD p.2 default)
  all : ∀ j, j < i → ∃ p ∈ E, p.1 = sumB (ts.getD j default) ∧ ts.getD p.2 default = ts.getD j default
theorem ClashAt.len {ts : List (List UInt8)} {i : Nat} {E : List (List UInt8 × Nat)} (h : ClashAt ts i E) : ∀ p ∈ E, p.1.length = 32 := fun p hp => by rw [(h.at_ p hp).2]; exact sumB_len _
theorem ClashAt.no {ts : List (List UInt8)} {E : List (List UInt8 × Nat)} (h : ClashAt ts ts.length E) : ¬ Clashes ts := by
  rintro ⟨a, ha, b, hb, h1, h2⟩
  obtain ⟨i, hi, ei⟩ := List.mem_iff_getElem.1 ha
  obtain ⟨j, hj, ej⟩ := List.mem_iff_getElem.1 hb
  have gi : ts.getD i default = a := by rw [List.getD_eq_getElem?_getD, List.getElem?_eq_getElem hi]; exact ei
  have gj : ts.getD j default = b := by rw [List.getD_eq_getElem?_getD, List.getElem?_eq_getElem hj]; exact ej
  obtain ⟨p, p1, p2, p3⟩ := h.all i hi
  obtain ⟨q, q1, q2, q3⟩ := h.all j hj
  rw [gi] at p2 p3
  rw [gj] at q2 q3
  have := h.one p p1 q q1 (by rw [p2, q2, h1])
  subst this
  exact h2 (p3.symm.trans q3)
namespace Sr
theorem neS_t {a b : List UInt8} (h : a ≠ b) : arithS .neq ⟨a.toArray⟩ ⟨b.toArray⟩ = some (.bool true) := by
  simp only [arithS, ByteArray.toList_mk]
  simp [h]
theorem neS_f (a : List UInt8) : arithS .neq ⟨a.toArray⟩ ⟨a.toArray⟩ = some (.bool false) := by
  simp only [arithS, ByteArray.toList_mk]
  simp
set_option maxHeartbeats 2000000 in
theorem Clash_ (ts : List (List UInt8)) (hn : ts.length < 1073741824) (ht : ∀ t ∈ ts, t.length < 1073741824) :
    (Clashes ts → LF Try.prog 22 [.s none (ts.map fun l => .s none (l.map bK))] (fun _ => .k (.bool true)) none) ∧
    (¬ Clashes ts → LF Try.prog 22 [.s none (ts.map fun l => .s none (l.map bK))] (fun _ => .k (.bool false)) none) := by
  have main : ∀ r : Bool, (r = true ↔ Clashes ts) → LF Try.prog 22 [.s none (ts.map fun l => .s none (l.map bK))] (fun _ => .k (.bool r)) none := by
    intro r hr
    have hM := mapTyH
    refine LFx.mk' tt Try.func22 rfl rfl rfl (by kernel_rfl) rfl rfl fun F => ?_
    refine wk ?_ trueW trueW
    refine LC.loop2 (fun i E => [(0, .s none (ts.map fun l => .s none (l.map bK))), (3, .mp 9), (10, .s none (ts.map fun l => .s none (l.map bK))), (11, .k (.int .i64 ((ts.length : Nat) : Int))), (12, .k (.int .i64 ((i : Nat) : Int)))]) (fun i E => [(9, .m (hE E))]) (fun i E => i ≤ ts.length ∧ ClashAt ts i E) ((ts.length - ·)) (0) ([]) ⟨by omega, ⟨by simp, by simp, fun j h => by omega⟩⟩ ⟨rfl, rfl, rfl, rfl, rfl, trivial⟩ ⟨rfl, trivial⟩ rfl rfW rfW ?_
    rintro i E ⟨hi, hC⟩
    by_cases h : i < ts.length
    · have hmem : ts.getD i default ∈ ts := by rw [List.getD_eq_getElem?_getD, List.getElem?_eq_getElem h]; exact List.getElem_mem h
      have c1 := SSum (ts.getD i default) (ht _ hmem)
      have hsl := sumB_len (ts.getD i default)
      have hkey := keyH hsl
      have hkk := hks hC.len
      by_cases hin : ∃ p ∈ E, p.1 = sumB (ts.getD i default)
      · obtain ⟨⟨u, k⟩, hp, hu⟩ := hin
        have hu' : u = sumB (ts.getD i default) := hu
        subst hu'
        obtain ⟨hk, hks'⟩ := hC.at_ _ hp
        have hki : k < i := hk
        have hget := hget_yes (y0 := .k (.int .i64 0)) hC.one hp
        by_cases heq : ts.getD k default = ts.getD i default
        · have hne := neS_f (ts.getD i default)
          have hne2 : arithS .neq ⟨(ts.getD k default).toArray⟩ ⟨(ts.getD i default).toArray⟩ = some (.bool false) := by rw [heq]; exact hne
          have hok : i + 1 ≤ ts.length ∧ ClashAt ts (i + 1) E := ⟨h, hC.one, fun p hp => ⟨by have := (hC.at_ p hp).1; omega, (hC.at_ p hp).2⟩, fun j hj => by
            by_cases e : j = i
            · subst e; exact ⟨_, hp, rfl, heq⟩
            · exact hC.all j (by omega)⟩
          clear hC hr hne heq hks'
          generalize sumB (ts.getD i default) = sm at *
          exact wk trueW trueW trueW
        · have hne2 := neS_t heq
          have hmk : ts.getD k default ∈ ts := by rw [List.getD_eq_getElem?_getD, List.getElem?_eq_getElem (show k < ts.length by omega)]; exact List.getElem_mem _
          have hrt : r = true := hr.2 ⟨_, hmk, _, hmem, hks'.symm, heq⟩
          subst hrt
          clear hC hr heq hks'
          generalize sumB (ts.getD i default) = sm at *
          exact wk trueW trueW trueW
      · have hnone : ∀ p ∈ E, p.1 ≠ sumB (ts.getD i default) := fun p hp e => hin ⟨p, hp, e⟩
        have hget := hget_no (y0 := .k (.int .i64 0)) hnone
        have hn' := hno hnone
        have hsn := hE_snoc E (sumB (ts.getD i default)) i
        have hok : i + 1 ≤ ts.length ∧ ClashAt ts (i + 1) (E ++ [(sumB (ts.getD i default), i)]) := ⟨h, fun p hp q hq e => by
          rcases List.mem_append.1 hp with hp | hp <;> rcases List.mem_append.1 hq with hq | hq
          · exact hC.one p hp q hq e
          · rw [List.mem_singleton] at hq; subst hq; exact absurd e (hnone p hp)
          · rw [List.mem_singleton] at hp; subst hp; exact absurd e.symm (hnone q hq)
          · rw [List.mem_singleton] at hp hq; rw [hp, hq], fun p hp => by
          rcases List.mem_append.1 hp with hp | hp
          · exact ⟨by have := (hC.at_ p hp).1; omega, (hC.at_ p hp).2⟩
          · rw [List.mem_singleton] at hp; subst hp; exact ⟨by omega, rfl⟩, fun j hj => by
          by_cases e : j = i
          · subst e; exact ⟨_, List.mem_append_right _ (List.mem_singleton.2 rfl), rfl, rfl⟩
          · obtain ⟨p, h1, h2⟩ := hC.all j (by omega)
            exact ⟨p, List.mem_append_left _ h1, h2⟩⟩
        clear hC hr hnone hin
        generalize sumB (ts.getD i default) = sm at *
        exact wk trueW trueW trueW
    · obtain rfl : i = ts.length := by omega
      have hrf : r = false := by
        cases r
        · rfl
        · exact absurd (hr.1 rfl) hC.no
      subst hrf
      clear hC hr
      exact wk trueW trueW trueW
  exact ⟨fun h => main true ⟨fun _ => h, fun _ => rfl⟩, fun h => main false ⟨fun e => (by cases e), fun e => absurd e h⟩⟩
end Sr
end Lf
end Go.Proofs.Ytgjoecocahpfhaa

/- A part of the proof: texts joined. -/
import Derived.Laws.Externs
import Derived.Lib.Bytealg
import Derived.Test.YtgjoecocahpfhaaQ155c90a3
namespace Go.Proofs.Ytgjoecocahpfhaa
open Go.RowKit Rg Rp Wm Ar
set_option linter.unusedVariables false
set_option maxRecDepth 100000
namespace Lf
open Pk
namespace Cm
open Sq
theorem list_ext_getD {a b : List Hdr} (hl : a.length = b.length) (h : ∀ i, i < a.length → a.getD i default = b.getD i default) : a = b := by
  refine List.ext_getElem hl fun i h1 h2 => ?_
  have := h i h1
  rwa [List.getD_eq_getElem?_getD, List.getD_eq_getElem?_getD, List.getElem?_eq_getElem h1, List.getElem?_eq_getElem h2] at this
def RevAt (L S : List Hdr) (i : Nat) : Prop := S.length = L.length ∧ ∀ t, t < L.length → S.getD t default = if t < i ∨ L.length - i ≤ t then L.getD (L.length - 1 - t) default else L.getD t default
theorem rv_start (L : List Hdr) : RevAt L L 0 := ⟨rfl, fun t ht => by rw [if_neg (by omega)]⟩
theorem getD_set2 {l : List Hdr} {i t : Nat} {a : Hdr} (h : t < l.length) : (l.set i a).getD t default = if i = t then a else l.getD t default := by
  rw [List.getD_eq_getElem?_getD, List.getElem?_set]
  by_cases e : i = t
  · subst e; rw [if_pos rfl, if_pos h, if_pos rfl]; rfl
  · rw [if_neg e, if_neg e, ← List.getD_eq_getElem?_getD]
theorem rv_step {L S : List Hdr} {i : Nat} (h : RevAt L S i) (h2 : i < L.length - 1 - i) : RevAt L ((S.set i (S.getD (L.length - 1 - i) default)).set (L.length - 1 - i) (S.getD i default)) (i + 1) := by
  obtain ⟨hl, hs⟩ := h
  refine ⟨by rw [List.length_set, List.length_set, hl], fun t ht => ?_⟩
  rw [getD_set2 (by rw [List.length_set]; omega)]
  by_cases e1 : L.length - 1 - i = t
  · rw [if_pos e1, if_pos (by omega), hs i (by omega), if_neg (by omega), ← e1]
    congr 1
    omega
  · rw [if_neg e1, getD_set2 (by omega)]
    by_cases e2 : i = t
    · rw [if_pos e2, if_pos (by omega), hs _ (by omega), if_neg (by omega), ← e2]
    · rw [if_neg e2, hs t ht]
      by_cases e3 : t < i ∨ L.length - i ≤ t
      · rw [if_pos e3, if_pos (by omega)]
      · rw [if_neg e3, if_neg (by omega)]
theorem rv_end {L S : List Hdr} {i : Nat} (h : RevAt L S i) (h2 : ¬ i < L.length - 1 - i) : S = L.reverse := by
  obtain ⟨hl, hs⟩ := h
  refine list_ext_getD (by rw [hl, List.length_reverse]) fun t ht => ?_
  rw [hs t (by omega)]
  have e : L.reverse.getD t default = L.getD (L.length - 1 - t) default := by
    rw [List.getD_eq_getElem?_getD, List.getElem?_reverse (by omega), ← List.getD_eq_getElem?_getD]
  rw [e]
  by_cases e3 : t < i ∨ L.length - i ≤ t
  · rw [if_pos e3]
  · rw [if_neg e3]
    congr 1
    omega
theorem hds_part {S : List Hdr} (hS : ∀ x ∈ S, x.ok) {ti : TI} {t : Nat} (hd : ti.d.agg = true) (hs : ti.size = 204) (ht : t < S.length) : ti.part ((S.map hdV).flatMap V.cells) (t * 204) = some (hdV (S.getD t default)) := by
  have hsz : ∀ e ∈ S.map hdV, e.cells.length = 204 := fun e he => by
    obtain ⟨p, hp, rfl⟩ := List.mem_map.1 he
    exact hdrC_len (hS p hp)
  have hlen : ((S.map hdV).flatMap V.cells).length = S.length * 204 := by
    rw [flat_cellsK hsz, List.length_map]
  have hw : (((S.map hdV).flatMap V.cells).drop (t * 204)).take 204 = hdrC (S.getD t default) := by
    rw [← flatV_drop hsz, List.map_drop.symm, List.drop_eq_getElem_cons ht, List.map_cons, List.flatMap_cons, show (hdV S[t]).cells = hdrC S[t] from rfl, List.take_left' (hdrC_len (hS _ (List.getElem_mem ht))), List.getD_eq_getElem?_getD, List.getElem?_eq_getElem ht]
    rfl
  simp only [TI.part, hd, cond_true, hs]
  by_cases h0 : (Nat.beq (t * 204) 0 && Nat.beq ((S.map hdV).flatMap V.cells).length 204) = true
  · rw [h0, cond_true]
    rw [Bool.and_eq_true] at h0
    have h1 := Nat.eq_of_beq_eq_true h0.1
    have h2 := Nat.eq_of_beq_eq_true h0.2
    rw [h1, List.drop_zero, List.take_of_length_le (by omega)] at hw
    rw [hw]
  · rw [Bool.eq_false_iff.2 h0, cond_false, show Nat.ble (t * 204 + 204) ((S.map hdV).flatMap V.cells).length = true from Nat.ble_eq_true_of_le (by rw [hlen]; omega), cond_true, hw]
theorem set_ok {S : List Hdr} (h : ∀ x ∈ S, x.ok) {i : Nat} {a : Hdr} (ha : a.ok) : ∀ x ∈ S.set i a, x.ok := fun x hx => by
  rcases List.mem_or_eq_of_mem_set hx with hx | rfl
  · exact h x hx
  · exact ha
theorem hdV_bare (h : Hdr) : (hdV h).bare = some (hdV h) := by
  show (V.a (hdrC h)).bare = _
  rw [V.bare, hdrC_bare]
  rfl
set_option maxHeartbeats 4000000 in
theorem Reverse1 (L : List Hdr) (g : Nat) (hL : ∀ x ∈ L, x.ok) (hl : L.length < 1000000000) : LM Try.prog 20 [.w 1000 g 204 0 L.length] [(1000, .w 28 204 g (L.map hdV))] fun o m => o = .ret (.t []) ∧ m = [(1000, .w 28 204 g (L.reverse.map hdV))] := by
  have hbr := hdV_bare
  have hrf := hdrC_refs
  have hel0 : (L.map hdV).length = L.length := List.length_map _
  rcases Nat.eq_zero_or_pos L.length with h00 | h00
  · obtain rfl : L = [] := List.eq_nil_of_length_eq_zero h00
    refine LM.enter tt Try.func20 rfl rfl rfl (by kernel_rfl) rfl rfl rfl (fun o mo h => by rw [h.2]; rfl) fun F _ => ?_
    refine wk ?_ trueW trueW
    refine LC.loopN (fun i => [(0, .w 1000 g 204 0 0), (2, .k (.int .i64 0)), (3, .k (.int .i64 (-1)))]) (fun i => [(1000, .w 28 204 g [])]) (fun i => i ≤ 0) ((0 - ·)) (0) (by omega) ⟨rfl, rfl, rfl, trivial⟩ ⟨rfl, trivial⟩ rfl rfW rfW ?_
    intro i hi
    exact wk trueW trueW trueW
  refine LM.enter tt Try.func20 rfl rfl rfl (by kernel_rfl) rfl rfl rfl (fun o mo h => by rw [h.2]; rfl) fun F _ => ?_
  refine wk ?_ trueW trueW
  refine LC.loop2 (fun i S => [(0, .w 1000 g 204 0 L.length), (2, .k (.int .i64 ((i : Nat) : Int))), (3, .k (.int .i64 (((L.length - 1 - i) : Nat) : Int)))]) (fun i S => [(1000, .w 28 204 g (S.map hdV))]) (fun i S => RevAt L S i ∧ i ≤ L.length - 1 - i + 1 ∧ ∀ x ∈ S, x.ok) ((L.length - ·)) (0) (L) ⟨rv_start L, by omega, hL⟩ ⟨rfl, rfl, rfl, trivial⟩ ⟨rfl, trivial⟩ rfl rfW rfW ?_
  clear hL
  rintro i S ⟨hS, hi, hL⟩
  have hSl := hS.1
  have hel : (S.map hdV).length = S.length := List.length_map _
  rcases Nat.lt_or_ge i (L.length - 1 - i) with h | h
  · have k1 := getD_ok (all := S) hL (i := i) (by omega)
    have k2 := getD_ok (all := S) hL (i := L.length - 1 - i) (by omega)
    have hok : RevAt L ((S.set i (S.getD (L.length - 1 - i) default)).set (L.length - 1 - i) (S.getD i default)) (i + 1) ∧ i + 1 ≤ L.length - 1 - (i + 1) + 1 ∧ ∀ x ∈ (S.set i (S.getD (L.length - 1 - i) default)).set (L.length - 1 - i) (S.getD i default), x.ok := ⟨rv_step hS h, by omega, set_ok (set_ok hL k2) k1⟩
    have ld1 := @hds_part S hL
    have hp1 := hdrC_len k1
    have hp2 := hdrC_len k2
    have hel2 : ((S.set i (S.getD (L.length - 1 - i) default)).map hdV).length = S.length := by rw [List.length_map, List.length_set]
    have hij : L.length - 1 - i - 1 = L.length - 1 - (i + 1) := by omega
    clear hS
    exact wk trueW trueW trueW
  · have e := rv_end hS (by omega)
    clear hS
    subst e
    exact wk trueW trueW trueW
theorem Reverse_ (L : List Hdr) (g : Nat) (hL : ∀ x ∈ L, x.ok) (hl : L.length < 1000000000) (k : Nat) : LM Try.prog 20 [.w k g 204 0 L.length] [(k, .w 28 204 g (L.map hdV))] fun o m => o = .ret (.t []) ∧ m = [(k, .w 28 204 g (L.reverse.map hdV))] :=
  LM.gen [1000] [k] (by simp) (by simp) rfl (Reverse1 L g hL hl) fun ρ hρ => by
    simp at hρ
    have hr : ∀ l : List Hdr, l.map (V.ren ρ.f ∘ hdV) = l.map hdV := fun l => List.map_congr_left fun x _ => ren_refs (hdV x) (hdrC_refs [] x)
    exact ⟨by simp [V.ren, hρ], by simp [Mem.ren, M.ren, hρ, hr], rfl, by simp [Mem.ren, M.ren, hρ, hr]⟩
end Cm
end Lf
open Go.RowKit Rg Wm Ar
set_option maxRecDepth 100000
namespace Lf
open Pk
namespace Cp
theorem run_loadBytes {P : Program} {w : World} {b : Nat} : ∀ (l : List UInt8) (o : Nat) (acc : List UInt8), (∀ j u, (l.map Rp.byteV)[j]? = some u → w.cell? ⟨b, o + j, none⟩ = some u) → (Extern.Bytes.loadBytes ⟨b, o, none⟩ l.length ⟨acc.toArray⟩).run P w = .ok ⟨(acc ++ l).toArray⟩ w
  | [], o, acc, _ => by rw [List.append_nil]; rfl
  | x :: r, o, acc, h => by
    have h0 := h 0 (Rp.byteV x) rfl
    rw [Nat.add_zero] at h0
    have ih := run_loadBytes (P := P) (w := w) (b := b) r (o + 1) (acc ++ [x]) fun j u hj => by
      have := h (j + 1) u (by simpa using hj)
      rw [show o + 1 + j = o + (j + 1) from by omega]
      exact this
    rw [List.length_cons]
    unfold Extern.Bytes.loadBytes
    rw [Sem.run_bind, run_load, h0]
    simp only [Result.andThen, Rp.byteV]
    have e1 : (ByteArray.mk acc.toArray).push ((x.toNat : Int).toNat.toUInt8) = ⟨(acc ++ [x]).toArray⟩ := by
      have : ((x.toNat : Int).toNat.toUInt8) = x := by simp
      rw [this]
      simp [ByteArray.push]
    rw [e1]
    have e2 : acc ++ x :: r = (acc ++ [x]) ++ r := by simp
    rw [e2]
    exact ih
theorem run_bytesOf {P : Program} {w : World} {B n c : Nat} {a : Option Addr} {l : List UInt8} (h : Rp.Sl w B 1 a n c (l.map Rp.byteV)) : (Extern.Bytes.bytesOf (.slice a n c)).run P w = .ok ⟨l.toArray⟩ w := by
  have hn : l.length = n := h.len
  obtain ⟨_, h2, _, h4, h5⟩ := h
  cases a with
  | none =>
    have := h4 rfl
    obtain rfl : l = [] := List.eq_nil_of_length_eq_zero (by omega)
    rfl
  | some a =>
    rcases Nat.eq_zero_or_pos n with h0 | h0
    · obtain rfl : l = [] := List.eq_nil_of_length_eq_zero (by omega)
      subst h0
      rfl
    · obtain ⟨b, o, e, _, hc⟩ := h5 h0
      cases e
      subst hn
      exact run_loadBytes (P := P) (w := w) l o [] hc
theorem run_compareBytes {P : Program} {w : World} {B n c B' n' c' : Nat} {a a' : Option Addr} {l l' : List UInt8} (h : Rp.Sl w B 1 a n c (l.map Rp.byteV)) (h' : Rp.Sl w B' 1 a' n' c' (l'.map Rp.byteV)) :
    (Extern.BytealgCompare.compare #[.slice a n c, .slice a' n' c']).run P w = .ok (.int .i64 (Lib.compareBytes l l')) w := by
  change Sem.run P (do pure (goInt (Extern.BytealgCompare.cmp (← Extern.Bytes.bytesOf (.slice a n c)) (← Extern.Bytes.bytesOf (.slice a' n' c'))))) w = _
  rw [Sem.run_bind, run_bytesOf h]
  simp only [Result.andThen]
  rw [Sem.run_bind, run_bytesOf h']
  simp only [Result.andThen, Sem.run_pure]
  rw [Lib.cmp_eq]
  rfl
theorem rep_bytes {w : World} {g : Gh} {t : Option Nat} {l : List UInt8} {y : Value} (hr0 : Rep w g (.s t (l.map bK)) y) : ∃ a0 n0 c0, y = .slice a0 n0 c0 ∧ Rp.Sl w w.heap.size 1 a0 n0 c0 (l.map Rp.byteV) := by
  have hcell : ∀ e ∈ l.map bK, e.cells.length = 1 := fun e he => by obtain ⟨z, _, rfl⟩ := List.mem_map.1 he; rfl
  generalize hes : l.map bK = es at hr0
  cases hr0 with
  | s0 =>
    have : l = [] := by simpa using hes
    subst this
    exact ⟨none, 0, 0, rfl, rfl, Nat.le_refl _, by simp [maxLen], fun _ => rfl, fun h => by omega⟩
  | se a1 =>
    have : l = [] := by simpa using hes
    subst this
    exact ⟨some a1, 0, 0, rfl, rfl, Nat.le_refl _, by simp [maxLen], (fun h => by cases h), fun h => by omega⟩
  | @s _ _ _ b off cap size xs hn hm hp hsz hxx hc ht =>
    subst hes
    refine ⟨_, _, cap, rfl, by simp, hn, hm, (fun h => by cases h), fun _ => ⟨b, off, rfl, ?_, fun j u hj => ?_⟩⟩
    · rename_i hpos
      have : (l.map bK).flatMap V.cells ≠ [] := by
        cases l with
        | nil => simp at hpos
        | cons a r => simp [bK, V.cells]
      obtain ⟨u, r, hur⟩ := List.exists_cons_of_ne_nil this
      exact (hxx 0 u (by rw [hur]; rfl)).1
    · rw [List.getElem?_map] at hj
      obtain ⟨z, hz, rfl⟩ := Option.map_eq_some_iff.1 hj
      have hf : ((l.map bK).flatMap V.cells)[j]? = some (bK z) := by
        have := flat_get hcell (n := j) (j := 0) (e := bK z) (u := bK z) (by rw [List.getElem?_map, hz]; rfl) rfl
        simpa using this
      rw [(hxx j _ hf).2.2, rep_k (hc j _ hf)]
      rfl
theorem Compare0 {a b : List UInt8} {n c n' c' B B' : Nat} {p p' : Option Addr} (w : World) (h : Rp.Sl w B 1 p n c (a.map Rp.byteV)) (h' : Rp.Sl w B' 1 p' n' c' (b.map Rp.byteV)) :
    Calls Try.prog 34 #[.slice p n c, .slice p' n' c'] w fun e w' => e = .returned (.int .i64 (Lib.compareBytes a b)) ∧ Ext w w' := by
  go_enter Try.func34, Try.ntmps34
  go_wp2
  rw [run_callFunc_extern (P := Try.prog) (f := 50) (fn := Try.f50) (e := Extern.BytealgCompare.compare) (by kernel_rfl) (by kernel_rfl) (by kernel_rfl) (by kernel_rfl) (by kernel_rfl), run_compareBytes h h']
  simp only [Result.andThen]
  rw [Oper.upon_value]
  go_wp2
  go_ret
  exact ⟨rfl, Ext.refl _⟩
theorem Compare (a b : List UInt8) : LF Try.prog 34 [bV a, bV b] (fun _ => .k (.int .i64 (Lib.compareBytes a b))) none := by
  refine ⟨by kernel_rfl, fun g w vals hm hl hr => ?_⟩
  have h2 : vals.size = 2 := hl.symm
  have hv : vals = #[vals[0], vals[1]] := by
    apply Array.ext
    · simp [h2]
    · intro i h1 h2
      match i with
      | 0 => rfl
      | 1 => rfl
      | i + 2 => omega
  obtain ⟨p, n, c, e1, s1⟩ := rep_bytes (hr 0 _ vals[0] rfl (Array.getElem?_eq_getElem (by omega)))
  obtain ⟨p', n', c', e2, s2⟩ := rep_bytes (hr 1 _ vals[1] rfl (Array.getElem?_eq_getElem (by omega)))
  rw [hv, e1, e2]
  refine (Compare0 w s1 s2).mono fun e w' ⟨he, hx⟩ => ⟨.ret (.k (.int .i64 (Lib.compareBytes a b))), [], g, ⟨rfl, rfl⟩, ?_⟩
  obtain ⟨k1, k2, k3⟩ := hm.ext (g' := g) ⟨rfl, rfl, rfl, Nat.le_refl _, fun _ _ _ => rfl, fun _ _ _ _ => ⟨rfl, rfl⟩, fun _ _ _ _ h => h, fun _ _ _ h => h, fun _ _ _ _ => rfl⟩ hx (fun _ _ _ => Iff.rfl) rfl rfl (fun b o hb => hm.fut b o (Nat.le_trans hx.size hb))
  exact ⟨k1, k2, k3, _, he, .k _⟩
theorem cmp_less : ∀ (a b : List UInt8), Lib.compareBytes a b = if Op.bytesLess a b = true then -1 else if Op.bytesLess b a = true then 1 else 0
  | [], [] => rfl
  | [], _ :: _ => rfl
  | _ :: _, [] => rfl
  | x :: r, y :: s => by
    have ih := cmp_less r s
    unfold Lib.compareBytes
    by_cases h1 : x < y
    · have e : Op.bytesLess (x :: r) (y :: s) = true := by simp only [Op.bytesLess, decide_eq_true h1, Bool.true_or]
      rw [if_pos h1, if_pos e]
    · rw [if_neg h1]
      by_cases h2 : y < x
      · have hne : ¬ x = y := fun e => by subst e; exact h1 h2
        have e : ¬ Op.bytesLess (x :: r) (y :: s) = true := by simp [Op.bytesLess, h1, hne]
        have e2 : Op.bytesLess (y :: s) (x :: r) = true := by simp only [Op.bytesLess, decide_eq_true h2, Bool.true_or]
        rw [if_pos h2, if_neg e, if_pos e2]
      · have e : x = y := UInt8.toNat_inj.1 (by
          have h3 := mt UInt8.lt_iff_toNat_lt.2 h1
          have h4 := mt UInt8.lt_iff_toNat_lt.2 h2
          omega)
        subst e
        rw [if_neg h2, ih]
        have e1 : Op.bytesLess (x :: r) (x :: s) = Op.bytesLess r s := by simp [Op.bytesLess]
        have e2 : Op.bytesLess (x :: s) (x :: r) = Op.bytesLess s r := by simp [Op.bytesLess]
        rw [e1, e2]
theorem less_asym {a b : List UInt8} (h : Op.bytesLess a b = true) : ¬ Op.bytesLess b a = true := by
  have h1 := cmp_less a b
  have h2 := cmp_less b a
  rw [if_pos h] at h1
  intro h3
  rw [if_pos h3] at h2
  have : ∀ a b : List UInt8, Op.bytesLess a b = true → Op.bytesLess b a = true → False := by
    intro a
    induction a with
    | nil => intro b h h'; cases b with
      | nil => simp [Op.bytesLess] at h
      | cons y s => simp [Op.bytesLess] at h'
    | cons x r ih => intro b h h'; cases b with
      | nil => simp [Op.bytesLess] at h
      | cons y s =>
        simp only [Op.bytesLess, Bool.or_eq_true, Bool.and_eq_true, decide_eq_true_eq, beq_iff_eq, UInt8.lt_iff_toNat_lt] at h h'
        rcases h with h | ⟨e, h⟩
        · rcases h' with h' | ⟨e', h'⟩
          · omega
          · subst e'; omega
        · subst e
          rcases h' with h' | ⟨_, h'⟩
          · omega
          · exact ih s h h'
  exact this a b h h3
end Cp
end Lf
open Go.RowKit Rg
set_option maxRecDepth 100000
namespace Lf
open Pk
namespace Cm
open Sq
def lt8 (a b : List UInt8) : Prop := Op.bytesLess a b = true
theorem less_tr : ∀ {a b c : List UInt8}, lt8 a b → lt8 b c → lt8 a c := by
  unfold lt8
  intro a
  induction a with
  | nil => intro b c h h'; cases b with
    | nil => simp [Op.bytesLess] at h
    | cons y s => cases c with
      | nil => simp [Op.bytesLess] at h'
      | cons z u => simp [Op.bytesLess]
  | cons x r ih => intro b c h h'; cases b with
    | nil => simp [Op.bytesLess] at h
    | cons y s => cases c with
      | nil => simp [Op.bytesLess] at h'
      | cons z u =>
        simp only [Op.bytesLess, Bool.or_eq_true, Bool.and_eq_true, decide_eq_true_eq, beq_iff_eq, UInt8.lt_iff_toNat_lt] at h h' ⊢
        rcases h with h | ⟨e, h⟩
        · rcases h' with h' | ⟨e', h'⟩
          · left; omega
          · subst e'; left; exact h
        · subst e
          rcases h' with h' | ⟨e', h'⟩
          · left; exact h'
          · exact .inr ⟨e', ih h h'⟩
theorem less_tot : ∀ {a b : List UInt8}, ¬ lt8 a b → lt8 b a ∨ a = b := by
  unfold lt8
  intro a
  induction a with
  | nil => intro b h; cases b with
    | nil => exact .inr rfl
    | cons y s => simp [Op.bytesLess] at h
  | cons x r ih => intro b h; cases b with
    | nil => left; rfl
    | cons y s =>
      simp only [Op.bytesLess, Bool.or_eq_true, Bool.and_eq_true, decide_eq_true_eq, beq_iff_eq, UInt8.lt_iff_toNat_lt] at h ⊢
      by_cases h1 : y.toNat < x.toNat
      · exact .inl (.inl h1)
      · have e : x = y := UInt8.toNat_inj.1 (by
          have : ¬ x.toNat < y.toNat := fun k => h (.inl k)
          omega)
        subst e
        rcases ih (b := s) fun k => h (.inr ⟨rfl, k⟩) with k | k
        · exact .inl (.inr ⟨rfl, k⟩)
        · exact .inr (by rw [k])
section
variable {f : Hdr → List UInt8} {all : List Hdr}
theorem J_all (hf : ∀ h, (f h).length = 32) (h : ∀ x ∈ all, x.ok) (h0 : 0 < all.length) {o : List Nat} (ho : ∀ x ∈ o, 1 ≤ x ∧ x < all.length) (hd : o.Nodup) : ∀ t, t ≤ o.length → ∃ R E, J f all o t R E
  | 0, _ => ⟨_, _, J_start h0 ⟨hf _, (getD_ok h h0).number⟩⟩
  | t + 1, ht => by
    obtain ⟨R, E, hj⟩ := J_all hf h h0 ho hd t (by omega)
    exact ⟨_, _, J_step hj ht ho hd ⟨hf _, (getD_ok h (ho _ (getD_mem ht)).2).number⟩ rfl⟩
theorem marks_are (hf : ∀ h, (f h).length = 32) (h : ∀ x ∈ all, x.ok) (h0 : 0 < all.length) : Ch.Mk (sgH f) all (fun i => (mksR f all).lookup i) ∧ Once (mksR f all) ∧ ∀ x ∈ mksR f all, x.1 < all.length ∧ x.2 < all.length := by
  obtain ⟨sp, ss⟩ := So.sort_spec (nums all) (ord (all.length - 1))
  have hol := sp.length_eq
  rw [ord_len] at hol
  have hmem : ∀ x, x ∈ So.sort (nums all) (ord (all.length - 1)) ↔ 1 ≤ x ∧ x < all.length := fun x => by
    rw [sp.mem_iff, ord_mem]
    omega
  have hod : (So.sort (nums all) (ord (all.length - 1))).Nodup := sp.nodup_iff.2 (ord_nodup _)
  rw [ord_len] at ss
  unfold mksR
  generalize So.sort (nums all) (ord (all.length - 1)) = o at *
  obtain ⟨R, E, hj⟩ := J_all hf h h0 (fun x hx => (hmem x).1 hx) hod o.length (Nat.le_refl _)
  have he := hj.eq
  have hg := hj.good
  have hr := hj.rel
  rw [List.take_length] at he hg hr
  rw [he]
  have hp : o.Pairwise (Ch.Ord (sgH f) all) := List.pairwise_iff_getElem.2 fun i j hi hj hij => by
    refine ⟨?_, List.pairwise_iff_getElem.1 (List.nodup_iff_pairwise_ne.1 hod) i j hi hj hij⟩
    have := ss i j (Nat.zero_le _) (Nat.le_of_lt hij) (by omega)
    unfold nums at this
    have e1 : o.getD i default = o[i] := by rw [List.getD_eq_getElem?_getD, List.getElem?_eq_getElem hi, Option.getD_some]
    have e2 : o.getD j default = o[j] := by rw [List.getD_eq_getElem?_getD, List.getElem?_eq_getElem hj, Option.getD_some]
    rw [e1, e2] at this
    exact this
  have hm := Ch.marks_mk (s := sgH f) h0 hmem hp
  have e : (fun i => R.lookup i) = (o.foldl (Ch.St.step (sgH f) all) (Ch.St.start (sgH f) all)).R := funext fun i => (hr.r i).symm
  show Ch.Mk (sgH f) all (fun i => R.lookup i) ∧ Once R ∧ _
  rw [e]
  exact ⟨hm, hg.o1, fun x hx => (hg.r x hx).2⟩
-- the best one
structure Bt (f : Hdr → List UInt8) (all : List Hdr) (M : Nat → Option Nat) (t b : Nat) : Prop where
  is : (M b).isSome = true
  lt : b < all.length
  bt : b = 0 ∨ b < t
  top : ∀ i, i < t → (M i).isSome = true → nums all i < nums all b ∨ (nums all i = nums all b ∧ (lt8 (f (all.getD b default)) (f (all.getD i default)) ∨ (f (all.getD b default) = f (all.getD i default) ∧ b ≤ i)))
variable {M : Nat → Option Nat} {t b : Nat}
theorem Bt.start (hM : Ch.Mk (sgH f) all M) : Bt f all M 0 0 := ⟨hM.zero, hM.lt 0 hM.zero, .inl rfl, fun i h => by omega⟩
theorem Bt.bt' (h : Bt f all M t b) : b = 0 ∨ b < t + 1 := by rcases h.bt with h | h <;> omega
theorem Bt.skip (h : Bt f all M t b) (ht : M t = none) : Bt f all M (t + 1) b := ⟨h.is, h.lt, h.bt', fun i hi hs => by
  rcases Nat.lt_or_ge i t with h1 | h1
  · exact h.top i h1 hs
  · obtain rfl : i = t := by omega
    rw [ht] at hs
    cases hs⟩
theorem Bt.less (h : Bt f all M t b) (ht : nums all t < nums all b) : Bt f all M (t + 1) b := ⟨h.is, h.lt, h.bt', fun i hi hs => by
  rcases Nat.lt_or_ge i t with h1 | h1
  · exact h.top i h1 hs
  · obtain rfl : i = t := by omega
    exact .inl ht⟩
theorem Bt.more (h : Bt f all M t b) (hs : (M t).isSome = true) (hl : t < all.length) (ht : nums all b < nums all t) : Bt f all M (t + 1) t := ⟨hs, hl, .inr (by omega), fun i hi hs => by
  rcases Nat.lt_or_ge i t with h1 | h1
  · rcases h.top i h1 hs with k | ⟨k, _⟩ <;> left <;> omega
  · obtain rfl : i = t := by omega
    exact .inr ⟨rfl, .inr ⟨rfl, Nat.le_refl _⟩⟩⟩
theorem Bt.eqL (h : Bt f all M t b) (hs : (M t).isSome = true) (hl : t < all.length) (ht : nums all b = nums all t) (hc : lt8 (f (all.getD t default)) (f (all.getD b default))) : Bt f all M (t + 1) t := ⟨hs, hl, .inr (by omega), fun i hi hs => by
  rcases Nat.lt_or_ge i t with h1 | h1
  · rcases h.top i h1 hs with k | ⟨k, k2⟩
    · left; omega
    · right
      refine ⟨by omega, .inl ?_⟩
      rcases k2 with k2 | ⟨k2, _⟩
      · exact less_tr hc k2
      · rw [← k2]; exact hc
  · obtain rfl : i = t := by omega
    exact .inr ⟨rfl, .inr ⟨rfl, Nat.le_refl _⟩⟩⟩
theorem Bt.eqG (h : Bt f all M t b) (ht : nums all b = nums all t) (hc : ¬ lt8 (f (all.getD t default)) (f (all.getD b default))) : Bt f all M (t + 1) b := ⟨h.is, h.lt, h.bt', fun i hi hs => by
  rcases Nat.lt_or_ge i t with h1 | h1
  · exact h.top i h1 hs
  · obtain rfl : i = t := by omega
    right
    refine ⟨ht.symm, ?_⟩
    rcases less_tot hc with k | k
    · exact .inl k
    · exact .inr ⟨k.symm, by rcases h.bt with h | h <;> omega⟩⟩
theorem Bt.best (h : Bt f all M t b) (hM : Ch.Mk (sgH f) all M) (ht : t = all.length) : Ch.Best (sgH f) lt8 all M b := ⟨h.is, fun i hi => h.top i (by have := hM.lt i hi; omega) hi⟩
end
structure LineOf (f : Hdr → List UInt8) (all l : List Hdr) : Prop where
  ex : ∃ M b, Ch.Mk (sgH f) all M ∧ Ch.Best (sgH f) lt8 all M b ∧ Ch.Pth all M b l
end Cm
end Lf
end Go.Proofs.Ytgjoecocahpfhaa

/- A part of the proof: texts joined. -/
import Derived.Test.YtkbimhccaacobaaQ24fa0a01
namespace Go.Proofs.Ytkbimhccaacobaa
open Go.RowKit Rg Wm Ar
set_option linter.unusedVariables false
set_option maxRecDepth 100000
namespace Lf
open Tr Ro Pk
theorem ck_le : ∀ (cs : List (List UInt8)) (first : Bool) (h p : List UInt8), (ck sumB cs first h p).2.length ≤ 1024 := by
 intro cs
 induction cs with
 | nil => intro first h p; exact Nat.zero_le _
 | cons c r ih =>
  intro first h p
  rw [ck_cons]
  split
  ·cases hr : readS c with
   | none => exact Nat.zero_le _
   | some s =>
    have := (readS_bound hr).2.1
    simp only []
    split
    ·exact Nat.zero_le _
    ·split
     ·split
      ·have := nxS_val s p; show (nxS s p).2.2.length ≤ _; omega
      ·exact Nat.zero_le _
     ·exact ih _ _ _
  ·exact Nat.zero_le _
theorem way_lens {n : Nd} (hR : Right n 0) (q : Pa) : ∀ t ∈ wayA n q, t.length < 3000000 := fun t ht => by
 have := cds_len n 0 hR t (way_mem sumB _ n q 0 hR t ht); omega
theorem wayA_le (n : Nd) (q : Pa) : (wayA n q).length ≤ q.length + 1 := way_len sumB _ n q
namespace Rw
end Rw
end Lf
open Go.RowKit Rg Wm Ar
set_option linter.unusedVariables false
set_option maxRecDepth 100000
namespace Lf
open Pk Ro Tr
namespace Wo
def spr (s : Slot) : Pr := (sumB (wordB s.1), numL s.2)
theorem spr_ok {s : Slot} (h : s.ok) : prOk (spr s) := ⟨by show (sumB _).length ≤ 32; rw [sumB_len]; omega, by show (numL s.2).length ≤ 1024; have := num32 h.2; omega⟩
theorem pair_b (k v : List UInt8) : vfill (fun i => [(0, 1), (1, 1)][i]?) (([.sl, .sl] : List Z).map Z.v) [(0, bV k), (1, bV v)] = some (prC (k, v)) := by rw [prC_eq]; rfl
theorem pair_cv (p : Pr) : V.cv.go (fun _ => false) true (prC p) = prC p := by rw [prC_eq]; rfl
theorem take_spr {l : List Slot} {i : Nat} (h : i < l.length) : (l.take (i + 1)).map spr = (l.take i).map spr ++ [spr (l.getD i default)] := by
 rw [List.take_succ_eq_append_getElem h, List.map_append, List.getD_eq_getElem?_getD, List.getElem?_eq_getElem h]
 rfl
set_option maxHeartbeats 4000000 in
theorem slotTree_ (l : List Slot) (h : ∀ s ∈ l, s.ok) (hn : l.length < 2000000) : LF Try.prog 123 [slsV l] (fun _ => rnV (ofN (ofP (l.map spr)))) none := by
 have hlm : (l.map slV).length = l.length := List.length_map _
 have hrf := And.intro slC_refs prC_refs
 have c9 : LF Try.prog 33 [prsV (l.map spr)] (fun _ => .t [rnV (ofN (ofP (l.map spr))), erV 0]) none := by
  rcases Te.Of_ (l.map spr) (by rw [List.length_map]; omega) (fun p hp => by obtain ⟨s, hs, rfl⟩ := List.mem_map.1 hp; have := spr_ok (h s hs); exact ⟨Nat.lt_of_le_of_lt this.1 (by decide), Nat.lt_of_le_of_lt this.2 (by decide)⟩) with ⟨_, c⟩ | ⟨⟨p, hp, hk⟩, _⟩
  ·exact c
  ·obtain ⟨s, hs, rfl⟩ := List.mem_map.1 hp
   exact absurd (spr_ok (h s hs)) hk
 generalize ofN (ofP (l.map spr)) = T at *
 have hT4 := rnC_len T
 have hrg := rnC_refs
 have hcv := rnC_cv
 refine LFx.mk' tt Try.func123 rfl rfl rfl (by kernel_rfl) rfl rfl fun F => ?_
 refine wk ?_ trueW trueW
 refine LC.nilrow 3 60 66 2 rfl rfl rfl ?_
 refine LC.loop2 (fun i S => [(0, slsV l), (2, .p 2 0), (3, .s (some 60) (S.map prV)), (10, slsV l), (11, .k (.int .i64 ((l.length : Nat) : Int))), (12, .k (.int .i64 ((i : Nat) : Int)))]) (fun i S => [(60, .r 66 2 S.length), (2, .b [.k (.int .i64 0), .nil, .nil, .nil])]) (fun i S => i ≤ l.length ∧ S = (l.take i).map spr) ((l.length - ·)) (0) ([]) ⟨by omega, rfl⟩ ⟨rfl, rfl, rfl, rfl, rfl, rfl, trivial⟩ ⟨rfl, rfl, trivial⟩ rfl rfW rfW ?_
 rintro i S ⟨hi, hS⟩
 have hSl : S.length = i := by rw [hS, List.length_map, List.length_take]; omega
 have hSm : (S.map prV).length = S.length := List.length_map _
 have z1 : ∀ e ∈ S.map prV, e.cells.length = 2 := fun e he => by obtain ⟨x, _, rfl⟩ := List.mem_map.1 he; exact prC_len x
 rcases Nat.lt_or_ge i l.length with hlt | hge
 ·have hs := h _ (getD_in hlt)
  have hok : i + 1 ≤ l.length ∧ S ++ [spr (l.getD i default)] = (l.take (i + 1)).map spr := ⟨hlt, by rw [hS]; exact (take_spr hlt).symm⟩
  have hwl := wordB_len (l.getD i default).1
  have c1 := Bytes (l.getD i default).1
  have c2 := Sp.Sum (wordB (l.getD i default).1) (by omega)
  have c3 := Pw.Num (l.getD i default).2
  rw [Nat.mod_eq_of_lt hs.2] at c3
  have hsl := sumB_len (wordB (l.getD i default).1)
  have hl8 := slC_len (l.getD i default)
  have ld1 := @sl_k
  have ld2 := @sl_v
  have hfb : FrzBox 7 7 := ⟨⟩
  have hcq : CutQ ((sumB (wordB (l.getD i default).1)).map bK) 32 (sumB (wordB (l.getD i default).1)) := ⟨by rw [List.take_of_length_le (by rw [List.length_map, hsl]; omega)], hsl⟩
  have hbg := bgo_mapb (sumB (wordB (l.getD i default).1))
  have c4 : LF Try.prog 50 [.s none ((List.take (32 - 0) (List.drop 0 (wordB (l.getD i default).1))).map bK)] (fun _ => .a ((sumB (wordB (l.getD i default).1)).map bK)) none := by
   rw [Nat.sub_zero, List.drop_zero, List.take_of_length_le (by omega)]
   exact c2
  have hcl := pair_b (sumB (wordB (l.getD i default).1)) (numL (l.getD i default).2)
  have hcn := pair_cv (sumB (wordB (l.getD i default).1), numL (l.getD i default).2)
  have hbr := prC_bare
  have hpl := prC_len (sumB (wordB (l.getD i default).1), numL (l.getD i default).2)
  unfold spr at hok
  clear h hS hs
  exact wk trueW trueW trueW
 ·obtain rfl : i = l.length := by omega
  rw [List.take_length] at hS
  subst hS
  clear h
  exact wk trueW trueW trueW
end Wo
end Lf
namespace Lf
namespace Rw
end Rw
end Lf
namespace Lf
namespace Te
end Te
end Lf
open Go.RowKit Rg Rp Wm Ar
set_option maxRecDepth 100000
namespace Lf
theorem flat_cells {sz : Nat} : ∀ {es : List V}, (∀ e ∈ es, e.cells.length = sz) → (es.flatMap V.cells).length = es.length * sz
 | [], _ => by simp
 | e :: r, h => by
  rw [List.flatMap_cons, List.length_append, h e List.mem_cons_self, flat_cells fun a ha => h a (List.mem_cons_of_mem _ ha), List.length_cons, Nat.succ_mul, Nat.add_comm]
def Gh.off (g : Gh) (a : Option Nat) : Gh := ⟨fun b o => g.S b o ∧ a ≠ some b, g.bx, g.rw⟩
theorem flat_bytes {l : List UInt8} {j : Nat} {u : V} (h : ((l.map bK).flatMap V.cells)[j]? = some u) : ∃ b, u = bK b := by
 obtain ⟨e, he, hu⟩ := List.mem_flatMap.1 (List.mem_of_getElem? h)
 obtain ⟨b, _, rfl⟩ := List.mem_map.1 he
 exact ⟨b, by simpa [V.cells, bK] using hu⟩
theorem rep_off {w : World} {g : Gh} {a : Option Nat} {xs : List Value} {E sz n c : Nat} (hown : w.oRow 0 E sz (.slice (a.map fun b => ⟨b, 0, none⟩) n c) n xs) (hfree : ∀ b, a = some b → ∀ o, n * sz ≤ o → ¬ g.S b o)
  (hsl : ∀ (j : Nat) x, xs[j]? = some x → ∃ ad m cap, x = .slice ad m cap) {l : List UInt8} {x : Value} (h : Rep w g.bare (.s none (l.map bK)) x) : Rep w (g.off a).bare (.s none (l.map bK)) x := by
 have hes : ∀ (j : Nat) u, ((l.map bK).flatMap V.cells)[j]? = some u → ∃ b, u = bK b := fun j u => flat_bytes
 generalize l.map bK = es' at h hes ⊢
 cases h with
 | s0 ht => exact .s0 fun _ h => by cases h
 | se a' ht => exact .se a' fun _ h => by cases h
 | @s _ _ _ b off cap size xs' hn hm hp hs hx hc ht =>
  refine .s xs' hn hm hp hs (fun j u hj => ?_) (fun j u hj => ?_) (fun _ h => by cases h)
  ·obtain ⟨p1, p2, p3⟩ := hx j u hj
   refine ⟨p1, ⟨p2, fun ha => ?_⟩, p3⟩
   have q : off + j < n * sz := by
    rcases Nat.lt_or_ge (off + j) (n * sz) with h | h
    ·exact h
    ·exact absurd p2 (hfree b ha _ h)
   have hlen := hown.1
   have hx1 : xs[off + j]? = some (xs[off + j]'(by omega)) := List.getElem?_eq_getElem _
   have h5 := oRow_cells hown (g := b) (by simp [ha, Value.ownBlock]) (off + j) _ hx1
   rw [Addr.add_lit, Nat.zero_add] at h5
   rw [h5] at p3
   obtain ⟨ad, m, cp, e⟩ := hsl _ _ hx1
   obtain ⟨b', rfl⟩ := hes j u hj
   have h6 := hc j _ hj
   rw [e] at p3
   injection p3 with p3
   rw [← p3] at h6
   cases h6
  ·obtain ⟨b', rfl⟩ := hes j u hj
   have h6 := hc j _ hj
   generalize xs' j = z at h6 ⊢
   cases h6
   exact .k _
theorem LM.buf {P : Program} {f : Nat} {args es : List V} {E sz n k : Nat} {u : Value} (hn : es.length = n) (h0 : 0 < n) (hb : ∀ e ∈ es, e.cells.length = sz ∧ ∀ c ∈ e.cells, ∃ l : List UInt8, c = .s none (l.map bK))
  (h : LM P f args [] fun o m => o = .ret (.t [.s (some k) es, .k u]) ∧ m = [(k, .r E sz n)]) : LM P f args [] fun o m => o = .ret (.t [.w k n sz 0 n, .k u]) ∧ m = [(k, .w E sz n es)] := by
 refine ⟨h.ok, fun g w vals h1 h2 h3 => Calls.mono (h.go g w vals h1 h2 h3) ?_⟩
 rintro e w' ⟨o, mo, g', ⟨rfl, rfl⟩, hev, hrel, hk, x, rfl, hrep⟩
 cases hrep with
 | @t _ _ vs hl hc =>
 have hl2 : vs.size = 2 := hl.symm
 obtain ⟨y, hy⟩ : ∃ y, vs[0]? = some y := ⟨_, Array.getElem?_eq_getElem (by omega)⟩
 have hr0 := hc 0 _ y rfl hy
 have hko := hrel.ob k _ (aget_self ..)
 cases hko with
 | @r _ _ _ c a hg hR =>
 obtain ⟨hp, ⟨xs, hown⟩, hfree⟩ := hR
 have hab : ∀ b, a = some b → w.heap.size ≤ b := fun b hb => by
  rcases hrel.wr k _ b 0 (aget_self ..) ⟨_, _, by rw [hg, hb]⟩ with h | ⟨i, m, hm, _⟩
  ·exact h
  ·cases hm
 have hlt : ∀ b, a = some b → b < w'.heap.size := fun b hb => (oRow_lt hown b (by simp [hb, Value.ownBlock])).2
 have hfl : (es.flatMap V.cells).length = n * sz := by rw [flat_cells fun e he => (hb e he).1, hn]
 have hxl := hown.1
 cases hr0 with
 | s0 ht => simp at hn; omega
 | se a' ht => simp at hn; omega
 | @s _ _ _ b off cap size xs' hn' hm' hp' hs' hx' hc' ht =>
 obtain ⟨a1, l1, c1, e1, e2, e3⟩ := ht k rfl
 rw [hg] at e1
 cases e1
 have hy2 : Value.slice (some ⟨b, off, none⟩) es.length cap = .slice (a.map fun b => ⟨b, 0, none⟩) n c := by
  rcases e3 hn with h | ⟨_, h, _⟩
  ·exact h
  ·omega
 injection hy2 with q1 q2 q3
 obtain ⟨rfl, rfl⟩ : a = some b ∧ off = 0 := by
  cases a with
  | none => cases q1
  | some a => simp at q1; exact ⟨by rw [q1.1], q1.2⟩
 have hat : ∀ (j : Nat) x, xs[j]? = some x → ∃ l : List UInt8, (es.flatMap V.cells)[j]? = some (.s none (l.map bK)) ∧ Rep w' g'.bare (.s none (l.map bK)) x := fun j x hj => by
  have hjl : j < (es.flatMap V.cells).length := by
   have := (List.getElem?_eq_some_iff.1 hj).1
   omega
  have hu := List.getElem?_eq_getElem hjl
  obtain ⟨e, he, hue⟩ := List.mem_flatMap.1 (List.getElem_mem hjl)
  obtain ⟨l, hl⟩ := (hb e he).2 _ hue
  rw [hl] at hu
  obtain ⟨p1, p2, p3⟩ := hx' j _ hu
  have h5 := oRow_cells hown (g := b) (by simp [Value.ownBlock]) j _ hj
  rw [Addr.add_lit] at h5
  rw [h5] at p3
  injection p3 with p3
  rw [p3]
  exact ⟨l, hu, hc' j _ hu⟩
 have hsl : ∀ (j : Nat) x, xs[j]? = some x → ∃ ad m cap, x = .slice ad m cap := fun j x hj => by
  obtain ⟨l, _, hr⟩ := hat j x hj
  generalize l.map bK = es' at hr
  cases hr with
  | s0 ht => exact ⟨_, _, _, rfl⟩
  | se a' ht => exact ⟨_, _, _, rfl⟩
  | s xs' hn hm hp hs hx hc ht => exact ⟨_, _, _, rfl⟩
 have hne : ∀ b', b' < w.heap.size → some b ≠ some b' := fun b' hb' e => by
  injection e with e
  have := hab b rfl
  omega
 have hone : ∀ {i : Nat} {m m0 : M}, aget [(k, m0)] i = some m → i = k ∧ m = m0 := fun {i m m0} h => by
  rw [aget_cons] at h
  split at h
  ·rename_i e; cases h; exact ⟨e.symm, rfl⟩
  ·cases h
 have hnone : ∀ {i : Nat} {m m0 : M}, aget [(k, m)] i = none → aget [(k, m0)] i = none := fun {i m m0} h => by
  rw [aget_cons] at h ⊢
  split at h
  ·cases h
  ·rename_i e; rw [if_neg e]; rfl
 subst hn
 have hR2 : RelM (lentF g [] w) (g'.off (some b)) [(k, .w E sz es.length es)] w' := by
  refine ⟨fun i m hi => ?_, fun i m b' o hi hf => ?_, fun i j m m' b' o hij hi hj => ?_, fun i hi => hrel.nbx i (hnone hi), fun i hi => hrel.nrw i (hnone hi), fun b' o hb' => ⟨hrel.fut b' o hb', fun e => ?_⟩, ⟨hrel.loc.tab, hrel.loc.bx, hrel.loc.rw⟩⟩
  ·obtain ⟨rfl, rfl⟩ := hone hi
   refine .w (a := some b) (c := c) hg ⟨hp, fun e he => ⟨(hb e he).1, fun u hu => ?_⟩, ⟨xs, hown, fun j u x hu hx => ?_⟩, fun b' e o h => h.2 e⟩
   ·obtain ⟨l, rfl⟩ := (hb e he).2 u hu; rfl
   ·obtain ⟨l, hu', hr⟩ := hat j x hx
    rw [hu] at hu'
    cases hu'
    exact rep_off hown hfree hsl hr
  ·obtain ⟨rfl, rfl⟩ := hone hi
   exact hrel.wr _ _ b' o (aget_self ..) hf
  ·exact absurd ((hone hi).1.trans (hone hj).1.symm) hij
  ·injection e with e
   have := hlt b rfl
   omega
 refine ⟨_, _, g'.off (some b), ⟨rfl, rfl⟩, ⟨hev.size, fun b' o hb' hs => ⟨⟨(hev.st b' o hb' hs).1, hne b' hb'⟩, (hev.st b' o hb' hs).2⟩, hev.bx, hev.rw⟩, hR2, ⟨hk.os, hk.tape, hk.output, hk.size, hk.blk, hk.cell, fun b' o hb hB hS => hk.S1 b' o hb hB hS.1, fun b' o hb hS => ⟨hk.S2 b' o hb hS, hne b' hb⟩, hk.cellS⟩, _, rfl, ?_⟩
 refine .t hl fun j u' x hu hx => ?_
 match j, hu with
 | 0, hu =>
  cases hu
  rw [hy] at hx
  cases hx
  exact .w ⟨some b, es.length, c, hg, Nat.le_refl _, fun _ => ⟨by omega, by omega, fun _ => by simp⟩⟩
 | 1, hu =>
  cases hu
  have := hc 1 _ x rfl hx
  cases this
  exact .k _
end Lf
namespace Lf
namespace Te
end Te
end Lf
namespace Lf
namespace Te
end Te
end Lf
namespace Lf
section
end
namespace Te
end Te
end Lf
namespace Lf
namespace Rw
end Rw
end Lf
open Go.RowKit Rg Wm Ar
set_option linter.unusedVariables false
set_option maxRecDepth 100000
namespace Lf
open Pk Ro Tr
namespace Wo
theorem ofL_size : ∀ (l : List (Pa × List UInt8)) (n : Nd) (c : Nat), (∀ e ∈ l, e.1.length + e.2.length + 50 ≤ c) → (ofN (ofL n l)).size ≤ (ofN n).size + l.length * c
 | [], n, c, _ => by show (ofN n).size ≤ _; omega
 | (p, v) :: r, n, c, h => by
  have h1 := size_put2 n p v
  have h2 := h (p, v) List.mem_cons_self
  have h3 := ofL_size r (Tr.put n p v) c fun e he => h e (List.mem_cons_of_mem _ he)
  show (ofN (ofL (Tr.put n p v) r)).size ≤ _
  rw [List.length_cons, Nat.succ_mul]
  simp only at h2
  omega
theorem ofP_size {ps : List Pr} {c : Nat} (h : ∀ p ∈ ps, p.1.length = 32 ∧ p.2.length + 114 ≤ c) : (ofN (ofP ps)).size ≤ 1 + ps.length * c := by
 have := ofL_size (ps.map pkP) .no c fun e he => by
  obtain ⟨p, hp, rfl⟩ := List.mem_map.1 he
  have h1 := h p hp
  have h2 := keyP_len p.1
  show (keyP p.1).length + p.2.length + 50 ≤ c
  omega
 rw [List.length_map] at this
 have h0 : (ofN Nd.no).size = 1 := rfl
 rw [h0] at this
 exact this
def slT (a : Ac) : Nd := ofP (a.slots.map spr)
theorem slT_right {a : Ac} (h : a.ok) : Right (slT a) 0 := ofP_right fun p hp => by
 obtain ⟨s, hs, rfl⟩ := List.mem_map.1 hp
 exact spr_ok (h.slots s hs)
theorem slT_size {a : Ac} (h : a.ok) (hn : a.slots.length ≤ 131072) : (ofN (slT a)).size < 20000000 := by
 have := ofP_size (ps := a.slots.map spr) (c := 146) fun p hp => by
  obtain ⟨s, hs, rfl⟩ := List.mem_map.1 hp
  have := num32 (h.slots s hs).2
  exact ⟨sumB_len _, by show (numL s.2).length + 114 ≤ 146; omega⟩
 rw [List.length_map] at this
 show (ofN (ofP _)).size < _
 omega
def leafOf (a : Ac) : Le := ⟨a.nonce, a.money, sumB (hcB (slT a)), sumB a.code⟩
theorem leafOf_ok {a : Ac} (h : a.ok) : (leafOf a).ok := ⟨h.nonce, h.money, sumB_len _, sumB_len _⟩
set_option maxHeartbeats 2000000 in
theorem Leaf_ok (a : Ac) (h : a.ok) (hn : a.slots.length ≤ 131072) (hr : sRight a.slots = true) (hc : a.code.length ≤ 1024) : LF Try.prog 102 [acV a] (fun _ => .t [leV (leafOf a), .k (.int .i64 0)]) none := by
 have c1 := slotsRight_ a.slots h.slots h.sl
 rw [hr] at c1
 have c2 := slotTree_ a.slots h.slots h.sl
 have c3 := Rw.Root_ok (ofN (slT a)) (slT_size h hn) (rt_of _ 0 (slT_right h))
 rw [toN_of] at c3
 have c4 := Sp.Sum a.code (by omega)
 have hl1 := sumB_len (hcB (slT a))
 have hl2 := sumB_len a.code
 have hcl := leaf_b a.nonce a.money _ _ hl1 hl2
 have hcn := le_cvT (leafOf a)
 have hle := leC_len (leafOf_ok h).slots (leafOf_ok h).code
 have hac : (acC a).length = 7 := acS_len
 have ld1 := @ac_n
 have ld2 := @ac_m
 have ld3 := @ac_c
 have ld4 := @ac_s
 have hlm := limbs_len a.money
 have hrf := And.intro acS_refs leC_refs
 have hrg := rnC_refs
 unfold leafOf slT at *
 generalize ofP (a.slots.map spr) = T at *
 have hT4 := rnC_len (ofN T)
 clear h hr
 refine LFx.mk' tt Try.func102 rfl rfl rfl (by kernel_rfl) rfl rfl fun F => ?_
 exact wk trueW trueW trueW
end Wo
end Lf
open Go.RowKit Rg Wm Ar
set_option linter.unusedVariables false
set_option maxRecDepth 100000
namespace Lf
open Pk Ro Tr
namespace Wo
theorem tx_len {t : List UInt8} (h : t.length ≤ 32) : (enc (txI t)).length ≤ 33 := by
 unfold txI enc
 split
 ·omega
 ·rw [List.length_append]
  unfold head
  rw [if_pos (by omega), List.length_singleton]
  omega
theorem leB_len2 {l : Le} (h : l.ok) : (leB l).length ≤ 141 := by
 have h1 := tx_len (num32 (nonce_m h.nonce))
 have h2 := tx_len (num32 h.money)
 have h3 := tx_len (t := l.slots) (by rw [h.slots]; omega)
 have h4 := tx_len (t := l.code) (by rw [h.code]; omega)
 have hk : (encL [txI (numL l.nonce), txI (numL l.money), txI l.slots, txI l.code]).length ≤ 132 := by
  simp only [encL, List.length_append, List.length_nil]
  omega
 have h9 := head_len (b := 192) (n := (encL [txI (numL l.nonce), txI (numL l.money), txI l.slots, txI l.code]).length) (by omega)
 unfold leB leI enc
 rw [List.length_append]
 omega
def hpr (h : Ho) : Pr := (sumB h.addr, leB (leafOf h.acc))
theorem hpr_ok {h : Ho} (k : h.ok) : prOk (hpr h) := ⟨by show (sumB _).length ≤ 32; rw [sumB_len]; omega, by show (leB _).length ≤ 1024; have := leB_len2 (leafOf_ok k.acc); omega⟩
structure Wok (l : List Ho) : Prop where
 ok : ∀ x ∈ l, x.ok
 len : l.length ≤ 69905
 slots : ∀ x ∈ l, x.acc.slots.length ≤ 131072
def wT (l : List Ho) : Nd := ofP (l.map hpr)
theorem wT_right {l : List Ho} (h : Wok l) : Right (wT l) 0 := ofP_right fun p hp => by
 obtain ⟨s, hs, rfl⟩ := List.mem_map.1 hp
 exact hpr_ok (h.ok s hs)
theorem wT_size {l : List Ho} (h : Wok l) : (ofN (wT l)).size < 20000000 := by
 have := ofP_size (ps := l.map hpr) (c := 255) fun p hp => by
  obtain ⟨s, hs, rfl⟩ := List.mem_map.1 hp
  have := leB_len2 (leafOf_ok (h.ok s hs).acc)
  exact ⟨sumB_len _, by show (leB _).length + 114 ≤ 255; omega⟩
 rw [List.length_map] at this
 have := h.len
 show (ofN (ofP _)).size < _
 omega
theorem take_hpr {l : List Ho} {i : Nat} (h : i < l.length) : (l.take (i + 1)).map hpr = (l.take i).map hpr ++ [hpr (l.getD i default)] := by
 rw [List.take_succ_eq_append_getElem h, List.map_append, List.getD_eq_getElem?_getD, List.getElem?_eq_getElem h]
 rfl
theorem cq_ad {h : Ho} (k : h.addr.length = 8) : CutQ (hoC h) 8 h.addr := ⟨by show List.take 8 (hoS _ _ _ _ _) = _; rw [hoS_eq, List.take_append_of_le_length (by rw [len_bs _ k]; omega), List.take_of_length_le (by rw [len_bs _ k]; omega)], k⟩
theorem at_right {l : List Ho} (hr : wRight l = true) {i : Nat} (hi : i < l.length) : hAt l i := of_decide_eq_true hr i hi
set_option maxHeartbeats 4000000 in
theorem leaves_ok (l : List Ho) (h : Wok l) (hr : wRight l = true) : LF Try.prog 101 [hosV l] (fun _ => .t [rnV (ofN (wT l)), erV 0]) none := by
 have hlm : (l.map hoV).length = l.length := List.length_map _
 have hn := h.len
 have c9 : LF Try.prog 33 [prsV (l.map hpr)] (fun _ => .t [rnV (ofN (ofP (l.map hpr))), erV 0]) none := by
  rcases Te.Of_ (l.map hpr) (by rw [List.length_map]; omega) (fun p hp => by obtain ⟨s, hs, rfl⟩ := List.mem_map.1 hp; have := hpr_ok (h.ok s hs); exact ⟨Nat.lt_of_le_of_lt this.1 (by decide), Nat.lt_of_le_of_lt this.2 (by decide)⟩) with ⟨_, c⟩ | ⟨⟨p, hp, hk⟩, _⟩
  ·exact c
  ·obtain ⟨s, hs, rfl⟩ := List.mem_map.1 hp
   exact absurd (hpr_ok (h.ok s hs)) hk
 have c1 := Right_w l h.ok (by omega)
 rw [hr] at c1
 unfold wT
 generalize ofN (ofP (l.map hpr)) = T at *
 have hT4 := rnC_len T
 have hrf := And.intro hoS_refs (And.intro prC_refs (And.intro leC_refs (And.intro rnC_refs acS_refs)))
 have hcv := rnC_cv
 refine LFx.mk' tt Try.func101 rfl rfl rfl (by kernel_rfl) rfl rfl fun F => ?_
 refine wk ?_ trueW trueW
 refine LC.nilrow 4 60 66 2 rfl rfl rfl ?_
 refine LC.loop2 (fun i S => [(0, hosV l), (2, .p 2 0), (4, .s (some 60) (S.map prV)), (14, hosV l), (15, .k (.int .i64 ((l.length : Nat) : Int))), (16, .k (.int .i64 ((i : Nat) : Int)))]) (fun i S => [(60, .r 66 2 S.length), (2, .b [.k (.int .i64 0), .nil, .nil, .nil])]) (fun i S => i ≤ l.length ∧ S = (l.take i).map hpr) ((l.length - ·)) (0) ([]) ⟨by omega, rfl⟩ ⟨rfl, rfl, rfl, rfl, rfl, rfl, trivial⟩ ⟨rfl, rfl, trivial⟩ rfl rfW rfW ?_
 rintro i S ⟨hi, hS⟩
 have hSl : S.length = i := by rw [hS, List.length_map, List.length_take]; omega
 have hSm : (S.map prV).length = S.length := List.length_map _
 have z1 : ∀ e ∈ S.map prV, e.cells.length = 2 := fun e he => by obtain ⟨x, _, rfl⟩ := List.mem_map.1 he; exact prC_len x
 rcases Nat.lt_or_ge i l.length with hlt | hge
 ·have hs := h.ok _ (getD_in hlt)
  have ha := at_right hr hlt
  have hok : i + 1 ≤ l.length ∧ S ++ [hpr (l.getD i default)] = (l.take (i + 1)).map hpr := ⟨hlt, by rw [hS]; exact (take_hpr hlt).symm⟩
  have hal := hs.addr
  have c2 := Leaf_ok (l.getD i default).acc hs.acc (h.slots _ (getD_in hlt)) ha.2.2.1 ha.2.1
  have c4 := WriteLeaf_ (leafOf (l.getD i default).acc) (leafOf_ok hs.acc)
  have hsl := sumB_len (l.getD i default).addr
  have hl15 : (hoC (l.getD i default)).length = 15 := hoS_len hal
  have hle := leC_len (leafOf_ok hs.acc).slots (leafOf_ok hs.acc).code
  have hlb := leB_len2 (leafOf_ok hs.acc)
  have ld1 := @ho_a
  have ld2 := @ho_ac
  have hfb : FrzBox 8 6 := ⟨⟩
  have hb6 : V.bare.go (hoC (l.getD i default)) = some (hoC (l.getD i default)) := hoS_bare _ _ _ _ _
  have hcq6 : CutQ (hoC (l.getD i default)) 8 (l.getD i default).addr := cq_ad hal
  have hcq : CutQ ((sumB (l.getD i default).addr).map bK) 32 (sumB (l.getD i default).addr) := ⟨by rw [List.take_of_length_le (by rw [List.length_map, hsl]; omega)], hsl⟩
  have hbg := bgo_mapb (sumB (l.getD i default).addr)
  have hcl := pair_b (sumB (l.getD i default).addr) (leB (leafOf (l.getD i default).acc))
  have hcn := pair_cv (sumB (l.getD i default).addr, leB (leafOf (l.getD i default).acc))
  have hbr := prC_bare
  have hpl := prC_len (sumB (l.getD i default).addr, leB (leafOf (l.getD i default).acc))
  unfold hpr at hok
  clear h hS hs ha hr
  refine wk ?_ trueW trueW
  have c3 := Sp.Sum (l.getD i default).addr (by omega)
  clear hfb
  have hfb : FrzBox 9 9 := ⟨⟩
  exact wk trueW trueW trueW
 ·obtain rfl : i = l.length := by omega
  rw [List.take_length] at hS
  subst hS
  clear h hr
  exact wk trueW trueW trueW
end Wo
end Lf
open Go.RowKit Rg Wm Ar
set_option linter.unusedVariables false
set_option maxRecDepth 100000
namespace Lf
open Pk Ro Tr
namespace Wo
def stB (l : List Ho) : List UInt8 := sumB (hcB (wT l))
set_option maxHeartbeats 1000000 in
theorem State_ok (l : List Ho) (h : Wok l) (hr : wRight l = true) : LF Try.prog 70 [hosV l] (fun _ => .t [hashV (stB l), .k (.int .i64 0)]) none := by
 have c1 := leaves_ok l h hr
 have c2 := Rw.Root_ok (ofN (wT l)) (wT_size h) (rt_of _ 0 (wT_right h))
 rw [toN_of] at c2
 have hl := sumB_len (hcB (wT l))
 have hrf := rnC_refs
 have hcv := rnC_cv
 unfold stB
 generalize sumB (hcB (wT l)) = R at *
 have hT4 := rnC_len (ofN (wT l))
 generalize ofN (wT l) = T at *
 clear h hr
 refine LFx.mk' tt Try.func70 rfl rfl rfl (by kernel_rfl) rfl rfl fun F => ?_
 exact wk trueW trueW trueW
set_option maxHeartbeats 1000000 in
theorem Prove_ok (l : List Ho) (ad : List UInt8) (h : Wok l) (hr : wRight l = true) (hd : ad.length = 8) : LF Try.prog 71 [hosV l, hashV ad] (fun _ => .t [txV (wayA (wT l) (keyP (sumB ad))), .k (.int .i64 0)]) none := by
 have c1 := leaves_ok l h hr
 have hsl := sumB_len ad
 have c2 := Rw.Make_ok (ofN (wT l)) (sumB ad) (wT_size h) (rt_of _ 0 (wT_right h)) (by omega)
 rw [toN_of] at c2
 have c3 : LF Try.prog 50 [.s none ((List.take (8 - 0) (List.drop 0 ad)).map bK)] (fun _ => .a ((sumB ad).map bK)) none := by
  rw [Nat.sub_zero, List.drop_zero, List.take_of_length_le (by omega)]
  exact Sp.Sum _ (by omega)
 have hrf := rnC_refs
 have hcv := rnC_cv
 generalize wayA (wT l) (keyP (sumB ad)) = Y at *
 have hT4 := rnC_len (ofN (wT l))
 generalize ofN (wT l) = T at *
 generalize sumB ad = K at *
 have hfb : FrzBox 5 8 := ⟨⟩
 have hcq : CutQ (K.map bK) 32 K := ⟨by rw [List.take_of_length_le (by rw [List.length_map, hsl]; omega)], hsl⟩
 have hbg := bgo_mapb K
 clear h hr
 refine LFx.mk' tt Try.func71 rfl rfl rfl (by kernel_rfl) rfl rfl fun F => ?_
 exact wk trueW trueW trueW
theorem zeroA_ok : zeroA.ok := ⟨by decide, by decide, (fun s hs => by cases hs), by decide, by decide⟩
def ckL (e : Nat) (v : List UInt8) : V := if e = 0 then if v = [] then .t [leV (leafOf zeroA), .k (.int .i64 0)] else rdV (rdLf v) else .t [leV leZ, .k (.int .i64 ((e : Nat) : Int))]
theorem rdV_t (v : List UInt8) : ∃ l c, rdV (rdLf v) = .t [leV l, .k (.int .i64 c)] ∧ (leC l).length = 69 := by
 cases ho : rdLf v with
 | none => exact ⟨leZ, 1, rfl, leC_len rfl rfl⟩
 | some l =>
  have h := (rdLf_back ho).2
  exact ⟨l, 0, rfl, leC_len h.slots h.code⟩
set_option maxHeartbeats 2000000 in
theorem CheckLeaf_ (h ad : List UInt8) (codes : List (List UInt8)) (e : Nat) (v : List UInt8) (hh : h.length = 32) (hd : ad.length = 8) (hn : codes.length < 100000000) (ht : ∀ t ∈ codes, t.length < 3000000) (hck : ck sumB codes true h (pB (keyP (sumB ad))) = (e, v)) : LF Try.prog 72 [hashV h, hashV ad, txV codes] (fun _ => ckL e v) none := by
 have hsl := sumB_len ad
 have c1 := Rw.Check_ h (sumB ad) codes hh (by omega) hn ht
 have hvl := ck_le codes true h (pB (keyP (sumB ad)))
 rw [hck] at c1 hvl
 have c2 : LF Try.prog 50 [.s none ((List.take (8 - 0) (List.drop 0 ad)).map bK)] (fun _ => .a ((sumB ad).map bK)) none := by
  rw [Nat.sub_zero, List.drop_zero, List.take_of_length_le (by omega)]
  exact Sp.Sum _ (by omega)
 have hfb : FrzBox 2 8 := ⟨⟩
 generalize sumB ad = K at *
 have hcq : CutQ (K.map bK) 32 K := ⟨by rw [List.take_of_length_le (by rw [List.length_map, hsl]; omega)], hsl⟩
 have hbg := bgo_mapb K
 have hrf := leC_refs
 have hcv := leC_cv
 simp only at c1 hvl
 clear hck
 unfold ckL
 by_cases he : e = 0
 ·subst he
  rw [if_pos rfl]
  by_cases hv : v = []
  ·subst hv
   rw [if_pos rfl]
   have c3 := Leaf_ok zeroA zeroA_ok (by decide) (by decide) (by decide)
   have hle : (leC (leafOf zeroA)).length = 69 := leC_len (leafOf_ok zeroA_ok).slots (leafOf_ok zeroA_ok).code
   rw [acV_zero] at c3
   generalize leafOf zeroA = L at *
   refine LFx.mk' tt Try.func72 rfl rfl rfl (by kernel_rfl) rfl rfl fun F => ?_
   exact wk trueW trueW trueW
  ·rw [if_neg hv]
   have hv0 : 0 < v.length := List.length_pos_iff.2 hv
   have c3 := ReadLeaf_ v (by omega)
   obtain ⟨L, c, e1, hle⟩ := rdV_t v
   rw [e1] at c3 ⊢
   clear hv
   refine LFx.mk' tt Try.func72 rfl rfl rfl (by kernel_rfl) rfl rfl fun F => ?_
   exact wk trueW trueW trueW
 ·rw [if_neg he]
  rw [leV_zero]
  refine LFx.mk' tt Try.func72 rfl rfl rfl (by kernel_rfl) rfl rfl fun F => ?_
  exact wk trueW trueW trueW
end Wo
end Lf
open Go.RowKit Rg Wm Ar
set_option linter.unusedVariables false
set_option maxRecDepth 100000
namespace Lf
open Pk Ro Tr
namespace Wo
def accA : Ac := ⟨0, 5, [], [(1, 2)]⟩
def adA : List UInt8 := [7, 0, 0, 0, 0, 0, 0, 0]
def holA : Ho := ⟨adA, accA⟩
theorem accA_sl : ∀ s ∈ accA.slots, Slot.ok s := fun s hs => by
 obtain rfl : s = (1, 2) := List.mem_singleton.1 hs
 exact ⟨by decide, by decide⟩
theorem accA_ok : accA.ok := ⟨by decide, by decide, accA_sl, by decide, by decide⟩
theorem holA_ok : holA.ok := ⟨rfl, accA_ok⟩
theorem holA_w : Wok [holA] := ⟨fun x hx => (List.mem_singleton.1 hx).symm ▸ holA_ok, by decide, fun x hx => (List.mem_singleton.1 hx).symm ▸ (by decide)⟩
theorem holA_right : wRight [holA] = true := by decide
theorem holA_get : Tr.get (wT [holA]) (keyP (sumB adA)) = leB (leafOf accA) := by
 show Tr.get (Tr.put .no (keyP (hpr holA).1) (hpr holA).2) _ = _
 rw [get_put, if_pos (show keyP (sumB adA) = keyP (hpr holA).1 from rfl)]
 rfl
theorem slot_b (s : Slot) : vfill (fun i => [(0, 4), (4, 4)][i]?) (([.int .u64, .int .u64, .int .u64, .int .u64, .int .u64, .int .u64, .int .u64, .int .u64] : List Z).map Z.v) [(0, wV s.1), (1, wV s.2)] = some (slC s) := by
 show vfill _ _ [(0, .a ((limbs s.1).map uK)), (1, .a ((limbs s.2).map uK))] = _
 rw [slC_eq, limbs4 s.1, limbs4 s.2]
 rfl
theorem ac_b (m : Nat) (o : Option Nat) (es : List V) : vfill (fun i => [(0, 1), (1, 4), (5, 1), (6, 1)][i]?) (([.int .u64, .int .u64, .int .u64, .int .u64, .int .u64, .sl, .sl] : List Z).map Z.v) [(1, wV m), (3, .s o es)] = some (acS 0 m .nil (.s o es)) := by
 show vfill _ _ [(1, .a ((limbs m).map uK)), (3, .s o es)] = _
 rw [acS_eq, limbs4 m]
 rfl
theorem leB_ne (l : Le) : leB l ≠ [] := fun h => by
 have h1 := congrArg List.length h
 unfold leB leI enc at h1
 rw [List.length_append] at h1
 unfold head at h1
 split at h1 <;> simp at h1
theorem slV_bare (s : Slot) : (slV s).bare = some (slV s) := by
 unfold V.bare
 rw [slC_bare]
 rfl
set_option maxHeartbeats 4000000 in
theorem alive15_ : LF Try.prog 37 [] (fun _ => .k (.bool true)) none := by
 have c1 := IntW 5 (by decide)
 have c2 := IntW 1 (by decide)
 have c3 := IntW 2 (by decide)
 have c4 := Set0 adA accA rfl accA_ok (by decide) (by decide) (by decide)
 have c5 := State_ok [holA] holA_w holA_right
 have c6 := Prove_ok [holA] adA holA_w holA_right rfl
 have c7 := CheckLeaf_ (stB [holA]) adA (wayA (wT [holA]) (keyP (sumB adA))) 0 (leB (leafOf accA)) (sumB_len _) rfl
  (by have := wayA_le (wT [holA]) (keyP (sumB adA)); have := keyP_len (sumB adA); have := sumB_len adA; omega)
  (way_lens (wT_right holA_w) _)
  (by unfold stB wayA; rw [ck_way sumB sumB_len _ _ _ 0 true (wT_right holA_w) (fun h => by cases h) (by omega)]; rw [holA_get])
 have e7 : ckL 0 (leB (leafOf accA)) = .t [leV (leafOf accA), .k (.int .i64 0)] := by
  unfold ckL
  rw [if_pos rfl, rdLf_leB (leafOf_ok accA_ok)]
  rw [if_neg (leB_ne _)]
  rfl
 rw [e7] at c7
 have c8 := Right_w [holA] holA_w.ok (by decide)
 rw [holA_right] at c8
 have hsl : (stB [holA]).length = 32 := sumB_len _
 have hle := leC_len (leafOf_ok accA_ok).slots (leafOf_ok accA_ok).code
 have hm : (leafOf accA).money = 5 := rfl
 have hlq : limbs (leafOf accA).money = limbs 5 := rfl
 have ld1 := @le_m
 have hrf := And.intro leC_refs (And.intro acS_refs slC_refs)
 have hcv := And.intro leC_cv (And.intro acS_cv slC_cv)
 have hcl := slot_b (1, 2)
 have hcn : V.cv.go (fun _ => false) true (slC (1, 2)) = slC (1, 2) := slC_cv _ _ _
 have hbr := slV_bare
 have hl8 := slC_len (1, 2)
 have hlm := limbs_len (leafOf accA).money
 have hl5 := limbs_len 5
 generalize stB [holA] = ST at *
 generalize wayA (wT [holA]) (keyP (sumB adA)) = WY at *
 clear e7
 generalize leafOf accA = LL at *
 refine LFx.mk' tt Try.func37 rfl rfl rfl (by kernel_rfl) rfl rfl fun F => ?_
 refine wk ?_ trueW trueW
 clear hcl hcn
 have hcl := ac_b 5 (some 14) [slV (1, 2)]
 have hcn : V.cv.go (fun _ => false) true (acS 0 5 .nil (.s (some 14) [slV (1, 2)])) = acC accA := by rw [acS_cv]; rfl
 have hac : (acC accA).length = 7 := acS_len
 exact wk trueW trueW trueW
end Wo
end Lf
open Go.RowKit Rg Rp Go.WideShapes Go.ChangeShapes
namespace Lf
section
variable {H : Type} {enc : TypeId × Value → H} {W : World} {P : Program}
theorem opnU64 {T n : Nat} (hT : P.underlying T = some (.int .u64)) : Opn enc P W n T (fun x : Nat => [uK x]) (fun x => x < 18446744073709551616) (fun _ => 1) :=
 (Opn.u64 hT).map (fun b => b.toNat) (fun _ _ => rfl) (fun b _ => b.toNat_lt) fun _ _ => Nat.le_refl _
end
end Lf
open Go.RowKit Rg Rp Go.WideShapes Go.ChangeShapes Wm Ar
namespace Lf
section
variable {H : Type} {enc : TypeId × Value → H} {W : World}
theorem opnWord (n : Nat) : Opn enc Try.prog W n 75 (fun x : Nat => (limbs x).map uK) (fun x => x < M256) (fun _ => 5) :=
 (Opn.arr64 (m := 4) (e := 73) (by kernel_rfl) (by kernel_rfl) (by kernel_rfl)).map (fun l => numOf (l.map UInt64.toNat)) (fun l h => by
  rw [limbs_num ((List.length_map _).trans h) (fun a ha => by obtain ⟨y, _, rfl⟩ := List.mem_map.1 ha; exact y.toNat_lt), List.map_map]
  rfl) (fun l h => numOf_lt ((List.length_map _).trans h) (fun a ha => by obtain ⟨y, _, rfl⟩ := List.mem_map.1 ha; exact y.toNat_lt)) (fun l h => by omega)
end
end Lf
open Go.RowKit Rg Rp Go.WideShapes Go.ChangeShapes Wm Ar
set_option maxRecDepth 100000
namespace Lf
open Wo
theorem sumN {α : Type} (k : Nat) (l : List α) : (l.map fun _ => k).sum = k * l.length := by
 induction l with
 | nil => rfl
 | cons x r ih => rw [List.map_cons, List.sum_cons, ih, List.length_cons, Nat.mul_succ]; omega
def szA (a : Ac) : Nat := a.code.length + 11 * a.slots.length + 9
def szH (h : Ho) : Nat := szA h.acc + 10
structure Ac.raw (a : Ac) : Prop where
 nonce : a.nonce < 18446744073709551616
 money : a.money < M256
 slots : ∀ s ∈ a.slots, s.ok
structure Ho.raw (h : Ho) : Prop where
 addr : h.addr.length = 8
 acc : Ac.raw h.acc
section
variable {H : Type} {enc : TypeId × Value → H} {W : World}
theorem opnAddr (n : Nat) : Opn enc Try.prog W n 72 (fun l : List UInt8 => l.map bK) (fun l => l.length = 8) (fun l => l.length + 1) :=
 Opn.arr8 (m := 8) (e := 5) (by kernel_rfl) (by kernel_rfl) (by kernel_rfl)
theorem opnHash (n : Nat) : Opn enc Try.prog W n 34 (fun l : List UInt8 => l.map bK) (fun l => l.length = 32) (fun l => l.length + 1) :=
 Opn.arr8 (m := 32) (e := 5) (by kernel_rfl) (by kernel_rfl) (by kernel_rfl)
theorem opnSlot (n : Nat) : Opn enc Try.prog W n 138 slC Slot.ok (fun _ => 11) := by
 have h := Opn.st (T := 138) (n := n) (P := Try.prog) (enc := enc) (W := W) (fs := #[⟨"Key", 75, 0, false, "", "", 0⟩, ⟨"Value", 75, 4, false, "", "", 32⟩]) (by kernel_rfl) (by kernel_rfl)
  (OpnFs.cons (opnWord _) (OpnFs.cons (opnWord _) OpnFs.nil))
 refine h.map (fun x => (x.1, x.2.1)) (fun x _ => ?_) (fun x hx => ?_) (fun x _ => ?_)
 ·simp only [slC_eq, List.append_nil, List.cons_append, List.nil_append]
 ·exact ⟨hx.1, hx.2.1⟩
 ·show 11 ≤ _
  omega
theorem opnSlots (n : Nat) : Opn enc Try.prog W n 76 (fun l : List Slot => [slsV l]) (fun l => ∀ s ∈ l, s.ok) (fun l => (l.map fun _ => 11).sum + 1) :=
 Opn.sl (e := 138) (k := 8) slV (by kernel_rfl) (by kernel_rfl) (by decide) (fun _ => rfl) (opnSlot _)
theorem opnAcct (n : Nat) : Opn enc Try.prog W n 78 acC Ac.raw szA := by
 have h := Opn.st (T := 78) (n := n) (P := Try.prog) (enc := enc) (W := W) (fs := #[⟨"Nonce", 73, 0, false, "", "", 0⟩, ⟨"Money", 75, 1, false, "", "", 8⟩, ⟨"Code", 22, 5, false, "", "", 40⟩, ⟨"Slots", 76, 6, false, "", "", 64⟩]) (by kernel_rfl) (by kernel_rfl)
  (OpnFs.cons (opnU64 (by kernel_rfl)) (OpnFs.cons (opnWord _) (OpnFs.cons (Opn.bytes (e := 5) (by kernel_rfl) (by kernel_rfl) (by kernel_rfl)) (OpnFs.cons (opnSlots _) OpnFs.nil))))
 refine h.map (fun x => ⟨x.1, x.2.1, x.2.2.1, x.2.2.2.1⟩) (fun x _ => ?_) (fun x hx => ?_) (fun x _ => ?_)
 ·simp only [acC, acS_eq, List.append_nil, List.cons_append, List.nil_append]
 ·exact ⟨hx.1, hx.2.1, hx.2.2.2.1⟩
 ·show x.2.2.1.length + 11 * x.2.2.2.1.length + 9 ≤ _
  have := sumN 11 x.2.2.2.1
  omega
theorem opnHolder (n : Nat) : Opn enc Try.prog W n 144 hoC Ho.raw szH := by
 have h := Opn.st (T := 144) (n := n) (P := Try.prog) (enc := enc) (W := W) (fs := #[⟨"Addr", 72, 0, false, "", "", 0⟩, ⟨"Account", 78, 8, false, "", "", 8⟩]) (by kernel_rfl) (by kernel_rfl)
  (OpnFs.cons (opnAddr _) (OpnFs.cons (opnAcct _) OpnFs.nil))
 refine h.map (fun x => ⟨x.1, x.2.1⟩) (fun x _ => ?_) (fun x hx => ?_) (fun x hx => ?_)
 ·simp only [hoC, hoS_eq, acC, List.append_nil]
 ·exact ⟨hx.1, hx.2.1⟩
 ·have := hx.1
  show szA x.2.1 + 10 ≤ _
  omega
theorem opnHolders (n : Nat) : Opn enc Try.prog W n 70 (fun l : List Ho => [hosV l]) (fun l => ∀ h ∈ l, Ho.raw h) (fun l => (l.map szH).sum + 1) :=
 Opn.sl (e := 144) (k := 15) hoV (by kernel_rfl) (by kernel_rfl) (by decide) (fun _ => rfl) (opnHolder _)
theorem opnLeaf (n : Nat) : Opn enc Try.prog W n 84 leC Le.ok (fun _ => 1) := by
 have h := Opn.st (T := 84) (n := n) (P := Try.prog) (enc := enc) (W := W) (fs := #[⟨"Nonce", 73, 0, false, "", "", 0⟩, ⟨"Money", 75, 1, false, "", "", 8⟩, ⟨"Slots", 34, 5, false, "", "", 40⟩, ⟨"Code", 34, 37, false, "", "", 72⟩]) (by kernel_rfl) (by kernel_rfl)
  (OpnFs.cons (opnU64 (by kernel_rfl)) (OpnFs.cons (opnWord _) (OpnFs.cons (opnHash _) (OpnFs.cons (opnHash _) OpnFs.nil))))
 refine h.map (fun x => ⟨x.1, x.2.1, x.2.2.1, x.2.2.2.1⟩) (fun x _ => ?_) (fun x hx => ?_) (fun x _ => ?_)
 ·simp only [leC_eq, List.append_nil, List.cons_append, List.nil_append]
 ·exact ⟨hx.1, hx.2.1, hx.2.2.1, hx.2.2.2.1⟩
 ·omega
end
theorem szA_mem {l : List Ho} {h : Ho} (k : h ∈ l) : szH h ≤ (l.map szH).sum := by
 induction l with
 | nil => cases k
 | cons a r ih =>
  rw [List.map_cons, List.sum_cons]
  rcases List.mem_cons.1 k with rfl | k
  ·omega
  ·have := ih k; omega
theorem szH_len (l : List Ho) : 19 * l.length ≤ (l.map szH).sum := by
 induction l with
 | nil => exact Nat.le_refl _
 | cons a r ih =>
  rw [List.map_cons, List.sum_cons, List.length_cons]
  show _ ≤ szA a.acc + 10 + _
  unfold szA
  omega
theorem ac_ok {a : Ac} (h : Ac.raw a) {n : Nat} (hs : szA a ≤ n) (hn : n ≤ 1048576) : a.ok ∧ a.slots.length ≤ 131072 := by
 unfold szA at hs
 exact ⟨⟨h.nonce, h.money, h.slots, by omega, by omega⟩, by omega⟩
theorem hos_ok {l : List Ho} (h : ∀ x ∈ l, Ho.raw x) {n : Nat} (hs : (l.map szH).sum + 1 ≤ n) (hn : n ≤ 1048576) : (∀ x ∈ l, x.ok) ∧ l.length ≤ 69905 ∧ ∀ x ∈ l, x.acc.slots.length ≤ 131072 := by
 have h1 := szH_len l
 refine ⟨fun x hx => ?_, by omega, fun x hx => ?_⟩ <;>
 ·have := szA_mem hx
  have h2 : szH x = szA x.acc + 10 := rfl
  have := ac_ok (h x hx).acc (n := n) (by omega) hn
  first | exact ⟨(h x hx).addr, this.1⟩ | exact this.2
end Lf
open Go.RowKit Rg Wm Ar
set_option linter.unusedVariables false
set_option maxRecDepth 100000
namespace Lf
open Pk Ro Tr
namespace Wo
theorem getW_ok {l : List Ho} {k : Nat} (h : ∀ x ∈ l, x.ok) : (getW l k).ok := by
 unfold getW
 split
 ·rename_i hf
  exact (h _ (getD_in (of_decide_eq_true hf).1)).acc
 ·exact zeroA_ok
set_option maxHeartbeats 8000000 in
theorem WorldRead (l : List Ho) (ad : List UInt8) (a : Ac) (q : List UInt8) (hl : ∀ x ∈ l, x.ok) (hn : l.length ≤ 69905) (hd : ad.length = 8) (ha : a.ok) (hq : q.length = 8) : LF Try.prog 14 [hosV l, hashV ad, acV a, hashV q] (fun _ => .k (.bool true)) none := by
 have c1 := alive15_
 have hl7 : (acC a).length = 7 := acS_len
 have hrf := And.intro refs_b acS_refs
 have hrg := hoS_refs
 have hcv := acS_cv
 by_cases he : setE l a = 0
 ·have c2 := Set_ok l ad a hd hl (by omega) ha he
  obtain ⟨hw, hr, hc⟩ := setE_zero he
  have hs := (wRight_iff.1 hw).2
  have huo := setW_ok (ad := ad) hl hd ha
  have hul := setW_len (l := l) (ad := ad) (a := a)
  have hur := setW_right (ad := ad) hl hd he
  have c3 := Get_ok (setW l ad a) ad huo hd (by omega) hur
  have c4 := Get_ok (setW l ad a) q huo hq (by omega) hur
  have c5 := Get_ok l q hl hq (by omega) hw
  have c6 := Right_w (setW l ad a) huo (by omega)
  rw [hur] at c6
  rw [get_set hl hd hs] at c3
  have c7 := SameAccount_ a a ha ha
  rw [decide_eq_true rfl] at c7
  have c8 := SameAccount_ (getW l (Ps.beN q)) (getW l (Ps.beN q)) (getW_ok hl) (getW_ok hl)
  rw [decide_eq_true rfl] at c8
  have hg7 : (acC (getW l (Ps.beN q))).length = 7 := acS_len
  by_cases hqa : ad = q
  ·have h2 : ¬ ¬ ad = q := fun k => k hqa
   have hg8 : (acC (getW (setW l ad a) (Ps.beN q))).length = 7 := acS_len
   clear ha hl huo hs hw hr he hur
   generalize getW (setW l ad a) (Ps.beN q) = y at *
   generalize getW l (Ps.beN q) = z at *
   generalize setW l ad a = u at *
   refine LFx.mk' tt Try.func14 rfl rfl rfl (by kernel_rfl) rfl rfl fun F => ?_
   exact wk trueW trueW trueW
  ·rw [get_set_other hl hd hs hq (fun e => hqa e.symm)] at c4
   clear ha hl huo hs hw hr he hur
   generalize getW l (Ps.beN q) = z at *
   generalize setW l ad a = u at *
   refine LFx.mk' tt Try.func14 rfl rfl rfl (by kernel_rfl) rfl rfl fun F => ?_
   exact wk trueW trueW trueW
 ·have c2 := Set_err l ad a hd hl (by omega) ha he
  have he2 : setE l a = 1 ∨ setE l a = 2 := by
   unfold setE at *
   split
   ·exact .inl rfl
   ·rename_i h1
    rw [if_neg h1] at he
    split
    ·exact .inr rfl
    ·rename_i h2
     exact absurd (if_neg h2) he
  have hne : setE l a < 10 := by omega
  clear ha hl he2
  generalize setE l a = e at *
  refine LFx.mk' tt Try.func14 rfl rfl rfl (by kernel_rfl) rfl rfl fun F => ?_
  exact wk trueW trueW trueW
theorem setE_lt (l : List Ho) (a : Ac) : setE l a < 10 := by
 unfold setE
 split
 ·decide
 ·split <;> decide
theorem setE_of {l : List Ho} {a : Ac} (h1 : wRight l = true) (h2 : sRight a.slots = true) (h3 : a.code.length ≤ 1024) : setE l a = 0 := by
 unfold setE
 rw [if_neg (by rw [h1, h2]; decide), if_neg (by omega)]
theorem Set_any (l : List Ho) (ad : List UInt8) (a : Ac) (hd : ad.length = 8) (hl : ∀ x ∈ l, x.ok) (hn : l.length < 900000) (h : a.ok) : ∃ u : List Ho, LF Try.prog 38 [hosV l, hashV ad, acV a] (fun _ => .t [hosV u, .k (.int .i64 ((setE l a : Nat) : Int))]) none ∧ (setE l a = 0 → u = setW l ad a) ∧ u.length ≤ l.length + 1 := by
 by_cases he : setE l a = 0
 ·exact ⟨setW l ad a, by rw [he]; exact Set_ok l ad a hd hl hn h he, fun _ => rfl, setW_len⟩
 ·exact ⟨[], Set_err l ad a hd hl hn h he, fun e => absurd e he, by simp⟩
set_option maxHeartbeats 8000000 in
theorem WorldOrder (l : List Ho) (p : List UInt8) (a : Ac) (q : List UInt8) (b : Ac) (hl : ∀ x ∈ l, x.ok) (hn : l.length ≤ 69905) (hp : p.length = 8) (ha : a.ok) (hq : q.length = 8) (hb : b.ok) : LF Try.prog 12 [hosV l, hashV p, acV a, hashV q, acV b] (fun _ => .k (.bool true)) none := by
 have c1 := alive15_
 have hla : (acC a).length = 7 := acS_len
 have hlb : (acC b).length = 7 := acS_len
 have hrf := And.intro refs_b acS_refs
 have hrg := hoS_refs
 have hcv := acS_cv
 obtain ⟨x, c2, hx, hxl⟩ := Set_any l p a hp hl (by omega) ha
 obtain ⟨y, c3, hy, hyl⟩ := Set_any l q b hq hl (by omega) hb
 have he9 := setE_lt l a
 have hf9 := setE_lt l b
 by_cases he : setE l a = 0
 case neg =>
  clear hl ha hb hx hy
  generalize setE l a = e at *
  generalize setE l b = f at *
  refine LFx.mk' tt Try.func12 rfl rfl rfl (by kernel_rfl) rfl rfl fun F => ?_
  exact wk trueW trueW trueW
 by_cases hf : setE l b = 0
 case neg =>
  rw [he] at c2
  clear hl ha hb hx hy he9
  generalize setE l b = f at *
  refine LFx.mk' tt Try.func12 rfl rfl rfl (by kernel_rfl) rfl rfl fun F => ?_
  exact wk trueW trueW trueW
 rw [he] at c2
 rw [hf] at c3
 by_cases hpq : p = q
 ·have h2 : ¬ ¬ p = q := fun k => k hpq
  clear hl ha hb hx hy he9 hf9
  refine LFx.mk' tt Try.func12 rfl rfl rfl (by kernel_rfl) rfl rfl fun F => ?_
  exact wk trueW trueW trueW
 obtain ⟨hw, hr1, hc1⟩ := setE_zero he
 obtain ⟨_, hr2, hc2⟩ := setE_zero hf
 have hs := (wRight_iff.1 hw).2
 have hxo := setW_ok (ad := p) hl hp ha
 have hyo := setW_ok (ad := q) hl hq hb
 have hxr := setW_right (ad := p) hl hp he
 have hyr := setW_right (ad := q) hl hq hf
 obtain rfl := hx he
 obtain rfl := hy hf
 have c4 := Set_ok (setW l p a) q b hq hxo (by omega) hb (setE_of hxr hr2 hc2)
 have c5 := Set_ok (setW l q b) p a hp hyo (by omega) ha (setE_of hyr hr1 hc1)
 have hxy := set_comm hl hp hq ha hb hs hpq
 rw [← hxy] at c5
 have hxyo := setW_ok (ad := q) hxo hq hb
 have hxyl := setW_len (l := setW l p a) (ad := q) (a := b)
 have c6 := SameWorld_ (setW (setW l p a) q b) (setW (setW l p a) q b) hxyo hxyo (by omega) (by omega)
 rw [decide_eq_true rfl] at c6
 clear hl ha hb he9 hf9 hw hr1 hr2 hs hxo hyo hxr hyr hxy hxyo hxyl
 generalize setW (setW l p a) q b = z at *
 generalize setW l p a = x at *
 generalize setW l q b = y at *
 refine LFx.mk' tt Try.func12 rfl rfl rfl (by kernel_rfl) rfl rfl fun F => ?_
 exact wk trueW trueW trueW
end Wo
end Lf
namespace Lf
section
end
end Lf
open Go.RowKit Rg Wm Ar
set_option linter.unusedVariables false
set_option maxRecDepth 100000
namespace Lf
open Pk Ro Tr
namespace Wo
def leKinds : List IntKind := .u64 :: (List.replicate 4 .u64 ++ (List.replicate 32 .u8 ++ List.replicate 32 .u8))
theorem le_kinds {l : Le} (k : l.ok) : KindsOf (leC l) leKinds := by
 have hb : ∀ {l : List UInt8} {n : Nat} {cs : List V} {ks : List IntKind}, l.length = n → KindsOf cs ks → KindsOf (l.map bK ++ cs) (List.replicate n .u8 ++ ks) := fun hl h => KindsOf.maps (fun _ => rfl) h hl
 rw [leC_eq]
 exact .cons (KindsOf.maps (f := uK) (k := .u64) (fun _ => rfl) (hb k.slots (KindsOf.map1 (fun _ => rfl) k.code)) (limbs_len _))
set_option maxHeartbeats 4000000 in
theorem WorldLeafBack (l : Le) (hl : l.ok) (b : List UInt8) (hb : b.length ≤ 1048576) : LF Try.prog 13 [leV l, bV b] (fun _ => .k (.bool true)) none := by
 have c1 := alive15_
 have c2 := WriteLeaf_ l hl
 have hlb := leB_len2 hl
 have c3 := ReadLeaf_ (leB l) (by omega)
 rw [rdLf_leB hl] at c3
 have e3 : rdV (some l) = .t [leV l, .k (.int .i64 0)] := rfl
 rw [e3] at c3
 have c4 := ReadLeaf_ b (by omega)
 have hle := leC_len hl.slots hl.code
 have hk := le_kinds hl
 have hrf := leC_refs
 have hcv := leC_cv
 cases hr : rdLf b with
 | none =>
  rw [hr] at c4
  have e4 : rdV none = .t [leV leZ, .k (.int .i64 1)] := rfl
  rw [e4] at c4
  have hlz := leC_len (l := leZ) rfl rfl
  clear hr e3 e4
  generalize leZ = Z0 at *
  refine LFx.mk' tt Try.func13 rfl rfl rfl (by kernel_rfl) rfl rfl fun F => ?_
  exact wk trueW trueW trueW
 | some y =>
  rw [hr] at c4
  have e4 : rdV (some y) = .t [leV y, .k (.int .i64 0)] := rfl
  rw [e4] at c4
  obtain ⟨hb2, hy⟩ := rdLf_back hr
  have c5 := WriteLeaf_ y hy
  rw [hb2] at c5
  have hly := leC_len hy.slots hy.code
  have hs : arithS .eql ⟨b.toArray⟩ ⟨b.toArray⟩ = some (.bool true) := Lf.eqS (decide_eq_true rfl)
  clear hr e3 e4 hb2
  refine LFx.mk' tt Try.func13 rfl rfl rfl (by kernel_rfl) rfl rfl fun F => ?_
  exact wk trueW trueW trueW
end Wo
end Lf
end Go.Proofs.Ytkbimhccaacobaa

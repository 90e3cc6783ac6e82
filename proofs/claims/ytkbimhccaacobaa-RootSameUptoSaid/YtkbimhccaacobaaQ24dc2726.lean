/- A part of the proof: texts joined. -/
import Derived.Test.YtkbimhccaacobaaQ23983bea
namespace Go.Proofs.Ytkbimhccaacobaa
open Go.RowKit Rg Rp Wm Ar
set_option linter.unusedVariables false
set_option maxRecDepth 100000
namespace Lf
open Tr
namespace Te
set_option maxHeartbeats 8000000 in
theorem Pairs_row0 (x : Rn) (hx : x.size < 50000000) (hr : rt x 0 = true) : LM Try.prog 34 [rnV x] [] fun o m => o = .ret (.t [.s (some 1090) ((pairsOf (toN x)).map prV), erV 0]) ∧ m = [(1090, .r 66 2 (pairsOf (toN x)).length)] := by
  have c1 := Right_ x (by omega)
  rw [hr] at c1
  have hR := rt_right x.size x 0 (Nat.le_refl _) hr
  have hk4 := rnC_len x
  have hrf := tr_refs
  have hcv := tr_cv
  have c2 := inner_ x.size x 0 (Nat.le_refl _) (by omega) hr
  have c3 := all_ (toN x) []
  have hsz := pairs_size x.size x [] (Nat.le_refl _)
  have hok : okI okP goP nxP [] (pairs (toN x) []) := okIP _ _ (fun y hy => by
    obtain ⟨q, w⟩ := y
    obtain ⟨r, hq, h1, h2⟩ := (mem_pairs (toN x) [] 0 hR q w).1 hy
    have hq : q = r := hq
    rw [← hq] at h1
    have h3 := get_ends hR q (by rw [h1]; exact h2)
    have h4 := get_len hR q
    rw [h1] at h4
    rw [Nat.zero_add] at h3
    exact ⟨h3.1, h3.2, h4⟩) (by simp; omega)
  refine LM.enterRR tt Try.func34 rfl rfl rfl (by kernel_rfl) rfl rfl rfl (fun o mo h => by rw [h.2]; rfl) fun F hD hro hlm hkF => ?_
  have hal := allC (toN x) [] hR
  have hrp := runP (pairs (toN x) []) []
  refine wk ?_ trueW trueW
  refine LC.weak (env' := [(14, .f (.func 98) [] [.p 1011 0, .p 1012 0]), (4, .p 4 0)]) (mem' := bxA 1011 1012 (toN x) [] ++ [(4, .b [.nil])]) ⟨(by repeat (first | exact True.intro | refine And.intro rfl ?_)), (by repeat (first | exact True.intro | refine And.intro rfl ?_)), ?_⟩ ?_
  · have e1 := bxA_refs 1011 1012 (toN x) [] (bxA 1011 1012 (toN x) [] ++ [(4, .b [.nil])])
    rw [refsM_app e1 rfl]
    rfl
  refine LC.nilcell 4 0 1090 66 2 rfl rfl rfl (by decide) rfl ?_
  refine LC.weak (env' := [(14, .f (.func 98) [] [.p 1011 0, .p 1012 0]), (4, .p 4 0)]) (mem' := bxA 1011 1012 (toN x) [] ++ [(4, .b [.s (some 1090) []]), (1090, .r 66 2 0)]) ⟨(by repeat (first | exact True.intro | refine And.intro rfl ?_)), (by repeat (first | exact True.intro | refine And.intro rfl ?_)), ?_⟩ ?_
  · have e1 := bxA_refs 1011 1012 (toN x) [] (bxA 1011 1012 (toN x) [] ++ [(4, .b [.s (some 1090) []]), (1090, .r 66 2 0)])
    rw [refsM_app e1 rfl]
    rfl
  refine LC.renK (env' := [(14, .f (.func 98) [] [.p 1011 0, .p 1012 0]), (4, .p 1004 0)]) (mem' := bxA 1011 1012 (toN x) [] ++ memP []) [1004] [4] (by decide) (by decide) rfl (fun i _ => hkF i rfl) (fun ρ hρ hfix => ?_) ?_
  · simp only [List.map_cons, List.map_nil, List.cons.injEq, and_true] at hρ
    have f1 := hfix 1011 (by decide) (by decide)
    have f2 := hfix 1012 (by decide) (by decide)
    have f3 := hfix 1090 (by decide) (by decide)
    refine ⟨?_, fun t v hv => ?_⟩
    · simp only [Mem.ren, bxA, memP, List.cons_append, List.nil_append, List.map_cons, List.map_nil, M.ren, V.ren, nd_ren, hρ, f1, f2, f3]
      rfl
    · have h3 := aget_renE ρ.f _ hv
      simp only [List.map_cons, List.map_nil, V.ren, V.ren.go, hρ, f1, f2] at h3
      exact h3
  have hU : Ms (fun S => ((1999, .x) : Nat × M) :: memP S) := ⟨fun _ _ => rfl, fun _ => by simp [memP], fun _ => rfl, fun _ => rfl⟩
  refine LC.range2 (y := 1999) (m1 := bxA 1011 1012 (toN x) [] ++ memP (pairsOf (toN x))) [(4, .p 1004 0)] okP (fun x => bV (pB x.1)) (fun x => bV x.2) memP goP nxP true (.exit 0) (.exit 0) (.inl ⟨0, rfl, rfl⟩) hlm hro rfl rfl rfl rfl rfl ⟨rfl, trivial⟩ (fun s ob => rfl) (fun s i hi => ?_) (fun ob => ?_) (fun s => rfl) (fun s x _ ob ob' => rfl) (fun lo FR hFR s x hx hev => ?_) (fun lo => ?_) (fun ob ob' => rfl) ?_ (fun _ => ?_) (fun hfin => by cases hfin)
  · rw [aget_mem_keys] at hi ⊢
    rw [List.map_append]
    exact List.mem_append_right _ hi
  · have e1 : refsM ((1999, .o ob) :: (bxA 1011 1012 (toN x) [] ++ memP [])) ((1999, .o ob) :: (bxA 1011 1012 (toN x) [] ++ memP [])) = true := refsM_app (A := bxA 1011 1012 (toN x) []) (bxA_refs _ _ _ _ _) rfl
    rw [e1]; rfl
  · obtain ⟨h1, h2, h3, h4⟩ := hx
    have c4 := Join_ x.1 (by omega) h2
    have c5 := own_ x.2 (by omega)
    have hcl : ∀ e ∈ s.map prV, e.cells.length = 2 := fun e he => by
      obtain ⟨z, _, rfl⟩ := List.mem_map.1 he
      exact prC_len z
    clear hal hok c1 c2 c3
    refine wk ?_ trueW trueW
    refine ⟨rfl, ?_⟩
    show LC _ _ _ _ _ _ ((1999, .o (lo .busy none)) :: (1999, .o (lo .ready none)) :: (1004, .b [.s (some 1090) (s.map prV)]) :: (1090, .r 66 2 s.length) :: [])
    refine wk ?_ trueW trueW
    have e : s.map prV ++ [V.a [bV (keyB x.1), bV x.2]] = (nxP s x).map prV := by
      simp only [nxP, List.map_append, List.map_cons, List.map_nil, prV, prC_eq, pkB]
    have el : (s.map prV ++ [V.a [bV (keyB x.1), bV x.2]]).length = (nxP s x).length := by rw [e, List.length_map]
    refine ⟨rfl, (1999, .o (lo .ready none)) :: memP (nxP s x), ⟨rfl, ?_, ?_, trivial⟩, rfl, rfl, rfl⟩
    · rw [← e]; rfl
    · rw [← el]; rfl
  · have hi := hal (List Pr) (fun S => (1999, .o (lo .ready none)) :: memP S) okP goP nxP [] 1999 1011 1012 ⟨fun _ _ => rfl, fun _ => by simp [memP], fun _ => rfl, fun _ => rfl⟩ rfl rfl rfl (by decide) (by decide) (by decide) hok
    have ord : ∀ (ob : Obj) (T : Mem) j, aget (bxA 1011 1012 (toN x) [] ++ ((1999, .o ob) :: T)) j = aget ((1999, .o ob) :: (bxA 1011 1012 (toN x) [] ++ T)) j := fun ob T j => by
      simp only [bxA, List.cons_append, List.nil_append, aget_cons]
      by_cases h1 : 1011 = j
      · rw [if_pos h1, if_neg (by omega), if_pos h1]
      · rw [if_neg h1]
        by_cases h2 : 1012 = j
        · rw [if_pos h2, if_neg (by omega), if_neg h1, if_pos h2]
        · rw [if_neg h2, if_neg h1, if_neg h2]
    refine hi.congr (ord _ _) (fun g w hY s x hx => hY s x hx) fun o m hm => ?_
    obtain ⟨rfl, rfl⟩ := hm
    rw [hrp]
    exact ⟨_, ⟨rfl, rfl⟩, ord _ _⟩
  · have e1 : refsM ((1999, .x) :: (bxA 1011 1012 (toN x) [] ++ memP (pairsOf (toN x)))) ((1999, .x) :: (bxA 1011 1012 (toN x) [] ++ memP (pairsOf (toN x)))) = true := refsM_app (A := bxA 1011 1012 (toN x) []) (bxA_refs _ _ _ _ _) rfl
    rw [e1]; rfl
  · show LC _ _ _ _ _ _ _
    exact wk trueW trueW trueW
end Te
end Lf
open Go.RowKit Rg Rp Wm Ar
set_option maxRecDepth 100000
namespace Lf
theorem flat_cells {sz : Nat} : ∀ {es : List V}, (∀ e ∈ es, e.cells.length = sz) → (es.flatMap V.cells).length = es.length * sz
  | [], _ => by simp
  | e :: r, h => by
    rw [List.flatMap_cons, List.length_append, h e List.mem_cons_self, flat_cells fun a ha => h a (List.mem_cons_of_mem _ ha), List.length_cons, Nat.succ_mul, Nat.add_comm]
def Gh.off (g : Gh) (a : Option Nat) : Gh := ⟨fun b o => g.S b o ∧ a ≠ some b, g.bx, g.rw⟩
theorem flat_bytes {l : List UInt8} {j : Nat} {u : V} (h : ((l.map bK).flatMap V.cells)[j]? = some u) : ∃ b, u = bK b := by
  obtain ⟨e, he, hu⟩ := List.mem_flatMap.1 (List.mem_of_getElem? h)
  obtain ⟨b, _, rfl⟩ := List.mem_map.1 he
  exact ⟨b, by simpa [V.cells, bK] using hu⟩
theorem rep_off {w : World} {g : Gh} {a : Option Nat} {xs : List Value} {E sz n c : Nat} (hown : w.oRow 0 E sz (.slice (a.map fun b => ⟨b, 0, none⟩) n c) n xs) (hfree : ∀ b, a = some b → ∀ o, n * sz ≤ o → ¬ g.S b o)
    (hsl : ∀ (j : Nat) x, xs[j]? = some x → ∃ ad m cap, x = .slice ad m cap) {l : List UInt8} {x : Value} (h : Rep w g.bare (.s none (l.map bK)) x) : Rep w (g.off a).bare (.s none (l.map bK)) x := by
  have hes : ∀ (j : Nat) u, ((l.map bK).flatMap V.cells)[j]? = some u → ∃ b, u = bK b := fun j u => flat_bytes
  generalize l.map bK = es' at h hes ⊢
  cases h with
  | s0 ht => exact .s0 fun _ h => by cases h
  | se a' ht => exact .se a' fun _ h => by cases h
  | @s _ _ _ b off cap size xs' hn hm hp hs hx hc ht =>
    refine .s xs' hn hm hp hs (fun j u hj => ?_) (fun j u hj => ?_) (fun _ h => by cases h)
    · obtain ⟨p1, p2, p3⟩ := hx j u hj
      refine ⟨p1, ⟨p2, fun ha => ?_⟩, p3⟩
      have q : off + j < n * sz := by
        rcases Nat.lt_or_ge (off + j) (n * sz) with h | h
        · exact h
        · exact absurd p2 (hfree b ha _ h)
      have hlen := hown.1
      have hx1 : xs[off + j]? = some (xs[off + j]'(by omega)) := List.getElem?_eq_getElem _
      have h5 := oRow_cells hown (g := b) (by simp [ha, Value.ownBlock]) (off + j) _ hx1
      rw [Addr.add_lit, Nat.zero_add] at h5
      rw [h5] at p3
      obtain ⟨ad, m, cp, e⟩ := hsl _ _ hx1
      obtain ⟨b', rfl⟩ := hes j u hj
      have h6 := hc j _ hj
      rw [e] at p3
      injection p3 with p3
      rw [← p3] at h6
      cases h6
    · obtain ⟨b', rfl⟩ := hes j u hj
      have h6 := hc j _ hj
      generalize xs' j = z at h6 ⊢
      cases h6
      exact .k _
theorem LM.buf {P : Program} {f : Nat} {args es : List V} {E sz n k : Nat} {u : Value} (hn : es.length = n) (h0 : 0 < n) (hb : ∀ e ∈ es, e.cells.length = sz ∧ ∀ c ∈ e.cells, ∃ l : List UInt8, c = .s none (l.map bK))
    (h : LM P f args [] fun o m => o = .ret (.t [.s (some k) es, .k u]) ∧ m = [(k, .r E sz n)]) : LM P f args [] fun o m => o = .ret (.t [.w k n sz 0 n, .k u]) ∧ m = [(k, .w E sz n es)] := by
  refine ⟨h.ok, fun g w vals h1 h2 h3 => Calls.mono (h.go g w vals h1 h2 h3) ?_⟩
  rintro e w' ⟨o, mo, g', ⟨rfl, rfl⟩, hev, hrel, hk, x, rfl, hrep⟩
  cases hrep with
  | @t _ _ vs hl hc =>
  have hl2 : vs.size = 2 := hl.symm
  obtain ⟨y, hy⟩ : ∃ y, vs[0]? = some y := ⟨_, Array.getElem?_eq_getElem (by omega)⟩
  have hr0 := hc 0 _ y rfl hy
  have hko := hrel.ob k _ (aget_self ..)
  cases hko with
  | @r _ _ _ c a hg hR =>
  obtain ⟨hp, ⟨xs, hown⟩, hfree⟩ := hR
  have hab : ∀ b, a = some b → w.heap.size ≤ b := fun b hb => by
    rcases hrel.wr k _ b 0 (aget_self ..) ⟨_, _, by rw [hg, hb]⟩ with h | ⟨i, m, hm, _⟩
    · exact h
    · cases hm
  have hlt : ∀ b, a = some b → b < w'.heap.size := fun b hb => (oRow_lt hown b (by simp [hb, Value.ownBlock])).2
  have hfl : (es.flatMap V.cells).length = n * sz := by rw [flat_cells fun e he => (hb e he).1, hn]
  have hxl := hown.1
  cases hr0 with
  | s0 ht => simp at hn; omega
  | se a' ht => simp at hn; omega
  | @s _ _ _ b off cap size xs' hn' hm' hp' hs' hx' hc' ht =>
  obtain ⟨a1, l1, c1, e1, e2, e3⟩ := ht k rfl
  rw [hg] at e1
  cases e1
  have hy2 : Value.slice (some ⟨b, off, none⟩) es.length cap = .slice (a.map fun b => ⟨b, 0, none⟩) n c := by
    rcases e3 hn with h | ⟨_, h, _⟩
    · exact h
    · omega
  injection hy2 with q1 q2 q3
  obtain ⟨rfl, rfl⟩ : a = some b ∧ off = 0 := by
    cases a with
    | none => cases q1
    | some a => simp at q1; exact ⟨by rw [q1.1], q1.2⟩
  have hat : ∀ (j : Nat) x, xs[j]? = some x → ∃ l : List UInt8, (es.flatMap V.cells)[j]? = some (.s none (l.map bK)) ∧ Rep w' g'.bare (.s none (l.map bK)) x := fun j x hj => by
    have hjl : j < (es.flatMap V.cells).length := by
      have := (List.getElem?_eq_some_iff.1 hj).1
      omega
    have hu := List.getElem?_eq_getElem hjl
    obtain ⟨e, he, hue⟩ := List.mem_flatMap.1 (List.getElem_mem hjl)
    obtain ⟨l, hl⟩ := (hb e he).2 _ hue
    rw [hl] at hu
    obtain ⟨p1, p2, p3⟩ := hx' j _ hu
    have h5 := oRow_cells hown (g := b) (by simp [Value.ownBlock]) j _ hj
    rw [Addr.add_lit] at h5
    rw [h5] at p3
    injection p3 with p3
    rw [p3]
    exact ⟨l, hu, hc' j _ hu⟩
  have hsl : ∀ (j : Nat) x, xs[j]? = some x → ∃ ad m cap, x = .slice ad m cap := fun j x hj => by
    obtain ⟨l, _, hr⟩ := hat j x hj
    generalize l.map bK = es' at hr
    cases hr with
    | s0 ht => exact ⟨_, _, _, rfl⟩
    | se a' ht => exact ⟨_, _, _, rfl⟩
    | s xs' hn hm hp hs hx hc ht => exact ⟨_, _, _, rfl⟩
  have hne : ∀ b', b' < w.heap.size → some b ≠ some b' := fun b' hb' e => by
    injection e with e
    have := hab b rfl
    omega
  have hone : ∀ {i : Nat} {m m0 : M}, aget [(k, m0)] i = some m → i = k ∧ m = m0 := fun {i m m0} h => by
    rw [aget_cons] at h
    split at h
    · rename_i e; cases h; exact ⟨e.symm, rfl⟩
    · cases h
  have hnone : ∀ {i : Nat} {m m0 : M}, aget [(k, m)] i = none → aget [(k, m0)] i = none := fun {i m m0} h => by
    rw [aget_cons] at h ⊢
    split at h
    · cases h
    · rename_i e; rw [if_neg e]; rfl
  subst hn
  have hR2 : RelM (lentF g [] w) (g'.off (some b)) [(k, .w E sz es.length es)] w' := by
    refine ⟨fun i m hi => ?_, fun i m b' o hi hf => ?_, fun i j m m' b' o hij hi hj => ?_, fun i hi => hrel.nbx i (hnone hi), fun i hi => hrel.nrw i (hnone hi), fun b' o hb' => ⟨hrel.fut b' o hb', fun e => ?_⟩, ⟨hrel.loc.tab, hrel.loc.bx, hrel.loc.rw⟩⟩
    · obtain ⟨rfl, rfl⟩ := hone hi
      refine .w (a := some b) (c := c) hg ⟨hp, fun e he => ⟨(hb e he).1, fun u hu => ?_⟩, ⟨xs, hown, fun j u x hu hx => ?_⟩, fun b' e o h => h.2 e⟩
      · obtain ⟨l, rfl⟩ := (hb e he).2 u hu; rfl
      · obtain ⟨l, hu', hr⟩ := hat j x hx
        rw [hu] at hu'
        cases hu'
        exact rep_off hown hfree hsl hr
    · obtain ⟨rfl, rfl⟩ := hone hi
      exact hrel.wr _ _ b' o (aget_self ..) hf
    · exact absurd ((hone hi).1.trans (hone hj).1.symm) hij
    · injection e with e
      have := hlt b rfl
      omega
  refine ⟨_, _, g'.off (some b), ⟨rfl, rfl⟩, ⟨hev.size, fun b' o hb' hs => ⟨⟨(hev.st b' o hb' hs).1, hne b' hb'⟩, (hev.st b' o hb' hs).2⟩, hev.bx, hev.rw⟩, hR2, ⟨hk.os, hk.tape, hk.output, hk.size, hk.blk, hk.cell, fun b' o hb hB hS => hk.S1 b' o hb hB hS.1, fun b' o hb hS => ⟨hk.S2 b' o hb hS, hne b' hb⟩, hk.cellS⟩, _, rfl, ?_⟩
  refine .t hl fun j u' x hu hx => ?_
  match j, hu with
  | 0, hu =>
    cases hu
    rw [hy] at hx
    cases hx
    exact .w ⟨some b, es.length, c, hg, Nat.le_refl _, fun _ => ⟨by omega, by omega, fun _ => by simp⟩⟩
  | 1, hu =>
    cases hu
    have := hc 1 _ x rfl hx
    cases this
    exact .k _
end Lf
open Go.RowKit Rg Rp Wm Ar
set_option linter.unusedVariables false
set_option maxRecDepth 100000
namespace Lf
open Tr
def RevAt (L S : List Pr) (i : Nat) : Prop := S.length = L.length ∧ ∀ t, t < L.length → S.getD t default = if t < i ∨ L.length - i ≤ t then L.getD (L.length - 1 - t) default else L.getD t default
theorem rv_start (L : List Pr) : RevAt L L 0 := ⟨rfl, fun t ht => by rw [if_neg (by omega)]⟩
theorem getD_set2 {l : List Pr} {i t : Nat} {a : Pr} (h : t < l.length) : (l.set i a).getD t default = if i = t then a else l.getD t default := by
  rw [List.getD_eq_getElem?_getD, List.getElem?_set]
  by_cases e : i = t
  · subst e; rw [if_pos rfl, if_pos h, if_pos rfl]; rfl
  · rw [if_neg e, if_neg e, ← List.getD_eq_getElem?_getD]
theorem rv_step {L S : List Pr} {i : Nat} (h : RevAt L S i) (h2 : i < L.length - 1 - i) : RevAt L ((S.set i (S.getD (L.length - 1 - i) default)).set (L.length - 1 - i) (S.getD i default)) (i + 1) := by
  obtain ⟨hl, hs⟩ := h
  refine ⟨by rw [List.length_set, List.length_set, hl], fun t ht => ?_⟩
  rw [getD_set2 (by rw [List.length_set]; omega)]
  by_cases e1 : L.length - 1 - i = t
  · rw [if_pos e1, if_pos (by omega), hs i (by omega), if_neg (by omega), ← e1]
    congr 1
    omega
  · rw [if_neg e1, getD_set2 (by omega)]
    by_cases e2 : i = t
    · rw [if_pos e2, if_pos (by omega), hs _ (by omega), if_neg (by omega), ← e2]
    · rw [if_neg e2, hs t ht]
      by_cases e3 : t < i ∨ L.length - i ≤ t
      · rw [if_pos e3, if_pos (by omega)]
      · rw [if_neg e3, if_neg (by omega)]
theorem rv_end {L S : List Pr} {i : Nat} (h : RevAt L S i) (h2 : ¬ i < L.length - 1 - i) : S = L.reverse := by
  obtain ⟨hl, hs⟩ := h
  refine list_ext_getD (by rw [hl, List.length_reverse]) fun t ht => ?_
  rw [hs t (by omega)]
  have e : L.reverse.getD t default = L.getD (L.length - 1 - t) default := by
    rw [List.getD_eq_getElem?_getD, List.getElem?_reverse (by omega), ← List.getD_eq_getElem?_getD]
  rw [e]
  by_cases e3 : t < i ∨ L.length - i ≤ t
  · rw [if_pos e3]
  · rw [if_neg e3]
    congr 1
    omega
theorem prs_part {S : List Pr} {ti : TI} {t : Nat} (hd : ti.d.agg = true) (hs : ti.size = 2) (ht : t < S.length) : ti.part ((S.map prV).flatMap V.cells) (t * 2) = some (prV (S.getD t default)) := by
  have hlen : ((S.map prV).flatMap V.cells).length = S.length * 2 := by
    rw [flat_cells (sz := 2) fun e he => by obtain ⟨p, _, rfl⟩ := List.mem_map.1 he; exact prC_len p, List.length_map]
  have hw : (((S.map prV).flatMap V.cells).drop (t * 2)).take 2 = prC (S.getD t default) := by
    have hsz : ∀ e ∈ S.map prV, e.cells.length = 2 := fun e he => by obtain ⟨p, _, rfl⟩ := List.mem_map.1 he; exact prC_len p
    rw [← flatV_drop hsz, List.map_drop.symm, List.drop_eq_getElem_cons ht, List.map_cons, List.flatMap_cons, show (prV S[t]).cells = prC S[t] from rfl, List.take_left' (prC_len _), List.getD_eq_getElem?_getD, List.getElem?_eq_getElem ht]
    rfl
  simp only [TI.part, hd, cond_true, hs]
  by_cases h0 : (Nat.beq (t * 2) 0 && Nat.beq ((S.map prV).flatMap V.cells).length 2) = true
  · rw [h0, cond_true]
    rw [Bool.and_eq_true] at h0
    have h1 := Nat.eq_of_beq_eq_true h0.1
    have h2 := Nat.eq_of_beq_eq_true h0.2
    rw [h1, List.drop_zero, List.take_of_length_le (by omega)] at hw
    rw [hw]
  · rw [Bool.eq_false_iff.2 h0, cond_false, show Nat.ble (t * 2 + 2) ((S.map prV).flatMap V.cells).length = true from Nat.ble_eq_true_of_le (by rw [hlen]; omega), cond_true, hw]
namespace Te
set_option maxHeartbeats 4000000 in
theorem Reverse1 (L : List Pr) (h0 : 0 < L.length) (hl : L.length < 1000000000) : LM Try.prog 36 [.w 1000 L.length 2 0 L.length] [(1000, .w 66 2 L.length (L.map prV))] fun o m => o = .ret (.t []) ∧ m = [(1000, .w 66 2 L.length (L.reverse.map prV))] := by
  have hbr := prC_bare
  have hel0 : (L.map prV).length = L.length := List.length_map _
  refine LM.enter tt Try.func36 rfl rfl rfl (by kernel_rfl) rfl rfl rfl (fun o mo h => by rw [h.2]; rfl) fun F _ => ?_
  refine wk ?_ trueW trueW
  refine LC.loop2 (fun i S => [(0, .w 1000 L.length 2 0 L.length), (2, .k (.int .i64 ((i : Nat) : Int))), (3, .k (.int .i64 (((L.length - 1 - i) : Nat) : Int)))]) (fun i S => [(1000, .w 66 2 L.length (S.map prV))]) (fun i S => RevAt L S i ∧ i ≤ L.length - 1 - i + 1) ((L.length - ·)) (0) (L) ⟨rv_start L, by omega⟩ ⟨rfl, rfl, rfl, trivial⟩ ⟨rfl, trivial⟩ rfl rfW rfW ?_
  rintro i S ⟨hS, hi⟩
  have hSl := hS.1
  have hel : (S.map prV).length = S.length := List.length_map _
  rcases Nat.lt_or_ge i (L.length - 1 - i) with h | h
  · have hok : RevAt L ((S.set i (S.getD (L.length - 1 - i) default)).set (L.length - 1 - i) (S.getD i default)) (i + 1) ∧ i + 1 ≤ L.length - 1 - (i + 1) + 1 := ⟨rv_step hS h, by omega⟩
    have ld1 := @prs_part S
    have hp1 := prC_len (S.getD i default)
    have hp2 := prC_len (S.getD (L.length - 1 - i) default)
    have hel2 : ((S.set i (S.getD (L.length - 1 - i) default)).map prV).length = S.length := by rw [List.length_map, List.length_set]
    have hij : L.length - 1 - i - 1 = L.length - 1 - (i + 1) := by omega
    clear hS
    exact wk trueW trueW trueW
  · have e := rv_end hS (by omega)
    clear hS
    subst e
    exact wk trueW trueW trueW
end Te
end Lf
end Go.Proofs.Ytkbimhccaacobaa

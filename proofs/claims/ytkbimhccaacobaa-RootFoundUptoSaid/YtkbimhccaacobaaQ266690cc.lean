/- A part of the proof: texts joined. -/
import Derived.Test.YtkbimhccaacobaaQ25293e4f
namespace Go.Proofs.Ytkbimhccaacobaa
open Go.RowKit Rg Wm Ar
set_option linter.unusedVariables false
set_option maxRecDepth 100000
namespace Lf
open Tr Ro Pk
theorem loadR_size (h : List UInt8) (cs : List (List UInt8)) : (loadR h cs).1.size ≤ 4915200 := by
  by_cases e : (loadR h cs).2 = 0
  · exact (loadR_sound (x := (loadR h cs).1) (Prod.ext rfl e)).2.2.2.1
  · have : (loadR h cs).1 = Rn.no := by
      unfold loadR at e ⊢
      split
      · split
        · rename_i h1 h2; rw [if_pos h1, if_pos h2] at e; exact absurd rfl e
        · rfl
      · rfl
    rw [this]
    show Rn.size (.mk 0 [] [] []) ≤ _
    rw [size_eq]; decide
namespace Rw
end Rw
end Lf
namespace Lf
namespace Te
end Te
end Lf
open Go.RowKit Rg Rp Wm Ar
set_option maxRecDepth 100000
namespace Lf
theorem flat_cells {sz : Nat} : ∀ {es : List V}, (∀ e ∈ es, e.cells.length = sz) → (es.flatMap V.cells).length = es.length * sz
  | [], _ => by simp
  | e :: r, h => by
    rw [List.flatMap_cons, List.length_append, h e List.mem_cons_self, flat_cells fun a ha => h a (List.mem_cons_of_mem _ ha), List.length_cons, Nat.succ_mul, Nat.add_comm]
def Gh.off (g : Gh) (a : Option Nat) : Gh := ⟨fun b o => g.S b o ∧ a ≠ some b, g.bx, g.rw⟩
theorem flat_bytes {l : List UInt8} {j : Nat} {u : V} (h : ((l.map bK).flatMap V.cells)[j]? = some u) : ∃ b, u = bK b := by
  obtain ⟨e, he, hu⟩ := List.mem_flatMap.1 (List.mem_of_getElem? h)
  obtain ⟨b, _, rfl⟩ := List.mem_map.1 he
  exact ⟨b, by simpa [V.cells, bK] using hu⟩
theorem rep_off {w : World} {g : Gh} {a : Option Nat} {xs : List Value} {E sz n c : Nat} (hown : w.oRow 0 E sz (.slice (a.map fun b => ⟨b, 0, none⟩) n c) n xs) (hfree : ∀ b, a = some b → ∀ o, n * sz ≤ o → ¬ g.S b o)
    (hsl : ∀ (j : Nat) x, xs[j]? = some x → ∃ ad m cap, x = .slice ad m cap) {l : List UInt8} {x : Value} (h : Rep w g.bare (.s none (l.map bK)) x) : Rep w (g.off a).bare (.s none (l.map bK)) x := by
  have hes : ∀ (j : Nat) u, ((l.map bK).flatMap V.cells)[j]? = some u → ∃ b, u = bK b := fun j u => flat_bytes
  generalize l.map bK = es' at h hes ⊢
  cases h with
  | s0 ht => exact .s0 fun _ h => by cases h
  | se a' ht => exact .se a' fun _ h => by cases h
  | @s _ _ _ b off cap size xs' hn hm hp hs hx hc ht =>
    refine .s xs' hn hm hp hs (fun j u hj => ?_) (fun j u hj => ?_) (fun _ h => by cases h)
    · obtain ⟨p1, p2, p3⟩ := hx j u hj
      refine ⟨p1, ⟨p2, fun ha => ?_⟩, p3⟩
      have q : off + j < n * sz := by
        rcases Nat.lt_or_ge (off + j) (n * sz) with h | h
        · exact h
        · exact absurd p2 (hfree b ha _ h)
      have hlen := hown.1
      have hx1 : xs[off + j]? = some (xs[off + j]'(by omega)) := List.getElem?_eq_getElem _
      have h5 := oRow_cells hown (g := b) (by simp [ha, Value.ownBlock]) (off + j) _ hx1
      rw [Addr.add_lit, Nat.zero_add] at h5
      rw [h5] at p3
      obtain ⟨ad, m, cp, e⟩ := hsl _ _ hx1
      obtain ⟨b', rfl⟩ := hes j u hj
      have h6 := hc j _ hj
      rw [e] at p3
      injection p3 with p3
      rw [← p3] at h6
      cases h6
    · obtain ⟨b', rfl⟩ := hes j u hj
      have h6 := hc j _ hj
      generalize xs' j = z at h6 ⊢
      cases h6
      exact .k _
theorem LM.buf {P : Program} {f : Nat} {args es : List V} {E sz n k : Nat} {u : Value} (hn : es.length = n) (h0 : 0 < n) (hb : ∀ e ∈ es, e.cells.length = sz ∧ ∀ c ∈ e.cells, ∃ l : List UInt8, c = .s none (l.map bK))
    (h : LM P f args [] fun o m => o = .ret (.t [.s (some k) es, .k u]) ∧ m = [(k, .r E sz n)]) : LM P f args [] fun o m => o = .ret (.t [.w k n sz 0 n, .k u]) ∧ m = [(k, .w E sz n es)] := by
  refine ⟨h.ok, fun g w vals h1 h2 h3 => Calls.mono (h.go g w vals h1 h2 h3) ?_⟩
  rintro e w' ⟨o, mo, g', ⟨rfl, rfl⟩, hev, hrel, hk, x, rfl, hrep⟩
  cases hrep with
  | @t _ _ vs hl hc =>
  have hl2 : vs.size = 2 := hl.symm
  obtain ⟨y, hy⟩ : ∃ y, vs[0]? = some y := ⟨_, Array.getElem?_eq_getElem (by omega)⟩
  have hr0 := hc 0 _ y rfl hy
  have hko := hrel.ob k _ (aget_self ..)
  cases hko with
  | @r _ _ _ c a hg hR =>
  obtain ⟨hp, ⟨xs, hown⟩, hfree⟩ := hR
  have hab : ∀ b, a = some b → w.heap.size ≤ b := fun b hb => by
    rcases hrel.wr k _ b 0 (aget_self ..) ⟨_, _, by rw [hg, hb]⟩ with h | ⟨i, m, hm, _⟩
    · exact h
    · cases hm
  have hlt : ∀ b, a = some b → b < w'.heap.size := fun b hb => (oRow_lt hown b (by simp [hb, Value.ownBlock])).2
  have hfl : (es.flatMap V.cells).length = n * sz := by rw [flat_cells fun e he => (hb e he).1, hn]
  have hxl := hown.1
  cases hr0 with
  | s0 ht => simp at hn; omega
  | se a' ht => simp at hn; omega
  | @s _ _ _ b off cap size xs' hn' hm' hp' hs' hx' hc' ht =>
  obtain ⟨a1, l1, c1, e1, e2, e3⟩ := ht k rfl
  rw [hg] at e1
  cases e1
  have hy2 : Value.slice (some ⟨b, off, none⟩) es.length cap = .slice (a.map fun b => ⟨b, 0, none⟩) n c := by
    rcases e3 hn with h | ⟨_, h, _⟩
    · exact h
    · omega
  injection hy2 with q1 q2 q3
  obtain ⟨rfl, rfl⟩ : a = some b ∧ off = 0 := by
    cases a with
    | none => cases q1
    | some a => simp at q1; exact ⟨by rw [q1.1], q1.2⟩
  have hat : ∀ (j : Nat) x, xs[j]? = some x → ∃ l : List UInt8, (es.flatMap V.cells)[j]? = some (.s none (l.map bK)) ∧ Rep w' g'.bare (.s none (l.map bK)) x := fun j x hj => by
    have hjl : j < (es.flatMap V.cells).length := by
      have := (List.getElem?_eq_some_iff.1 hj).1
      omega
    have hu := List.getElem?_eq_getElem hjl
    obtain ⟨e, he, hue⟩ := List.mem_flatMap.1 (List.getElem_mem hjl)
    obtain ⟨l, hl⟩ := (hb e he).2 _ hue
    rw [hl] at hu
    obtain ⟨p1, p2, p3⟩ := hx' j _ hu
    have h5 := oRow_cells hown (g := b) (by simp [Value.ownBlock]) j _ hj
    rw [Addr.add_lit] at h5
    rw [h5] at p3
    injection p3 with p3
    rw [p3]
    exact ⟨l, hu, hc' j _ hu⟩
  have hsl : ∀ (j : Nat) x, xs[j]? = some x → ∃ ad m cap, x = .slice ad m cap := fun j x hj => by
    obtain ⟨l, _, hr⟩ := hat j x hj
    generalize l.map bK = es' at hr
    cases hr with
    | s0 ht => exact ⟨_, _, _, rfl⟩
    | se a' ht => exact ⟨_, _, _, rfl⟩
    | s xs' hn hm hp hs hx hc ht => exact ⟨_, _, _, rfl⟩
  have hne : ∀ b', b' < w.heap.size → some b ≠ some b' := fun b' hb' e => by
    injection e with e
    have := hab b rfl
    omega
  have hone : ∀ {i : Nat} {m m0 : M}, aget [(k, m0)] i = some m → i = k ∧ m = m0 := fun {i m m0} h => by
    rw [aget_cons] at h
    split at h
    · rename_i e; cases h; exact ⟨e.symm, rfl⟩
    · cases h
  have hnone : ∀ {i : Nat} {m m0 : M}, aget [(k, m)] i = none → aget [(k, m0)] i = none := fun {i m m0} h => by
    rw [aget_cons] at h ⊢
    split at h
    · cases h
    · rename_i e; rw [if_neg e]; rfl
  subst hn
  have hR2 : RelM (lentF g [] w) (g'.off (some b)) [(k, .w E sz es.length es)] w' := by
    refine ⟨fun i m hi => ?_, fun i m b' o hi hf => ?_, fun i j m m' b' o hij hi hj => ?_, fun i hi => hrel.nbx i (hnone hi), fun i hi => hrel.nrw i (hnone hi), fun b' o hb' => ⟨hrel.fut b' o hb', fun e => ?_⟩, ⟨hrel.loc.tab, hrel.loc.bx, hrel.loc.rw⟩⟩
    · obtain ⟨rfl, rfl⟩ := hone hi
      refine .w (a := some b) (c := c) hg ⟨hp, fun e he => ⟨(hb e he).1, fun u hu => ?_⟩, ⟨xs, hown, fun j u x hu hx => ?_⟩, fun b' e o h => h.2 e⟩
      · obtain ⟨l, rfl⟩ := (hb e he).2 u hu; rfl
      · obtain ⟨l, hu', hr⟩ := hat j x hx
        rw [hu] at hu'
        cases hu'
        exact rep_off hown hfree hsl hr
    · obtain ⟨rfl, rfl⟩ := hone hi
      exact hrel.wr _ _ b' o (aget_self ..) hf
    · exact absurd ((hone hi).1.trans (hone hj).1.symm) hij
    · injection e with e
      have := hlt b rfl
      omega
  refine ⟨_, _, g'.off (some b), ⟨rfl, rfl⟩, ⟨hev.size, fun b' o hb' hs => ⟨⟨(hev.st b' o hb' hs).1, hne b' hb'⟩, (hev.st b' o hb' hs).2⟩, hev.bx, hev.rw⟩, hR2, ⟨hk.os, hk.tape, hk.output, hk.size, hk.blk, hk.cell, fun b' o hb hB hS => hk.S1 b' o hb hB hS.1, fun b' o hb hS => ⟨hk.S2 b' o hb hS, hne b' hb⟩, hk.cellS⟩, _, rfl, ?_⟩
  refine .t hl fun j u' x hu hx => ?_
  match j, hu with
  | 0, hu =>
    cases hu
    rw [hy] at hx
    cases hx
    exact .w ⟨some b, es.length, c, hg, Nat.le_refl _, fun _ => ⟨by omega, by omega, fun _ => by simp⟩⟩
  | 1, hu =>
    cases hu
    have := hc 1 _ x rfl hx
    cases this
    exact .k _
end Lf
namespace Lf
namespace Te
end Te
end Lf
namespace Lf
namespace Te
end Te
end Lf
namespace Lf
section
end
namespace Te
end Te
end Lf
namespace Lf
namespace Rw
end Rw
end Lf
open Go.RowKit Rg Rp Go.WideShapes Go.ChangeShapes Wm Ar
set_option maxRecDepth 100000
namespace Lf
open Tr Ro
section
variable {H : Type} {enc : TypeId × Value → H} {W : World}
theorem opnTexts (n : Nat) : Opn enc Try.prog W n 23 (fun l : List (List UInt8) => [.s none (l.map bV)]) (fun _ => True) (fun l => (l.map fun x => x.length + 1).sum + 1) :=
  (Opn.sl (e := 22) (k := 1) bV (by kernel_rfl) (by kernel_rfl) (by decide) (fun _ => rfl) (Opn.bytes (e := 5) (by kernel_rfl) (by kernel_rfl) (by kernel_rfl))).map id (fun _ _ => rfl) (fun _ _ => trivial) (fun _ _ => Nat.le_refl _)
end
theorem sum_ge_one (l : List (List UInt8)) : l.length ≤ (l.map fun x => x.length + 1).sum := by
  induction l with
  | nil => simp
  | cons a r ih => simp only [List.map_cons, List.sum_cons, List.length_cons]; omega
theorem sum_ge_mem {l : List (List UInt8)} {t : List UInt8} (h : t ∈ l) : t.length + 1 ≤ (l.map fun x => x.length + 1).sum := by
  induction l with
  | nil => cases h
  | cons a r ih =>
    simp only [List.map_cons, List.sum_cons]
    rcases List.mem_cons.1 h with rfl | h
    · omega
    · have := ih h; omega
end Lf
namespace Lf
namespace Rw
end Rw
end Lf
end Go.Proofs.Ytkbimhccaacobaa

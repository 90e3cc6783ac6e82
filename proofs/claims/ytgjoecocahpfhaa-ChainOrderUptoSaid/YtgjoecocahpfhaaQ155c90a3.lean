/- A part of the proof: texts joined. -/
import Derived.Test.YtgjoecocahpfhaaQ147a56b1
namespace Go.Proofs.Ytgjoecocahpfhaa
open Go.RowKit Rg
set_option maxRecDepth 100000
namespace Lf
theorem flat_cellsK {sz : Nat} : ∀ {es : List V}, (∀ e ∈ es, e.cells.length = sz) → (es.flatMap V.cells).length = es.length * sz
  | [], _ => by simp
  | e :: r, h => by
    rw [List.flatMap_cons, List.length_append, h e List.mem_cons_self, flat_cellsK fun a ha => h a (List.mem_cons_of_mem _ ha), List.length_cons, Nat.succ_mul, Nat.add_comm]
def Gh.offK (g : Gh) (a : Option Nat) : Gh := ⟨fun b o => g.S b o ∧ a ≠ some b, g.bx, g.rw⟩
theorem LM.bufK {P : Program} {f : Nat} {args es : List V} {E sz n k : Nat} (hn : es.length = n) (h0 : 0 < n) (hb : ∀ e ∈ es, e.cells.length = sz ∧ ∀ c ∈ e.cells, ∃ v : Value, c = .k v ∧ (V.k v).one = true)
    (h : LM P f args [] fun o m => o = .ret (.s (some k) es) ∧ m = [(k, .r E sz n)]) : LM P f args [] fun o m => o = .ret (.w k n sz 0 n) ∧ m = [(k, .w E sz n es)] := by
  refine ⟨h.ok, fun g w vals h1 h2 h3 => Calls.mono (h.go g w vals h1 h2 h3) ?_⟩
  rintro e w' ⟨o, mo, g', ⟨rfl, rfl⟩, hev, hrel, hk, x, rfl, hr0⟩
  have hko := hrel.ob k _ (aget_self ..)
  cases hko with
  | @r _ _ _ c a hg hR =>
  obtain ⟨hp, ⟨xs, hown⟩, hfree⟩ := hR
  have hab : ∀ b, a = some b → w.heap.size ≤ b := fun b hb => by
    rcases hrel.wr k _ b 0 (aget_self ..) ⟨_, _, by rw [hg, hb]⟩ with h | ⟨i, m, hm, _⟩
    · exact h
    · cases hm
  have hlt : ∀ b, a = some b → b < w'.heap.size := fun b hb => (oRow_lt hown b (by simp [hb, Value.ownBlock])).2
  have hfl : (es.flatMap V.cells).length = n * sz := by rw [flat_cellsK fun e he => (hb e he).1, hn]
  have hxl := hown.1
  cases hr0 with
  | s0 ht => simp at hn; omega
  | se a' ht => simp at hn; omega
  | @s _ _ _ b off cap size xs' hn' hm' hp' hs' hx' hc' ht =>
  obtain ⟨a1, l1, c1, e1, e2, e3⟩ := ht k rfl
  rw [hg] at e1
  cases e1
  have hy2 : Value.slice (some ⟨b, off, none⟩) es.length cap = .slice (a.map fun b => ⟨b, 0, none⟩) n c := by
    rcases e3 hn with h | ⟨_, h, _⟩
    · exact h
    · omega
  injection hy2 with q1 q2 q3
  obtain ⟨rfl, rfl⟩ : a = some b ∧ off = 0 := by
    cases a with
    | none => cases q1
    | some a => simp at q1; exact ⟨by rw [q1.1], q1.2⟩
  have hat : ∀ (j : Nat) x, xs[j]? = some x → (es.flatMap V.cells)[j]? = some (.k x) := fun j x hj => by
    have hjl : j < (es.flatMap V.cells).length := by
      have := (List.getElem?_eq_some_iff.1 hj).1
      omega
    have hu := List.getElem?_eq_getElem hjl
    obtain ⟨e, he, hue⟩ := List.mem_flatMap.1 (List.getElem_mem hjl)
    obtain ⟨l, hl, _⟩ := (hb e he).2 _ hue
    rw [hl] at hu
    obtain ⟨p1, p2, p3⟩ := hx' j _ hu
    have h5 := oRow_cells hown (g := b) (by simp [Value.ownBlock]) j _ hj
    rw [Addr.add_lit] at h5
    rw [h5] at p3
    injection p3 with p3
    have h6 := hc' j _ hu
    rw [← p3] at h6
    cases h6
    exact hu
  have hne : ∀ b', b' < w.heap.size → some b ≠ some b' := fun b' hb' e => by
    injection e with e
    have := hab b rfl
    omega
  have hone : ∀ {i : Nat} {m m0 : M}, aget [(k, m0)] i = some m → i = k ∧ m = m0 := fun {i m m0} h => by
    rw [aget_cons] at h
    split at h
    · rename_i e; cases h; exact ⟨e.symm, rfl⟩
    · cases h
  have hnone : ∀ {i : Nat} {m m0 : M}, aget [(k, m)] i = none → aget [(k, m0)] i = none := fun {i m m0} h => by
    rw [aget_cons] at h ⊢
    split at h
    · cases h
    · rename_i e; rw [if_neg e]; rfl
  subst hn
  have hR2 : RelM (lentF g [] w) (g'.offK (some b)) [(k, .w E sz es.length es)] w' := by
    refine ⟨fun i m hi => ?_, fun i m b' o hi hf => ?_, fun i j m m' b' o hij hi hj => ?_, fun i hi => hrel.nbx i (hnone hi), fun i hi => hrel.nrw i (hnone hi), fun b' o hb' => ⟨hrel.fut b' o hb', fun e => ?_⟩, ⟨hrel.loc.tab, hrel.loc.bx, hrel.loc.rw⟩⟩
    · obtain ⟨rfl, rfl⟩ := hone hi
      refine .w (a := some b) (c := c) hg ⟨hp, fun e he => ⟨(hb e he).1, fun u hu => ?_⟩, ⟨xs, hown, fun j u x hu hx => ?_⟩, fun b' e o h => h.2 e⟩
      · obtain ⟨l, rfl, h1⟩ := (hb e he).2 u hu; exact h1
      · have hu' := hat j x hx
        rw [hu] at hu'
        cases hu'
        exact .k _
    · obtain ⟨rfl, rfl⟩ := hone hi
      exact hrel.wr _ _ b' o (aget_self ..) hf
    · exact absurd ((hone hi).1.trans (hone hj).1.symm) hij
    · injection e with e
      have := hlt b rfl
      omega
  refine ⟨_, _, g'.offK (some b), ⟨rfl, rfl⟩, ⟨hev.size, fun b' o hb' hs => ⟨⟨(hev.st b' o hb' hs).1, hne b' hb'⟩, (hev.st b' o hb' hs).2⟩, hev.bx, hev.rw⟩, hR2, ⟨hk.os, hk.tape, hk.output, hk.size, hk.blk, hk.cell, fun b' o hb hB hS => hk.S1 b' o hb hB hS.1, fun b' o hb hS => ⟨hk.S2 b' o hb hS, hne b' hb⟩, hk.cellS⟩, _, rfl, ?_⟩
  exact .w ⟨some b, es.length, c, hg, Nat.le_refl _, fun _ => ⟨by omega, by omega, fun _ => by simp⟩⟩
section
variable {P : Program} {o : Oper} {env : Env}
theorem RelM.newBuf {F : Fr0} {g : Gh} {w : World} {mem : Mem} (h : RelM F g mem w) (hk : Kept F g w) {i E sz c : Nat} {es : List V} {xs : Array Value} (hi : aget mem i = none) (hp : 0 < sz) (hc : es.length ≤ c) (hm : c ≤ maxLen) (hxs : xs.size = c * sz)
    (hs : ∀ e ∈ es, e.cells.length = sz ∧ ∀ u ∈ e.cells, u.one = true) (hr : ∀ (j : Nat) u z, (es.flatMap V.cells)[j]? = some u → xs[j]? = some z → Rep w g.bare u z) :
    ∃ g', Ev g w g' (w.alloc (.cells xs E)) ∧ RelM F g' ((i, .w E sz 0 es) :: mem) (w.alloc (.cells xs E)) ∧ Kept F g' (w.alloc (.cells xs E)) ∧ Rep (w.alloc (.cells xs E)) g' (.w i 0 sz 0 es.length) (.slice (some ⟨w.heap.size, 0, none⟩) es.length c) := by
  have hfl := flat_len fun e he => (hs e he).1
  have hle : es.length * sz ≤ xs.size := by rw [hxs]; exact Nat.mul_le_mul_right _ hc
  have hown : (w.alloc (.cells xs E)).oRow 0 E sz (.slice (some ⟨w.heap.size, 0, none⟩) es.length c) es.length (xs.toList.take (es.length * sz)) :=
    ⟨by simp; omega, .inr ⟨w.heap.size, c, xs, _, rfl, Nat.zero_le _, heap_alloc_new w _, hc, hm, hxs, rfl, .inl rfl⟩⟩
  have hrw : (g.newR i w.heap.size 0 0 c).rw i = some (some w.heap.size, 0, c) := by simp [Gh.newR]
  have hev : Ev g w (g.newR i w.heap.size 0 0 c) (w.alloc (.cells xs E)) := Ev.newR (o := .cells xs E) (h.nrw i hi)
  obtain ⟨e1, e2, e3⟩ := h.newR hk (n := 0) (l := 0) (c := c) (m' := .w E sz 0 es) (o := .cells xs E) hi (.w hrw ⟨hp, hs, ⟨_, hown, fun j u z hj hz => by
    rw [List.getElem?_take] at hz
    split at hz
    · exact (hr j u z hj (by simpa using hz)).mono hev.bare
    · cases hz⟩, fun b hb o hS => by cases hb; have := hS.2 rfl; omega⟩) fun b o' ⟨l, c', hp'⟩ => by rw [hrw] at hp'; cases hp'; rfl
  exact ⟨_, e1, e2, e3, .w ⟨some w.heap.size, 0, c, hrw, Nat.le_refl _, fun _ => ⟨by omega, by omega, fun _ => by simp⟩⟩⟩
theorem Does.buildSliceW {T E i len : Nat} {ps : List (Nat × Operand)} {vs : List (Nat × V)} {es : List V} (X : TOk P) {ti ei : TI} (ho : o.op = .buildSlice T len ps.toArray) (hT : aget X.tab T = some ti) (hd : ti.d = .sl E) (hE : aget X.tab E = some ei) (hpos : Nat.blt 0 ei.size = true) (hv : evp env ps = some vs) (hde : dense 0 vs = some es)
    (hlen : Nat.beq es.length len = true) (hsm : Nat.ble (len * ei.size) 16777216 = true) (hs : ∀ e ∈ es, e.cells.length = ei.size) (ho1 : (es.all V.ok) = true) : Does P o env (.w i 0 ei.size 0 len) [(i, none, some (.w E ei.size 0 es))] := by
  refine ⟨fun F g a w mem h1 h2 h3 h4 _ K Q hK => ?_⟩
  obtain rfl := (Nat.eq_of_beq_eq_true hlen).symm
  have hp := evp_rep (w := w) (g := g) (a := a) hv (fun x hx u hu => h1 x (by simpa [ho, Op.operands] using hx) u hu)
  obtain ⟨d1, d2, d3, d4⟩ := dense_spec hp hde
  have hpos' : 0 < ei.size := Nat.le_of_ble_eq_true hpos
  have hsm' := Nat.le_of_ble_eq_true hsm
  obtain ⟨ie, hie, hse, _, z, hz, _, hzs, _⟩ := (X.get hE).info
  have hu := (X.get hT).sl hd
  have key : ∃ xs : Array Value, (execOp a.eval o).run P w = .ok (.value (.slice (some ⟨w.heap.size, 0, none⟩) es.length es.length)) (w.alloc (.cells xs E)) ∧ xs.size = es.length * ei.size ∧ (∀ e ∈ es, e.cells.length = ei.size ∧ ∀ u ∈ e.cells, u.one = true) ∧
      ∀ (j : Nat) u y, (es.flatMap V.cells)[j]? = some u → xs[j]? = some y → Rep w g.bare u y := by
    generalize hq : (ps.map fun (i, x) => (i, a.eval x)) = qs at hp d2 d3 d4
    have hone : ∀ (j : Nat) e, es[j]? = some e → ∀ u ∈ e.cells, u.one = true := fun j e hj => by
      have hjl := (List.getElem?_eq_some_iff.1 hj).1
      have hql : j < (qs.map (·.2)).length := by simp; omega
      exact (rep_cells (d4 j e _ hj (List.getElem?_eq_getElem hql)) (List.all_eq_true.1 ho1 e (List.mem_of_getElem? hj))).2.1
    have hone' : ∀ e ∈ es, e.cells.length = ei.size ∧ ∀ u ∈ e.cells, u.one = true := fun e he => by
      obtain ⟨j, hj⟩ := List.getElem?_of_mem he
      exact ⟨hs e he, hone j e hj⟩
    rcases Nat.eq_zero_or_pos es.length with h0 | h0
    · have : es = [] := List.eq_nil_of_length_eq_zero h0
      subst this
      have hps : qs = [] := List.eq_nil_of_length_eq_zero (by simp at d1; omega)
      have hps' : ps = [] := by rw [← List.map_eq_nil_iff, hq]; exact hps
      subst hps'
      refine ⟨#[], ?_, by simp, by simp, by simp⟩
      simp [execOp, ho, Instr.buildSlice, run_underlying hu, (X.get hE).run_size, Instr.fill, newRow]
      congr 2
      exact Array.eq_empty_of_size_eq_zero (by simp)
    · have hcz : ∀ v ∈ qs.map (·.2), v.cells.size = ei.size := fun v hv' => by
        obtain ⟨j, hj⟩ := List.getElem?_of_mem hv'
        have hjl := (List.getElem?_eq_some_iff.1 hj).1
        have hje : j < es.length := by simp at hjl; omega
        have hme := List.getElem_mem hje
        obtain ⟨c1, _, _⟩ := rep_cells (d4 j _ _ (List.getElem?_eq_getElem hje) hj) (List.all_eq_true.1 ho1 _ hme)
        rw [← c1, hs _ hme]
      obtain ⟨r, r1, r2, r3⟩ := Great.fill_dense hpos' (qs.map (·.2)) 0 ((Array.range (es.length * ei.size)).map (z.cells[· % z.cells.size]!)) hcz (by simp; rw [d2, ← d1]; exact Nat.le_refl _)
      rw [← d3] at r1
      refine ⟨r, ?_, by rw [r2]; simp, hone', fun j u y hj hy => ?_⟩
      · have hb := run_buildSlice (P := P) w T E es.length (ps.toArray.map fun (i, x) => (i, a.eval x)) r ie z hu hie hz (by rw [hse]; omega) (by rw [hse]; have := Nat.mul_pos h0 hpos'; omega) (by rw [hse, ops_parts, hq]; exact r1)
        simp only [execOp, ho, Sem.run_bind, hb]
        rfl
      · obtain ⟨e, he, hue⟩ := flat_split hpos' hs hj
        have hjl := (List.getElem?_eq_some_iff.1 hj).1
        rw [flat_len hs] at hjl
        rw [r3 j] at hy
        have hel := (List.getElem?_eq_some_iff.1 he).1
        have hql : j / ei.size < (qs.map (·.2)).length := by simp; omega
        rw [if_pos ⟨by omega, by simp; rw [d2, ← d1]; exact hjl⟩, Nat.sub_zero, List.getElem?_eq_getElem hql] at hy
        exact (rep_cells (d4 _ e _ he (List.getElem?_eq_getElem hql)) (List.all_eq_true.1 ho1 e (List.mem_of_getElem? he))).2.2 _ u y hue (by simpa using hy)
  obtain ⟨xs, hrun, hxs, hs', hrep⟩ := key
  obtain ⟨g', k1, k2, k3, k4⟩ := h2.newBuf h3 (i := i) (E := E) (h4 _ _ _ mem_one) hpos' (Nat.le_refl _) (by unfold maxLen; have := Nat.le_mul_of_pos_right es.length hpos'; omega) hxs hs' hrep
  unfold Oper.wp
  rw [hrun]
  exact hK _ g' _ k1 k2 k3 k4
end
end Lf
end Go.Proofs.Ytgjoecocahpfhaa

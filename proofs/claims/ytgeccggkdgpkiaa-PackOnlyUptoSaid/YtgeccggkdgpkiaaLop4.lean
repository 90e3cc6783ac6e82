/- Lifted operations: literals of structs, arrays and slices; make; a text's bytes; append onto nil; a nil slice taken for a row. -/
import Derived.Test.YtgeccggkdgpkiaaLf
import Derived.Great.BuildSlice
namespace Go.Proofs.Ytgeccggkdgpkiaa
open Go.RowKit Rg
namespace Lf
section
variable {P : Program} {o : Oper} {env : Env} {v : V}

/-! ### Literals of structs and arrays -/
def vfill (place : Nat → Option (Nat × Nat)) : List V → List (Nat × V) → Option (List V)
  | cells, [] => some cells
  | cells, (i, v) :: r =>
    match place i with
    | some (off, size) => cond (v.ok && (Nat.beq v.cells.length size && Nat.ble (off + v.cells.length) cells.length)) (vfill place (splice cells off v.cells) r) none
    | none => none
def evp (env : Env) : List (Nat × Operand) → Option (List (Nat × V))
  | [] => some []
  | (i, x) :: r => match evo env x, evp env r with
    | some v, some vs => some ((i, v) :: vs)
    | _, _ => none
def places (tab : Tab) : List (Nat × Nat) → Option (List (Nat × Nat))
  | [] => some []
  | (off, t) :: r => match aget tab t, places tab r with
    | some ti, some ps => some ((off, ti.size) :: ps)
    | _, _ => none

/-- Parts and what they read. -/
def PR (w : World) (g : Gh) : List (Nat × V) → List (Nat × Value) → Prop
  | [], [] => True
  | (i, v) :: r, (j, x) :: s => i = j ∧ Rep w g v x ∧ PR w g r s
  | _, _ => False
theorem evp_rep {w : World} {g : Gh} {a : Act} : ∀ {ps : List (Nat × Operand)} {vs : List (Nat × V)}, evp env ps = some vs → (∀ x ∈ ps.map (·.2), ∀ u, evo env x = some u → Rep w g u (a.eval x)) → PR w g vs (ps.map fun (i, x) => (i, a.eval x))
  | [], vs, h, _ => by simp [evp] at h; subst h; trivial
  | (i, x) :: r, vs, h, hr => by
    simp only [evp] at h
    split at h
    · rename_i v vs' hv hvs
      cases h
      exact ⟨rfl, hr x (by simp) v hv, evp_rep hvs fun y hy => hr y (by simp only [List.map_cons, List.mem_cons]; exact .inr hy)⟩
    · cases h
theorem fill_rep {w : World} {g : Gh} {place : Nat → Option (Nat × Nat)} : ∀ {ps : List (Nat × V)} {qs : List (Nat × Value)} {cs cs' : List V} {xs : Array Value}, PR w g ps qs → vfill place cs ps = some cs' → cs.length = xs.size → (∀ u ∈ cs, u.one = true) →
    (∀ (j : Nat) u x, cs[j]? = some u → xs[j]? = some x → Rep w g u x) → ∃ xs', Instr.fill place xs qs = some xs' ∧ cs'.length = xs'.size ∧ (∀ u ∈ cs', u.one = true) ∧ ∀ (j : Nat) u x, cs'[j]? = some u → xs'[j]? = some x → Rep w g u x
  | [], [], cs, cs', xs, _, h, hl, h1, hr => by simp [vfill] at h; subst h; exact ⟨xs, rfl, hl, h1, hr⟩
  | (i, v) :: r, (j, x) :: s, cs, cs', xs, hp, h, hl, h1, hr => by
    obtain ⟨rfl, hvx, hp'⟩ := hp
    simp only [vfill] at h
    split at h
    · rename_i off size hpl
      cases hc : (v.ok && (Nat.beq v.cells.length size && Nat.ble (off + v.cells.length) cs.length))
      · rw [hc] at h; cases h
      · rw [hc] at h
        simp only [Bool.and_eq_true] at hc
        obtain ⟨c1, c2, c3⟩ := hc
        have e2 := Nat.eq_of_beq_eq_true c2
        have e3 := Nat.le_of_ble_eq_true c3
        obtain ⟨q1, q2, q3⟩ := rep_cells hvx c1
        obtain ⟨f1, f2⟩ := Great.foldl_set off x.cells.toList 0 xs
        have hsz : (x.cells.zipIdx.foldl (fun cs (x : Value × Nat) => cs.setIfInBounds (off + x.2) x.1) xs) = ((x.cells.toList.zipIdx 0).foldl (fun cs (x : Value × Nat) => cs.setIfInBounds (off + x.2) x.1) xs) := by
          rw [← Array.foldl_toList, Array.toList_zipIdx]
        obtain ⟨xs', g1, g2, g3, g4⟩ := fill_rep (place := place) (cs := splice cs off v.cells) (xs := (x.cells.toList.zipIdx 0).foldl (fun cs (x : Value × Nat) => cs.setIfInBounds (off + x.2) x.1) xs) hp' h (by rw [splice_len e3, f1, hl]) (fun u hu => by
            obtain ⟨k, hk⟩ := List.getElem?_of_mem hu
            rw [splice_get e3] at hk
            split at hk
            · exact q2 u (List.mem_of_getElem? hk)
            · exact h1 u (List.mem_of_getElem? hk)) (fun k u y hk hy => by
            rw [splice_get e3] at hk
            rw [f2 k] at hy
            have hkl : k < cs.length := by
              split at hk
              · omega
              · exact (List.getElem?_eq_some_iff.1 hk).1
            simp only [Nat.add_zero, Array.length_toList] at hy
            split at hk
            · rename_i hin
              rw [if_pos ⟨hin.1, by omega, by omega⟩] at hy
              exact q3 _ u y hk (by simpa using hy)
            · rename_i hin
              rw [if_neg (by omega)] at hy
              exact hr k u y hk hy)
        refine ⟨xs', ?_, g2, g3, g4⟩
        unfold Instr.fill
        rw [hpl]
        simp only []
        rw [if_neg (by simp; omega), hsz]
        exact g1
    · cases h
  | [], _ :: _, _, _, _, hp, _, _, _, _ => hp.elim
  | _ :: _, [], _, _, _, hp, _, _, _, _ => hp.elim

theorem places_spec {X : TOk P} : ∀ {fs : List Field} {pl : List (Nat × Nat)}, places X.tab (fs.map fun f => (f.offset, f.type)) = some pl → fs.mapM (fun f => (P.info? f.type).map fun i => (f.offset, i.size)) = some pl
  | [], pl, h => by simp [places] at h; subst h; rfl
  | f :: r, pl, h => by
    simp only [List.map_cons, places] at h
    split at h
    · rename_i ti ps ht hps
      cases h
      have h1 := (X.get ht).size
      have h2 := places_spec hps
      simp only [List.mapM_cons, h2]
      cases hi : P.info? f.type with
      | none => simp [hi] at h1
      | some i => simp [hi] at h1; simp [h1]
    · cases h

theorem zero_rep {w : World} {g : Gh} {zs : List Z} {z : Value} (hzz : ∀ (j : Nat) zz, zs[j]? = some zz → ∃ x, z.cells.toList[j]? = some x ∧ zz.is x = true) : (∀ u ∈ zs.map Z.v, u.one = true) ∧ ∀ (j : Nat) u x, (zs.map Z.v)[j]? = some u → z.cells[j]? = some x → Rep w g u x := by
  refine ⟨fun u hu => by obtain ⟨q, _, rfl⟩ := List.mem_map.1 hu; exact q.one, fun j u x hj hx => ?_⟩
  rw [List.getElem?_map] at hj
  obtain ⟨q, hq, rfl⟩ := Option.map_eq_some_iff.1 hj
  obtain ⟨x', hx', hi'⟩ := hzz j q hq
  have : x = x' := by simpa [hx] using hx'
  subst this
  exact Z.rep hi'

theorem ops_parts {a : Act} {ps : List (Nat × Operand)} : (ps.toArray.map fun (i, x) => (i, a.eval x)).toList = ps.map fun (i, x) => (i, a.eval x) := by simp

theorem Does.buildSt {T : Nat} {ps : List (Nat × Operand)} {fs pl : List (Nat × Nat)} {vs : List (Nat × V)} {cs : List V} (X : TOk P) {ti : TI} (ho : o.op = .build T ps.toArray) (hT : aget X.tab T = some ti) (hd : ti.d = .st fs) (hpl : places X.tab fs = some pl) (hv : evp env ps = some vs) (hc : vfill (fun i => pl[i]?) (ti.zero.map Z.v) vs = some cs) : Does P o env (.a cs) [] :=
  .pure fun F g a w mem hr _ => by
    have hp := evp_rep (w := w) (g := g) (a := a) hv (fun x hx u hu => hr x (by simpa [ho, Op.operands] using hx) u hu)
    obtain ⟨i, hi, hs, hb, z, hz, hl, hl', hzz, _⟩ := (X.get hT).info
    obtain ⟨z1, z2⟩ := zero_rep (w := w) (g := g) hzz
    obtain ⟨xs, f1, f2, f3, f4⟩ := fill_rep hp hc (xs := z.cells) (by simpa using hl) z1 z2
    obtain ⟨gs, hu, hg⟩ := (X.get hT).st hd
    rw [← hg] at hpl
    have hb : P.built T (ps.toArray.map fun (i, x) => (i, a.eval x)).toList = some xs := by
      unfold Program.built
      simp only [hi, hu, hz, places_spec hpl, ops_parts]
      rw [← f1]
      congr 1
      funext k
      simp
    refine ⟨.agg xs, ?_, .a f2 f3 f4⟩
    simp only [execOp, ho, Sem.run_bind, run_build w T _ _ hb]
    rfl
theorem Does.buildArr {T n e : Nat} {ps : List (Nat × Operand)} {vs : List (Nat × V)} {cs : List V} (X : TOk P) {ti ei : TI} (ho : o.op = .build T ps.toArray) (hT : aget X.tab T = some ti) (hd : ti.d = .arr n e) (hE : aget X.tab e = some ei) (hv : evp env ps = some vs) (hc : vfill (fun i => some (i * ei.size, ei.size)) (ti.zero.map Z.v) vs = some cs) : Does P o env (.a cs) [] :=
  .pure fun F g a w mem hr _ => by
    have hp := evp_rep (w := w) (g := g) (a := a) hv (fun x hx u hu => hr x (by simpa [ho, Op.operands] using hx) u hu)
    obtain ⟨i, hi, hs, hb, z, hz, hl, hl', hzz, _⟩ := (X.get hT).info
    obtain ⟨ie, hie, hse, _⟩ := (X.get hE).info
    obtain ⟨z1, z2⟩ := zero_rep (w := w) (g := g) hzz
    obtain ⟨xs, f1, f2, f3, f4⟩ := fill_rep hp hc (xs := z.cells) (by simpa using hl) z1 z2
    have hb : P.built T (ps.toArray.map fun (i, x) => (i, a.eval x)).toList = some xs := by
      unfold Program.built
      simp only [hi, (X.get hT).arr hd, hz, hie, ops_parts, hse]
      exact f1
    refine ⟨.agg xs, ?_, .a f2 f3 f4⟩
    simp only [execOp, ho, Sem.run_bind, run_build w T _ _ hb]
    rfl

/-! ### New rows -/
theorem RelM.newRow {F : Fr0} {g : Gh} {w : World} {mem : Mem} (h : RelM F g mem w) (hk : Kept F g w) {i E sz c : Nat} {es : List V} {xs : Array Value} (hi : aget mem i = none) (hp : 0 < sz) (hc : es.length ≤ c) (hm : c ≤ maxLen) (hxs : xs.size = c * sz)
    (hs : ∀ e ∈ es, e.cells.length = sz ∧ ∀ u ∈ e.cells, u.one = true) (hr : ∀ (j : Nat) u z, (es.flatMap V.cells)[j]? = some u → xs[j]? = some z → Rep w g.bare u z) :
    ∃ g', Ev g w g' (w.alloc (.cells xs E)) ∧ RelM F g' ((i, .r E sz es.length) :: mem) (w.alloc (.cells xs E)) ∧ Kept F g' (w.alloc (.cells xs E)) ∧ Rep (w.alloc (.cells xs E)) g' (.s (some i) es) (.slice (some ⟨w.heap.size, 0, none⟩) es.length c) := by
  have hfl := flat_len fun e he => (hs e he).1
  have hle : es.length * sz ≤ xs.size := by rw [hxs]; exact Nat.mul_le_mul_right _ hc
  have hown : (w.alloc (.cells xs E)).oRow 0 E sz (.slice (some ⟨w.heap.size, 0, none⟩) es.length c) es.length (xs.toList.take (es.length * sz)) :=
    ⟨by simp; omega, .inr ⟨w.heap.size, c, xs, _, rfl, Nat.zero_le _, heap_alloc_new w _, hc, hm, hxs, rfl, .inl rfl⟩⟩
  have hrw : (g.newR i w.heap.size (es.length * sz) es.length c).rw i = some (some w.heap.size, es.length, c) := by simp [Gh.newR]
  obtain ⟨e1, e2, e3⟩ := h.newR hk (n := es.length * sz) (l := es.length) (c := c) (m' := .r E sz es.length) (o := .cells xs E) hi (.r hrw ⟨hp, ⟨_, hown⟩, fun b hb o ho hS => by cases hb; have := hS.2 rfl; omega⟩) fun b o' ⟨l, c', hp'⟩ => by rw [hrw] at hp'; cases hp'; rfl
  refine ⟨_, e1, e2, e3, Rep.row (a := some w.heap.size) rfl hp hrw hown (fun b hb => ?_) hs (fun j u z hj hz => ?_)⟩
  · cases hb
    exact ⟨by simp, fun o ho => ⟨h.fut _ o (Nat.le_refl _), fun _ => ho⟩⟩
  · rw [List.getElem?_take] at hz
    split at hz
    · exact (hr j u z hj (by simpa using hz)).mono e1.bare
    · cases hz
/-- A row that has nothing yet. -/
def Gh.addRow (g : Gh) (i : Nat) (z : Option Nat × Nat × Nat) : Gh := ⟨g.S, g.bx, fun j => if j = i then some z else g.rw j⟩
theorem RelM.nilRow {F : Fr0} {g : Gh} {w : World} {mem : Mem} (h : RelM F g mem w) (hk : Kept F g w) {i : Nat} {m : M} (hi : aget mem i = none) (ho : ObjAt (g.addRow i (none, 0, 0)) w i m) (hf : ∀ b o, ¬ fp (g.addRow i (none, 0, 0)) i m b o) :
    Ev g w (g.addRow i (none, 0, 0)) w ∧ RelM F (g.addRow i (none, 0, 0)) ((i, m) :: mem) w ∧ Kept F (g.addRow i (none, 0, 0)) w := by
  have he : Ev g w (g.addRow i (none, 0, 0)) w := ⟨Nat.le_refl _, fun _ _ _ hs => ⟨hs, rfl⟩, fun _ _ hz => hz, fun r a l c h' => ⟨a, l, c, by
    simp only [Gh.addRow]
    split
    · rename_i e; subst e; rw [h.nrw _ hi] at h'; cases h'
    · exact h', Nat.le_refl _, fun _ => ⟨rfl, rfl⟩⟩⟩
  exact ⟨he, h.step hk he rfl rfl rfl (fun _ _ _ _ => ⟨rfl, rfl, fun hs => hs⟩) (fun _ _ _ => rfl) (fun _ _ => rfl) (fun j hj => by simp [Gh.addRow, hj]) ho (fun b o hp => absurd hp (hf b o)) h.fut⟩

def dense : Nat → List (Nat × V) → Option (List V)
  | _, [] => some []
  | k, (i, v) :: r => match cond (Nat.beq i k) v.bare none, dense (k + 1) r with
    | some v', some vs => some (v' :: vs)
    | _, _ => none
theorem dense_spec {w : World} {g : Gh} : ∀ {k : Nat} {ps : List (Nat × V)} {qs : List (Nat × Value)} {es : List V}, PR w g ps qs → dense k ps = some es → es.length = ps.length ∧ qs.length = ps.length ∧ qs = ((qs.map (·.2)).zipIdx k).map (fun x => (x.2, x.1)) ∧ ∀ (j : Nat) u x, es[j]? = some u → (qs.map (·.2))[j]? = some x → Rep w g.bare u x
  | k, [], [], es, _, h => by simp [dense] at h; subst h; simp
  | k, (i, v) :: r, (j, x) :: s, es, hp, h => by
    obtain ⟨rfl, hvx, hp'⟩ := hp
    simp only [dense] at h
    split at h
    · rename_i v' vs hv hvs
      cases h
      cases hb : Nat.beq i k
      · rw [hb] at hv; cases hv
      · rw [hb] at hv
        obtain rfl := Nat.eq_of_beq_eq_true hb
        obtain ⟨h1, h2, h3, h4⟩ := dense_spec hp' hvs
        refine ⟨by simp [h1], by simp [h2], ?_, fun j u y hj hy => ?_⟩
        · simp only [List.map_cons, List.zipIdx_cons]
          rw [← h3]
        · cases j with
          | zero => simp at hj hy; subst hj; subst hy; exact hvx.to_bare hv
          | succ j => simp at hj hy; exact h4 j u y hj (by simpa using hy)
    · cases h
  | _, [], _ :: _, _, hp, _ => hp.elim
  | _, _ :: _, [], _, hp, _ => hp.elim

theorem flat_split {es : List V} {size j : Nat} (hp : 0 < size) (hs : ∀ e ∈ es, e.cells.length = size) {u : V} (hu : (es.flatMap V.cells)[j]? = some u) : ∃ e, es[j / size]? = some e ∧ e.cells[j % size]? = some u := by
  have hjl := (List.getElem?_eq_some_iff.1 hu).1
  rw [flat_len hs] at hjl
  have hd : j / size < es.length := (Nat.div_lt_iff_lt_mul hp).2 hjl
  refine ⟨es[j / size], List.getElem?_eq_getElem hd, ?_⟩
  have hm : j % size < es[j / size].cells.length := by rw [hs _ (List.getElem_mem hd)]; exact Nat.mod_lt _ hp
  have := flat_get hs (List.getElem?_eq_getElem hd) (List.getElem?_eq_getElem hm)
  rw [show j / size * size + j % size = j from by rw [Nat.mul_comm]; exact Nat.div_add_mod j size, hu] at this
  rw [List.getElem?_eq_getElem hm]
  exact this.symm

/-- A slice literal, every place written in turn: a row. -/
theorem Does.buildSlice {T E i len : Nat} {ps : List (Nat × Operand)} {vs : List (Nat × V)} {es : List V} (X : TOk P) {ti ei : TI} (ho : o.op = .buildSlice T len ps.toArray) (hT : aget X.tab T = some ti) (hd : ti.d = .sl E) (hE : aget X.tab E = some ei) (hpos : Nat.blt 0 ei.size = true) (hv : evp env ps = some vs) (hde : dense 0 vs = some es)
    (hlen : Nat.beq es.length len = true) (hsm : Nat.ble (len * ei.size) 16777216 = true) (hs : ∀ e ∈ es, e.cells.length = ei.size) (ho1 : (es.all V.ok) = true) : Does P o env (.s (some i) es) [(i, none, some (.r E ei.size len))] := by
  refine ⟨fun F g a w mem h1 h2 h3 h4 _ K Q hK => ?_⟩
  obtain rfl := (Nat.eq_of_beq_eq_true hlen).symm
  have hp := evp_rep (w := w) (g := g) (a := a) hv (fun x hx u hu => h1 x (by simpa [ho, Op.operands] using hx) u hu)
  obtain ⟨d1, d2, d3, d4⟩ := dense_spec hp hde
  have hpos' : 0 < ei.size := Nat.le_of_ble_eq_true hpos
  have hsm' := Nat.le_of_ble_eq_true hsm
  obtain ⟨ie, hie, hse, _, z, hz, _, hzs, _⟩ := (X.get hE).info
  have hu := (X.get hT).sl hd
  have key : ∃ xs : Array Value, (execOp a.eval o).run P w = .ok (.value (.slice (some ⟨w.heap.size, 0, none⟩) es.length es.length)) (w.alloc (.cells xs E)) ∧ xs.size = es.length * ei.size ∧ (∀ e ∈ es, e.cells.length = ei.size ∧ ∀ u ∈ e.cells, u.one = true) ∧
      ∀ (j : Nat) u y, (es.flatMap V.cells)[j]? = some u → xs[j]? = some y → Rep w g.bare u y := by
    generalize hq : (ps.map fun (i, x) => (i, a.eval x)) = qs at hp d2 d3 d4
    have hone : ∀ (j : Nat) e, es[j]? = some e → ∀ u ∈ e.cells, u.one = true := fun j e hj => by
      have hjl := (List.getElem?_eq_some_iff.1 hj).1
      have hql : j < (qs.map (·.2)).length := by simp; omega
      exact (rep_cells (d4 j e _ hj (List.getElem?_eq_getElem hql)) (List.all_eq_true.1 ho1 e (List.mem_of_getElem? hj))).2.1
    have hone' : ∀ e ∈ es, e.cells.length = ei.size ∧ ∀ u ∈ e.cells, u.one = true := fun e he => by
      obtain ⟨j, hj⟩ := List.getElem?_of_mem he
      exact ⟨hs e he, hone j e hj⟩
    rcases Nat.eq_zero_or_pos es.length with h0 | h0
    · have : es = [] := List.eq_nil_of_length_eq_zero h0
      subst this
      have hps : qs = [] := List.eq_nil_of_length_eq_zero (by simp at d1; omega)
      have hps' : ps = [] := by rw [← List.map_eq_nil_iff, hq]; exact hps
      subst hps'
      refine ⟨#[], ?_, by simp, by simp, by simp⟩
      simp [execOp, ho, Instr.buildSlice, run_underlying hu, (X.get hE).run_size, Instr.fill, newRow]
      congr 2
      exact Array.eq_empty_of_size_eq_zero (by simp)
    · have hcz : ∀ v ∈ qs.map (·.2), v.cells.size = ei.size := fun v hv' => by
        obtain ⟨j, hj⟩ := List.getElem?_of_mem hv'
        have hjl := (List.getElem?_eq_some_iff.1 hj).1
        have hje : j < es.length := by simp at hjl; omega
        have hme := List.getElem_mem hje
        obtain ⟨c1, _, _⟩ := rep_cells (d4 j _ _ (List.getElem?_eq_getElem hje) hj) (List.all_eq_true.1 ho1 _ hme)
        rw [← c1, hs _ hme]
      obtain ⟨r, r1, r2, r3⟩ := Great.fill_dense hpos' (qs.map (·.2)) 0 ((Array.range (es.length * ei.size)).map (z.cells[· % z.cells.size]!)) hcz (by simp; rw [d2, ← d1]; exact Nat.le_refl _)
      rw [← d3] at r1
      refine ⟨r, ?_, by rw [r2]; simp, hone', fun j u y hj hy => ?_⟩
      · have hb := run_buildSlice (P := P) w T E es.length (ps.toArray.map fun (i, x) => (i, a.eval x)) r ie z hu hie hz (by rw [hse]; omega) (by rw [hse]; have := Nat.mul_pos h0 hpos'; omega) (by rw [hse, ops_parts, hq]; exact r1)
        simp only [execOp, ho, Sem.run_bind, hb]
        rfl
      · obtain ⟨e, he, hue⟩ := flat_split hpos' hs hj
        have hjl := (List.getElem?_eq_some_iff.1 hj).1
        rw [flat_len hs] at hjl
        rw [r3 j] at hy
        have hel := (List.getElem?_eq_some_iff.1 he).1
        have hql : j / ei.size < (qs.map (·.2)).length := by simp; omega
        rw [if_pos ⟨by omega, by simp; rw [d2, ← d1]; exact hjl⟩, Nat.sub_zero, List.getElem?_eq_getElem hql] at hy
        exact (rep_cells (d4 _ e _ he (List.getElem?_eq_getElem hql)) (List.all_eq_true.1 ho1 e (List.mem_of_getElem? he))).2.2 _ u y hue (by simpa using hy)
  obtain ⟨xs, hrun, hxs, hs', hrep⟩ := key
  obtain ⟨g', k1, k2, k3, k4⟩ := h2.newRow h3 (i := i) (E := E) (h4 _ _ _ mem_one) hpos' (Nat.le_refl _) (by unfold maxLen; have := Nat.le_mul_of_pos_right es.length hpos'; omega) hxs hs' hrep
  unfold Oper.wp
  rw [hrun]
  exact hK _ g' _ k1 k2 k3 k4

/-- append onto nil: a new row. -/
theorem Does.appNil {T Tx E Ex i : Nat} {x y : Operand} {t : Option Nat} {ys : List V} (X : TOk P) {ti xi ei : TI} (ho : o.op = .call { callee := .builtin .append, args := #[x, y], argTypes := #[T, Tx] }) (hx : evo env x = some .nil) (hy : evo env y = some (.s t ys))
    (hT : aget X.tab T = some ti) (hd : ti.d = .sl E) (hE : aget X.tab E = some ei) (hpos : Nat.blt 0 ei.size = true) (hX : aget X.tab Tx = some xi) (hdx : xi.d = .sl Ex)
    (hys : ∀ e ∈ ys, e.cells.length = ei.size) {n : Nat} (hn : ys.length = n) (hmax : n ≤ 140737488355328) (hb : n * ei.bytes ≤ 140737488355328) :
    Does P o env (.s (some i) ys) [(i, none, some (.r E ei.size n))] := by
  refine ⟨fun F g a w mem h1 h2 h3 h4 _ K Q hK => ?_⟩
  subst hn
  have hpos' : 0 < ei.size := Nat.le_of_ble_eq_true hpos
  have hi := h4 _ _ _ mem_one
  have hrx := h1 x (by simp [ho, Op.operands, Call.operands]) _ hx
  have hry := h1 y (by simp [ho, Op.operands, Call.operands]) _ hy
  have hxe : a.eval x = .slice none 0 0 := by generalize a.eval x = z at hrx; cases hrx; rfl
  have hown0 : w.oRow 0 E ei.size (.slice (Option.map (fun b => (⟨b, 0, none⟩ : Addr)) none) 0 0) 0 [] := oRow_nil w 0 E ei.size
  have hgi : (g.addRow i (none, 0, 0)).rw i = some (none, 0, 0) := by simp [Gh.addRow]
  obtain ⟨he0, h2', h3'⟩ := h2.nilRow h3 (m := .r E ei.size 0) hi (.r hgi ⟨hpos', ⟨_, hown0⟩, fun _ h => by cases h⟩) fun b o ⟨l, c, hp⟩ => by rw [hgi] at hp; cases hp
  obtain ⟨news, hsrc, hone2, hfl, hrep2⟩ := rep_src (P := P) ((X.get hX).sl hdx) hry hys
  obtain ⟨v', w', hrun, hown', hg, hv⟩ := run_app (P := P) (ty := o.type) ((X.get hT).sl hd) (X.get hE) hpos' hown0 hsrc (by omega) (by simpa using hb)
  obtain ⟨g', a', c', rfl, k1, k2, k3, k4, k5⟩ := h2'.grow h3' (aget_self ..) hgi hown0 hown' hg hv
  simp only [Nat.zero_add] at *
  unfold Oper.wp
  have hrun' : (execOp a.eval o).run P w = .ok (.value (.slice (Option.map (fun b => ⟨b, 0, none⟩) a') ys.length c')) w' := by
    simp only [Option.map_none] at hrun
    simp [execOp, ho, resolve, invoke, builtin, hxe, hrun]
  rw [hrun']
  have hmem : RelM F g' ((i, .r E ei.size ys.length) :: mem) w' := k3.congr fun j => by
    simp only [aget_cons]
    split <;> rfl
  exact hK _ g' w' (he0.trans k2) hmem k4 (Rep.row rfl hpos' k1 hown' k5 (fun e he => ⟨hys e he, hone2 e he⟩) (fun j u z hj hz => (hrep2 j u z hj (by simpa using hz)).mono (he0.bare.trans k2.bare)))

/-- A nil slice is the beginning of a row. -/
theorem LC.nilrow {F : Fr0} {N : Nat} {Q : LQ} {mem : Mem} {c : Code} (t i E sz : Nat) (ht : aget env t = some .nil) (hi : aget mem i = none) (hp : Nat.blt 0 sz = true) (h : LC P F N c Q ((t, .s (some i) []) :: env) ((i, .r E sz 0) :: mem)) : LC P F N c Q env mem := ⟨fun g a w hr => by
  have hown0 : w.oRow 0 E sz (.slice (Option.map (fun b => (⟨b, 0, none⟩ : Addr)) none) 0 0) 0 [] := oRow_nil w 0 E sz
  have hgi : (g.addRow i (none, 0, 0)).rw i = some (none, 0, 0) := by simp [Gh.addRow]
  obtain ⟨he, h2, h3⟩ := hr.mem.nilRow hr.kept (m := .r E sz 0) hi (.r hgi ⟨Nat.le_of_ble_eq_true hp, ⟨_, hown0⟩, fun _ h => by cases h⟩) fun b o ⟨l, c, hp⟩ => by rw [hgi] at hp; cases hp
  refine h.go _ a w ⟨fun t' v hv => ?_, h2, h3, hr.defers, hr.size, hr.big⟩
  rw [aget_cons] at hv
  split at hv
  · rename_i e; subst e; cases hv
    obtain ⟨x, h1, h2⟩ := hr.env t _ ht
    cases h2
    exact ⟨_, h1, .s0 fun r hr' => by cases hr'; exact ⟨none, 0, 0, hgi, Nat.le_refl _, fun _ => .inl rfl⟩⟩
  · obtain ⟨x, h1, h2⟩ := hr.env t' v hv
    exact ⟨x, h1, h2.mono he⟩⟩

/-- A byte. -/
def bK (x : UInt8) : V := .k (.int .u8 (x.toNat : Int))
theorem Does.toStr {S T E : Nat} {x : Operand} {t : Option Nat} {l : List UInt8} (X : TOk P) {si ti ei : TI} (ho : o.op = .convert S T x) (hx : evo env x = some (.s t (l.map bK))) (hS : aget X.tab S = some si) (hd : si.d = .sl E) (hE : aget X.tab E = some ei) (hdE : ei.d = .int .u8) (hT : aget X.tab T = some ti) (hdT : ti.d = .str) : Does P o env (.k (.string ⟨l.toArray⟩)) [] :=
  .pure fun F g a w mem hr _ => by
    have hr0 := hr x (by simp [ho, Op.operands]) _ hx
    refine ⟨.string ⟨l.toArray⟩, ?_, .k _⟩
    have hcell : ∀ e ∈ l.map bK, e.cells.length = 1 := fun e he => by obtain ⟨z, _, rfl⟩ := List.mem_map.1 he; rfl
    obtain ⟨a0, n0, c0, hy, hS'⟩ : ∃ a0 n0 c0, a.eval x = .slice a0 n0 c0 ∧ Rp.Sl w w.heap.size 1 a0 n0 c0 (l.map Rp.byteV) := by
      generalize hy : a.eval x = y at hr0
      generalize hes : l.map bK = es at hr0
      cases hr0 with
      | s0 =>
        have : l = [] := by simpa using hes
        subst this
        exact ⟨none, 0, 0, rfl, rfl, Nat.le_refl _, by simp [maxLen], fun _ => rfl, fun h => by omega⟩
      | se a1 =>
        have : l = [] := by simpa using hes
        subst this
        exact ⟨some a1, 0, 0, rfl, rfl, Nat.le_refl _, by simp [maxLen], (fun h => by cases h), fun h => by omega⟩
      | @s _ _ _ b off cap size xs hn hm hp hsz hxx hc ht =>
        subst hes
        refine ⟨_, _, cap, rfl, by simp, hn, hm, (fun h => by cases h), fun _ => ⟨b, off, rfl, ?_, fun j u hj => ?_⟩⟩
        · rename_i hpos
          have : (l.map bK).flatMap V.cells ≠ [] := by
            cases l with
            | nil => simp at hpos
            | cons a r => simp [bK, V.cells]
          obtain ⟨u, r, hur⟩ := List.exists_cons_of_ne_nil this
          exact (hxx 0 u (by rw [hur]; rfl)).1
        · rw [List.getElem?_map] at hj
          obtain ⟨z, hz, rfl⟩ := Option.map_eq_some_iff.1 hj
          have hf : ((l.map bK).flatMap V.cells)[j]? = some (bK z) := by
            have := flat_get hcell (n := j) (j := 0) (e := bK z) (u := bK z) (by rw [List.getElem?_map, hz]; rfl) rfl
            simpa using this
          rw [(hxx j _ hf).2.2, rep_k (hc j _ hf)]
          rfl
    have := Ops.run_str (P := P) (w := w) ((X.get hS).sl hd) ((X.get hE).int hdE) ((X.get hT).str hdT) hS'
    simp [execOp, ho, hy, this]
end
end Lf
end Go.Proofs.Ytgeccggkdgpkiaa

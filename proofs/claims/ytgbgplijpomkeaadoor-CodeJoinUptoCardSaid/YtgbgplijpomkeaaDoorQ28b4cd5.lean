/- A part of the proof: texts joined. -/
import Derived.Great.BuildSlice
import Derived.LoopN
import Derived.Laws.Externs
import Derived.Lib.Hide
import Derived.Laws.Bits64b
import Derived.Laws.StructEq
import Derived.Lib.OthersKept
import Derived.Test.YtgbgplijpomkeaaDoorQ129107b
/- Lifted operations: literals of structs, arrays and slices; make; a text's bytes; append onto nil; a nil slice taken for a row. -/
namespace Go.Proofs.YtgbgplijpomkeaaDoor
open Go.RowKit Rg
namespace Lf
section
variable {P : Program} {o : Oper} {env : Env} {v : V}

/-! ### Literals of structs and arrays -/
def vfill (place : Nat → Option (Nat × Nat)) : List V → List (Nat × V) → Option (List V)
  | cells, [] => some cells
  | cells, (i, v) :: r =>
    match place i with
    | some (off, size) => cond (v.ok && (Nat.beq v.cells.length size && Nat.ble (off + v.cells.length) cells.length)) (vfill place (splice cells off v.cells) r) none
    | none => none
def evp (env : Env) : List (Nat × Operand) → Option (List (Nat × V))
  | [] => some []
  | (i, x) :: r => match evo env x, evp env r with
    | some v, some vs => some ((i, v) :: vs)
    | _, _ => none
def places (tab : Tab) : List (Nat × Nat) → Option (List (Nat × Nat))
  | [] => some []
  | (off, t) :: r => match aget tab t, places tab r with
    | some ti, some ps => some ((off, ti.size) :: ps)
    | _, _ => none

/-- Parts and what they read. -/
def PR (w : World) (g : Gh) : List (Nat × V) → List (Nat × Value) → Prop
  | [], [] => True
  | (i, v) :: r, (j, x) :: s => i = j ∧ Rep w g v x ∧ PR w g r s
  | _, _ => False
theorem evp_rep {w : World} {g : Gh} {a : Act} : ∀ {ps : List (Nat × Operand)} {vs : List (Nat × V)}, evp env ps = some vs → (∀ x ∈ ps.map (·.2), ∀ u, evo env x = some u → Rep w g u (a.eval x)) → PR w g vs (ps.map fun (i, x) => (i, a.eval x))
  | [], vs, h, _ => by simp [evp] at h; subst h; trivial
  | (i, x) :: r, vs, h, hr => by
    simp only [evp] at h
    split at h
    · rename_i v vs' hv hvs
      cases h
      exact ⟨rfl, hr x (by simp) v hv, evp_rep hvs fun y hy => hr y (by simp only [List.map_cons, List.mem_cons]; exact .inr hy)⟩
    · cases h
theorem fill_rep {w : World} {g : Gh} {place : Nat → Option (Nat × Nat)} : ∀ {ps : List (Nat × V)} {qs : List (Nat × Value)} {cs cs' : List V} {xs : Array Value}, PR w g ps qs → vfill place cs ps = some cs' → cs.length = xs.size → (∀ u ∈ cs, u.one = true) →
    (∀ (j : Nat) u x, cs[j]? = some u → xs[j]? = some x → Rep w g u x) → ∃ xs', Instr.fill place xs qs = some xs' ∧ cs'.length = xs'.size ∧ (∀ u ∈ cs', u.one = true) ∧ ∀ (j : Nat) u x, cs'[j]? = some u → xs'[j]? = some x → Rep w g u x
  | [], [], cs, cs', xs, _, h, hl, h1, hr => by simp [vfill] at h; subst h; exact ⟨xs, rfl, hl, h1, hr⟩
  | (i, v) :: r, (j, x) :: s, cs, cs', xs, hp, h, hl, h1, hr => by
    obtain ⟨rfl, hvx, hp'⟩ := hp
    simp only [vfill] at h
    split at h
    · rename_i off size hpl
      cases hc : (v.ok && (Nat.beq v.cells.length size && Nat.ble (off + v.cells.length) cs.length))
      · rw [hc] at h; cases h
      · rw [hc] at h
        simp only [Bool.and_eq_true] at hc
        obtain ⟨c1, c2, c3⟩ := hc
        have e2 := Nat.eq_of_beq_eq_true c2
        have e3 := Nat.le_of_ble_eq_true c3
        obtain ⟨q1, q2, q3⟩ := rep_cells hvx c1
        obtain ⟨f1, f2⟩ := Great.foldl_set off x.cells.toList 0 xs
        have hsz : (x.cells.zipIdx.foldl (fun cs (x : Value × Nat) => cs.setIfInBounds (off + x.2) x.1) xs) = ((x.cells.toList.zipIdx 0).foldl (fun cs (x : Value × Nat) => cs.setIfInBounds (off + x.2) x.1) xs) := by
          rw [← Array.foldl_toList, Array.toList_zipIdx]
        obtain ⟨xs', g1, g2, g3, g4⟩ := fill_rep (place := place) (cs := splice cs off v.cells) (xs := (x.cells.toList.zipIdx 0).foldl (fun cs (x : Value × Nat) => cs.setIfInBounds (off + x.2) x.1) xs) hp' h (by rw [splice_len e3, f1, hl]) (fun u hu => by
            obtain ⟨k, hk⟩ := List.getElem?_of_mem hu
            rw [splice_get e3] at hk
            split at hk
            · exact q2 u (List.mem_of_getElem? hk)
            · exact h1 u (List.mem_of_getElem? hk)) (fun k u y hk hy => by
            rw [splice_get e3] at hk
            rw [f2 k] at hy
            have hkl : k < cs.length := by
              split at hk
              · omega
              · exact (List.getElem?_eq_some_iff.1 hk).1
            simp only [Nat.add_zero, Array.length_toList] at hy
            split at hk
            · rename_i hin
              rw [if_pos ⟨hin.1, by omega, by omega⟩] at hy
              exact q3 _ u y hk (by simpa using hy)
            · rename_i hin
              rw [if_neg (by omega)] at hy
              exact hr k u y hk hy)
        refine ⟨xs', ?_, g2, g3, g4⟩
        unfold Instr.fill
        rw [hpl]
        simp only []
        rw [if_neg (by simp; omega), hsz]
        exact g1
    · cases h
  | [], _ :: _, _, _, _, hp, _, _, _, _ => hp.elim
  | _ :: _, [], _, _, _, hp, _, _, _, _ => hp.elim

theorem places_spec {X : TOk P} : ∀ {fs : List Field} {pl : List (Nat × Nat)}, places X.tab (fs.map fun f => (f.offset, f.type)) = some pl → fs.mapM (fun f => (P.info? f.type).map fun i => (f.offset, i.size)) = some pl
  | [], pl, h => by simp [places] at h; subst h; rfl
  | f :: r, pl, h => by
    simp only [List.map_cons, places] at h
    split at h
    · rename_i ti ps ht hps
      cases h
      have h1 := (X.get ht).size
      have h2 := places_spec hps
      simp only [List.mapM_cons, h2]
      cases hi : P.info? f.type with
      | none => simp [hi] at h1
      | some i => simp [hi] at h1; simp [h1]
    · cases h

theorem zero_rep {w : World} {g : Gh} {zs : List Z} {z : Value} (hzz : ∀ (j : Nat) zz, zs[j]? = some zz → ∃ x, z.cells.toList[j]? = some x ∧ zz.is x = true) : (∀ u ∈ zs.map Z.v, u.one = true) ∧ ∀ (j : Nat) u x, (zs.map Z.v)[j]? = some u → z.cells[j]? = some x → Rep w g u x := by
  refine ⟨fun u hu => by obtain ⟨q, _, rfl⟩ := List.mem_map.1 hu; exact q.one, fun j u x hj hx => ?_⟩
  rw [List.getElem?_map] at hj
  obtain ⟨q, hq, rfl⟩ := Option.map_eq_some_iff.1 hj
  obtain ⟨x', hx', hi'⟩ := hzz j q hq
  have : x = x' := by simpa [hx] using hx'
  subst this
  exact Z.rep hi'

theorem ops_parts {a : Act} {ps : List (Nat × Operand)} : (ps.toArray.map fun (i, x) => (i, a.eval x)).toList = ps.map fun (i, x) => (i, a.eval x) := by simp

theorem Does.buildSt {T : Nat} {ps : List (Nat × Operand)} {fs pl : List (Nat × Nat)} {vs : List (Nat × V)} {cs : List V} (X : TOk P) {ti : TI} (ho : o.op = .build T ps.toArray) (hT : aget X.tab T = some ti) (hd : ti.d = .st fs) (hpl : places X.tab fs = some pl) (hv : evp env ps = some vs) (hc : vfill (fun i => pl[i]?) (ti.zero.map Z.v) vs = some cs) : Does P o env (.a cs) [] :=
  .pure fun F g a w mem hr _ => by
    have hp := evp_rep (w := w) (g := g) (a := a) hv (fun x hx u hu => hr x (by simpa [ho, Op.operands] using hx) u hu)
    obtain ⟨i, hi, hs, hb, z, hz, hl, hl', hzz, _⟩ := (X.get hT).info
    obtain ⟨z1, z2⟩ := zero_rep (w := w) (g := g) hzz
    obtain ⟨xs, f1, f2, f3, f4⟩ := fill_rep hp hc (xs := z.cells) (by simpa using hl) z1 z2
    obtain ⟨gs, hu, hg⟩ := (X.get hT).st hd
    rw [← hg] at hpl
    have hb : P.built T (ps.toArray.map fun (i, x) => (i, a.eval x)).toList = some xs := by
      unfold Program.built
      simp only [hi, hu, hz, places_spec hpl, ops_parts]
      rw [← f1]
      congr 1
      funext k
      simp
    refine ⟨.agg xs, ?_, .a f2 f3 f4⟩
    simp only [execOp, ho, Sem.run_bind, run_build w T _ _ hb]
    rfl
theorem Does.buildArr {T n e : Nat} {ps : List (Nat × Operand)} {vs : List (Nat × V)} {cs : List V} (X : TOk P) {ti ei : TI} (ho : o.op = .build T ps.toArray) (hT : aget X.tab T = some ti) (hd : ti.d = .arr n e) (hE : aget X.tab e = some ei) (hv : evp env ps = some vs) (hc : vfill (fun i => some (i * ei.size, ei.size)) (ti.zero.map Z.v) vs = some cs) : Does P o env (.a cs) [] :=
  .pure fun F g a w mem hr _ => by
    have hp := evp_rep (w := w) (g := g) (a := a) hv (fun x hx u hu => hr x (by simpa [ho, Op.operands] using hx) u hu)
    obtain ⟨i, hi, hs, hb, z, hz, hl, hl', hzz, _⟩ := (X.get hT).info
    obtain ⟨ie, hie, hse, _⟩ := (X.get hE).info
    obtain ⟨z1, z2⟩ := zero_rep (w := w) (g := g) hzz
    obtain ⟨xs, f1, f2, f3, f4⟩ := fill_rep hp hc (xs := z.cells) (by simpa using hl) z1 z2
    have hb : P.built T (ps.toArray.map fun (i, x) => (i, a.eval x)).toList = some xs := by
      unfold Program.built
      simp only [hi, (X.get hT).arr hd, hz, hie, ops_parts, hse]
      exact f1
    refine ⟨.agg xs, ?_, .a f2 f3 f4⟩
    simp only [execOp, ho, Sem.run_bind, run_build w T _ _ hb]
    rfl

/-! ### New rows -/
theorem RelM.newRow {F : Fr0} {g : Gh} {w : World} {mem : Mem} (h : RelM F g mem w) (hk : Kept F g w) {i E sz c : Nat} {es : List V} {xs : Array Value} (hi : aget mem i = none) (hp : 0 < sz) (hc : es.length ≤ c) (hm : c ≤ maxLen) (hxs : xs.size = c * sz)
    (hs : ∀ e ∈ es, e.cells.length = sz ∧ ∀ u ∈ e.cells, u.one = true) (hr : ∀ (j : Nat) u z, (es.flatMap V.cells)[j]? = some u → xs[j]? = some z → Rep w g.bare u z) :
    ∃ g', Ev g w g' (w.alloc (.cells xs E)) ∧ RelM F g' ((i, .r E sz es.length) :: mem) (w.alloc (.cells xs E)) ∧ Kept F g' (w.alloc (.cells xs E)) ∧ Rep (w.alloc (.cells xs E)) g' (.s (some i) es) (.slice (some ⟨w.heap.size, 0, none⟩) es.length c) := by
  have hfl := flat_len fun e he => (hs e he).1
  have hle : es.length * sz ≤ xs.size := by rw [hxs]; exact Nat.mul_le_mul_right _ hc
  have hown : (w.alloc (.cells xs E)).oRow 0 E sz (.slice (some ⟨w.heap.size, 0, none⟩) es.length c) es.length (xs.toList.take (es.length * sz)) :=
    ⟨by simp; omega, .inr ⟨w.heap.size, c, xs, _, rfl, Nat.zero_le _, heap_alloc_new w _, hc, hm, hxs, rfl, .inl rfl⟩⟩
  have hrw : (g.newR i w.heap.size (es.length * sz) es.length c).rw i = some (some w.heap.size, es.length, c) := by simp [Gh.newR]
  obtain ⟨e1, e2, e3⟩ := h.newR hk (n := es.length * sz) (l := es.length) (c := c) (m' := .r E sz es.length) (o := .cells xs E) hi (.r hrw ⟨hp, ⟨_, hown⟩, fun b hb o ho hS => by cases hb; have := hS.2 rfl; omega⟩) fun b o' ⟨l, c', hp'⟩ => by rw [hrw] at hp'; cases hp'; rfl
  refine ⟨_, e1, e2, e3, Rep.row (a := some w.heap.size) rfl hp hrw hown (fun b hb => ?_) hs (fun j u z hj hz => ?_)⟩
  · cases hb
    exact ⟨by simp, fun o ho => ⟨h.fut _ o (Nat.le_refl _), fun _ => ho⟩⟩
  · rw [List.getElem?_take] at hz
    split at hz
    · exact (hr j u z hj (by simpa using hz)).mono e1.bare
    · cases hz
/-- A row that has nothing yet. -/
def Gh.addRow (g : Gh) (i : Nat) (z : Option Nat × Nat × Nat) : Gh := ⟨g.S, g.bx, fun j => if j = i then some z else g.rw j⟩
theorem RelM.nilRow {F : Fr0} {g : Gh} {w : World} {mem : Mem} (h : RelM F g mem w) (hk : Kept F g w) {i : Nat} {m : M} (hi : aget mem i = none) (ho : ObjAt (g.addRow i (none, 0, 0)) w i m) (hf : ∀ b o, ¬ fp (g.addRow i (none, 0, 0)) i m b o) :
    Ev g w (g.addRow i (none, 0, 0)) w ∧ RelM F (g.addRow i (none, 0, 0)) ((i, m) :: mem) w ∧ Kept F (g.addRow i (none, 0, 0)) w := by
  have he : Ev g w (g.addRow i (none, 0, 0)) w := ⟨Nat.le_refl _, fun _ _ _ hs => ⟨hs, rfl⟩, fun _ _ hz => hz, fun r a l c h' => ⟨a, l, c, by
    simp only [Gh.addRow]
    split
    · rename_i e; subst e; rw [h.nrw _ hi] at h'; cases h'
    · exact h', Nat.le_refl _, fun _ => ⟨rfl, rfl⟩⟩⟩
  exact ⟨he, h.step hk he rfl rfl rfl (fun _ _ _ _ => ⟨rfl, rfl, fun hs => hs⟩) (fun _ _ _ => rfl) (fun _ _ => rfl) (fun j hj => by simp [Gh.addRow, hj]) ho (fun b o hp => absurd hp (hf b o)) h.fut⟩

def dense : Nat → List (Nat × V) → Option (List V)
  | _, [] => some []
  | k, (i, v) :: r => match cond (Nat.beq i k) v.bare none, dense (k + 1) r with
    | some v', some vs => some (v' :: vs)
    | _, _ => none
theorem dense_spec {w : World} {g : Gh} : ∀ {k : Nat} {ps : List (Nat × V)} {qs : List (Nat × Value)} {es : List V}, PR w g ps qs → dense k ps = some es → es.length = ps.length ∧ qs.length = ps.length ∧ qs = ((qs.map (·.2)).zipIdx k).map (fun x => (x.2, x.1)) ∧ ∀ (j : Nat) u x, es[j]? = some u → (qs.map (·.2))[j]? = some x → Rep w g.bare u x
  | k, [], [], es, _, h => by simp [dense] at h; subst h; simp
  | k, (i, v) :: r, (j, x) :: s, es, hp, h => by
    obtain ⟨rfl, hvx, hp'⟩ := hp
    simp only [dense] at h
    split at h
    · rename_i v' vs hv hvs
      cases h
      cases hb : Nat.beq i k
      · rw [hb] at hv; cases hv
      · rw [hb] at hv
        obtain rfl := Nat.eq_of_beq_eq_true hb
        obtain ⟨h1, h2, h3, h4⟩ := dense_spec hp' hvs
        refine ⟨by simp [h1], by simp [h2], ?_, fun j u y hj hy => ?_⟩
        · simp only [List.map_cons, List.zipIdx_cons]
          rw [← h3]
        · cases j with
          | zero => simp at hj hy; subst hj; subst hy; exact hvx.to_bare hv
          | succ j => simp at hj hy; exact h4 j u y hj (by simpa using hy)
    · cases h
  | _, [], _ :: _, _, hp, _ => hp.elim
  | _, _ :: _, [], _, hp, _ => hp.elim

theorem flat_split {es : List V} {size j : Nat} (hp : 0 < size) (hs : ∀ e ∈ es, e.cells.length = size) {u : V} (hu : (es.flatMap V.cells)[j]? = some u) : ∃ e, es[j / size]? = some e ∧ e.cells[j % size]? = some u := by
  have hjl := (List.getElem?_eq_some_iff.1 hu).1
  rw [flat_len hs] at hjl
  have hd : j / size < es.length := (Nat.div_lt_iff_lt_mul hp).2 hjl
  refine ⟨es[j / size], List.getElem?_eq_getElem hd, ?_⟩
  have hm : j % size < es[j / size].cells.length := by rw [hs _ (List.getElem_mem hd)]; exact Nat.mod_lt _ hp
  have := flat_get hs (List.getElem?_eq_getElem hd) (List.getElem?_eq_getElem hm)
  rw [show j / size * size + j % size = j from by rw [Nat.mul_comm]; exact Nat.div_add_mod j size, hu] at this
  rw [List.getElem?_eq_getElem hm]
  exact this.symm

/-- A slice literal, every place written in turn: a row. -/
theorem Does.buildSlice {T E i len : Nat} {ps : List (Nat × Operand)} {vs : List (Nat × V)} {es : List V} (X : TOk P) {ti ei : TI} (ho : o.op = .buildSlice T len ps.toArray) (hT : aget X.tab T = some ti) (hd : ti.d = .sl E) (hE : aget X.tab E = some ei) (hpos : Nat.blt 0 ei.size = true) (hv : evp env ps = some vs) (hde : dense 0 vs = some es)
    (hlen : Nat.beq es.length len = true) (hsm : Nat.ble (len * ei.size) 16777216 = true) (hs : ∀ e ∈ es, e.cells.length = ei.size) (ho1 : (es.all V.ok) = true) : Does P o env (.s (some i) es) [(i, none, some (.r E ei.size len))] := by
  refine ⟨fun F g a w mem h1 h2 h3 h4 _ K Q hK => ?_⟩
  obtain rfl := (Nat.eq_of_beq_eq_true hlen).symm
  have hp := evp_rep (w := w) (g := g) (a := a) hv (fun x hx u hu => h1 x (by simpa [ho, Op.operands] using hx) u hu)
  obtain ⟨d1, d2, d3, d4⟩ := dense_spec hp hde
  have hpos' : 0 < ei.size := Nat.le_of_ble_eq_true hpos
  have hsm' := Nat.le_of_ble_eq_true hsm
  obtain ⟨ie, hie, hse, _, z, hz, _, hzs, _⟩ := (X.get hE).info
  have hu := (X.get hT).sl hd
  have key : ∃ xs : Array Value, (execOp a.eval o).run P w = .ok (.value (.slice (some ⟨w.heap.size, 0, none⟩) es.length es.length)) (w.alloc (.cells xs E)) ∧ xs.size = es.length * ei.size ∧ (∀ e ∈ es, e.cells.length = ei.size ∧ ∀ u ∈ e.cells, u.one = true) ∧
      ∀ (j : Nat) u y, (es.flatMap V.cells)[j]? = some u → xs[j]? = some y → Rep w g.bare u y := by
    generalize hq : (ps.map fun (i, x) => (i, a.eval x)) = qs at hp d2 d3 d4
    have hone : ∀ (j : Nat) e, es[j]? = some e → ∀ u ∈ e.cells, u.one = true := fun j e hj => by
      have hjl := (List.getElem?_eq_some_iff.1 hj).1
      have hql : j < (qs.map (·.2)).length := by simp; omega
      exact (rep_cells (d4 j e _ hj (List.getElem?_eq_getElem hql)) (List.all_eq_true.1 ho1 e (List.mem_of_getElem? hj))).2.1
    have hone' : ∀ e ∈ es, e.cells.length = ei.size ∧ ∀ u ∈ e.cells, u.one = true := fun e he => by
      obtain ⟨j, hj⟩ := List.getElem?_of_mem he
      exact ⟨hs e he, hone j e hj⟩
    rcases Nat.eq_zero_or_pos es.length with h0 | h0
    · have : es = [] := List.eq_nil_of_length_eq_zero h0
      subst this
      have hps : qs = [] := List.eq_nil_of_length_eq_zero (by simp at d1; omega)
      have hps' : ps = [] := by rw [← List.map_eq_nil_iff, hq]; exact hps
      subst hps'
      refine ⟨#[], ?_, by simp, by simp, by simp⟩
      simp [execOp, ho, Instr.buildSlice, run_underlying hu, (X.get hE).run_size, Instr.fill, newRow]
      congr 2
      exact Array.eq_empty_of_size_eq_zero (by simp)
    · have hcz : ∀ v ∈ qs.map (·.2), v.cells.size = ei.size := fun v hv' => by
        obtain ⟨j, hj⟩ := List.getElem?_of_mem hv'
        have hjl := (List.getElem?_eq_some_iff.1 hj).1
        have hje : j < es.length := by simp at hjl; omega
        have hme := List.getElem_mem hje
        obtain ⟨c1, _, _⟩ := rep_cells (d4 j _ _ (List.getElem?_eq_getElem hje) hj) (List.all_eq_true.1 ho1 _ hme)
        rw [← c1, hs _ hme]
      obtain ⟨r, r1, r2, r3⟩ := Great.fill_dense hpos' (qs.map (·.2)) 0 ((Array.range (es.length * ei.size)).map (z.cells[· % z.cells.size]!)) hcz (by simp; rw [d2, ← d1]; exact Nat.le_refl _)
      rw [← d3] at r1
      refine ⟨r, ?_, by rw [r2]; simp, hone', fun j u y hj hy => ?_⟩
      · have hb := run_buildSlice (P := P) w T E es.length (ps.toArray.map fun (i, x) => (i, a.eval x)) r ie z hu hie hz (by rw [hse]; omega) (by rw [hse]; have := Nat.mul_pos h0 hpos'; omega) (by rw [hse, ops_parts, hq]; exact r1)
        simp only [execOp, ho, Sem.run_bind, hb]
        rfl
      · obtain ⟨e, he, hue⟩ := flat_split hpos' hs hj
        have hjl := (List.getElem?_eq_some_iff.1 hj).1
        rw [flat_len hs] at hjl
        rw [r3 j] at hy
        have hel := (List.getElem?_eq_some_iff.1 he).1
        have hql : j / ei.size < (qs.map (·.2)).length := by simp; omega
        rw [if_pos ⟨by omega, by simp; rw [d2, ← d1]; exact hjl⟩, Nat.sub_zero, List.getElem?_eq_getElem hql] at hy
        exact (rep_cells (d4 _ e _ he (List.getElem?_eq_getElem hql)) (List.all_eq_true.1 ho1 e (List.mem_of_getElem? he))).2.2 _ u y hue (by simpa using hy)
  obtain ⟨xs, hrun, hxs, hs', hrep⟩ := key
  obtain ⟨g', k1, k2, k3, k4⟩ := h2.newRow h3 (i := i) (E := E) (h4 _ _ _ mem_one) hpos' (Nat.le_refl _) (by unfold maxLen; have := Nat.le_mul_of_pos_right es.length hpos'; omega) hxs hs' hrep
  unfold Oper.wp
  rw [hrun]
  exact hK _ g' _ k1 k2 k3 k4

/-- append onto nil: a new row. -/
theorem Does.appNil {T Tx E Ex i : Nat} {x y : Operand} {t : Option Nat} {ys : List V} (X : TOk P) {ti xi ei : TI} (ho : o.op = .call { callee := .builtin .append, args := #[x, y], argTypes := #[T, Tx] }) (hx : evo env x = some .nil) (hy : evo env y = some (.s t ys))
    (hT : aget X.tab T = some ti) (hd : ti.d = .sl E) (hE : aget X.tab E = some ei) (hpos : Nat.blt 0 ei.size = true) (hX : aget X.tab Tx = some xi) (hdx : xi.d = .sl Ex)
    (hys : ∀ e ∈ ys, e.cells.length = ei.size) {n : Nat} (hn : ys.length = n) (hmax : n ≤ 140737488355328) (hb : n * ei.bytes ≤ 140737488355328) :
    Does P o env (.s (some i) ys) [(i, none, some (.r E ei.size n))] := by
  refine ⟨fun F g a w mem h1 h2 h3 h4 _ K Q hK => ?_⟩
  subst hn
  have hpos' : 0 < ei.size := Nat.le_of_ble_eq_true hpos
  have hi := h4 _ _ _ mem_one
  have hrx := h1 x (by simp [ho, Op.operands, Call.operands]) _ hx
  have hry := h1 y (by simp [ho, Op.operands, Call.operands]) _ hy
  have hxe : a.eval x = .slice none 0 0 := by generalize a.eval x = z at hrx; cases hrx; rfl
  have hown0 : w.oRow 0 E ei.size (.slice (Option.map (fun b => (⟨b, 0, none⟩ : Addr)) none) 0 0) 0 [] := oRow_nil w 0 E ei.size
  have hgi : (g.addRow i (none, 0, 0)).rw i = some (none, 0, 0) := by simp [Gh.addRow]
  obtain ⟨he0, h2', h3'⟩ := h2.nilRow h3 (m := .r E ei.size 0) hi (.r hgi ⟨hpos', ⟨_, hown0⟩, fun _ h => by cases h⟩) fun b o ⟨l, c, hp⟩ => by rw [hgi] at hp; cases hp
  obtain ⟨news, hsrc, hone2, hfl, hrep2⟩ := rep_src (P := P) ((X.get hX).sl hdx) hry hys
  obtain ⟨v', w', hrun, hown', hg, hv⟩ := run_app (P := P) (ty := o.type) ((X.get hT).sl hd) (X.get hE) hpos' hown0 hsrc (by omega) (by simpa using hb)
  obtain ⟨g', a', c', rfl, k1, k2, k3, k4, k5⟩ := h2'.grow h3' (aget_self ..) hgi hown0 hown' hg hv
  simp only [Nat.zero_add] at *
  unfold Oper.wp
  have hrun' : (execOp a.eval o).run P w = .ok (.value (.slice (Option.map (fun b => ⟨b, 0, none⟩) a') ys.length c')) w' := by
    simp only [Option.map_none] at hrun
    simp [execOp, ho, resolve, invoke, builtin, hxe, hrun]
  rw [hrun']
  have hmem : RelM F g' ((i, .r E ei.size ys.length) :: mem) w' := k3.congr fun j => by
    simp only [aget_cons]
    split <;> rfl
  exact hK _ g' w' (he0.trans k2) hmem k4 (Rep.row rfl hpos' k1 hown' k5 (fun e he => ⟨hys e he, hone2 e he⟩) (fun j u z hj hz => (hrep2 j u z hj (by simpa using hz)).mono (he0.bare.trans k2.bare)))

/-- A nil slice is the beginning of a row. -/
theorem LC.nilrow {F : Fr0} {N : Nat} {Q : LQ} {mem : Mem} {c : Code} (t i E sz : Nat) (ht : aget env t = some .nil) (hi : aget mem i = none) (hp : Nat.blt 0 sz = true) (h : LC P F N c Q ((t, .s (some i) []) :: env) ((i, .r E sz 0) :: mem)) : LC P F N c Q env mem := ⟨fun F0 hx g a w hr => by
  have hown0 : w.oRow 0 E sz (.slice (Option.map (fun b => (⟨b, 0, none⟩ : Addr)) none) 0 0) 0 [] := oRow_nil w 0 E sz
  have hgi : (g.addRow i (none, 0, 0)).rw i = some (none, 0, 0) := by simp [Gh.addRow]
  obtain ⟨he, h2, h3⟩ := hr.mem.nilRow hr.kept (m := .r E sz 0) hi (.r hgi ⟨Nat.le_of_ble_eq_true hp, ⟨_, hown0⟩, fun _ h => by cases h⟩) fun b o ⟨l, c, hp⟩ => by rw [hgi] at hp; cases hp
  refine h.go F0 hx _ a w ⟨fun t' v hv => ?_, h2, h3, hr.defers, hr.size, hr.big⟩
  rw [aget_cons] at hv
  split at hv
  · rename_i e; subst e; cases hv
    obtain ⟨x, h1, h2⟩ := hr.env t _ ht
    cases h2
    exact ⟨_, h1, .s0 fun r hr' => by cases hr'; exact ⟨none, 0, 0, hgi, Nat.le_refl _, fun _ => .inl rfl⟩⟩
  · obtain ⟨x, h1, h2⟩ := hr.env t' v hv
    exact ⟨x, h1, h2.mono he⟩⟩

/-- A byte. -/
def bK (x : UInt8) : V := .k (.int .u8 (x.toNat : Int))
theorem Does.toStr {S T E : Nat} {x : Operand} {t : Option Nat} {l : List UInt8} (X : TOk P) {si ti ei : TI} (ho : o.op = .convert S T x) (hx : evo env x = some (.s t (l.map bK))) (hS : aget X.tab S = some si) (hd : si.d = .sl E) (hE : aget X.tab E = some ei) (hdE : ei.d = .int .u8) (hT : aget X.tab T = some ti) (hdT : ti.d = .str) : Does P o env (.k (.string ⟨l.toArray⟩)) [] :=
  .pure fun F g a w mem hr _ => by
    have hr0 := hr x (by simp [ho, Op.operands]) _ hx
    refine ⟨.string ⟨l.toArray⟩, ?_, .k _⟩
    have hcell : ∀ e ∈ l.map bK, e.cells.length = 1 := fun e he => by obtain ⟨z, _, rfl⟩ := List.mem_map.1 he; rfl
    obtain ⟨a0, n0, c0, hy, hS'⟩ : ∃ a0 n0 c0, a.eval x = .slice a0 n0 c0 ∧ Rp.Sl w w.heap.size 1 a0 n0 c0 (l.map Rp.byteV) := by
      generalize hy : a.eval x = y at hr0
      generalize hes : l.map bK = es at hr0
      cases hr0 with
      | s0 =>
        have : l = [] := by simpa using hes
        subst this
        exact ⟨none, 0, 0, rfl, rfl, Nat.le_refl _, by simp [maxLen], fun _ => rfl, fun h => by omega⟩
      | se a1 =>
        have : l = [] := by simpa using hes
        subst this
        exact ⟨some a1, 0, 0, rfl, rfl, Nat.le_refl _, by simp [maxLen], (fun h => by cases h), fun h => by omega⟩
      | @s _ _ _ b off cap size xs hn hm hp hsz hxx hc ht =>
        subst hes
        refine ⟨_, _, cap, rfl, by simp, hn, hm, (fun h => by cases h), fun _ => ⟨b, off, rfl, ?_, fun j u hj => ?_⟩⟩
        · rename_i hpos
          have : (l.map bK).flatMap V.cells ≠ [] := by
            cases l with
            | nil => simp at hpos
            | cons a r => simp [bK, V.cells]
          obtain ⟨u, r, hur⟩ := List.exists_cons_of_ne_nil this
          exact (hxx 0 u (by rw [hur]; rfl)).1
        · rw [List.getElem?_map] at hj
          obtain ⟨z, hz, rfl⟩ := Option.map_eq_some_iff.1 hj
          have hf : ((l.map bK).flatMap V.cells)[j]? = some (bK z) := by
            have := flat_get hcell (n := j) (j := 0) (e := bK z) (u := bK z) (by rw [List.getElem?_map, hz]; rfl) rfl
            simpa using this
          rw [(hxx j _ hf).2.2, rep_k (hc j _ hf)]
          rfl
    have := Ops.run_str (P := P) (w := w) ((X.get hS).sl hd) ((X.get hE).int hdE) ((X.get hT).str hdT) hS'
    simp [execOp, ho, hy, this]
end
end Lf
end Go.Proofs.YtgbgplijpomkeaaDoor

/- The lifted walk's steps; sums that do not wrap. -/
namespace Go.Proofs.YtgbgplijpomkeaaDoor
open Go.RowKit Rg
namespace Lf
section
variable {P : Program} {F : Fr0} {N : Nat} {Q : LQ} {env : Env} {mem : Mem} {ops : Array Oper} {o : Oper} {rs : List Oper} {v : V} {d i : Nat} {m : Option M} {m' mm : M}
theorem LS.pp (hg : gd ops env o = some true) (hds : o.dst = some d) (h : Does P o env v []) (hd : Nat.blt d N = true) (hK : LS P F N ops rs Q ((d, v) :: env) mem) : LS P F N ops (o :: rs) Q env mem :=
  LS.step hg h tpre_nil (by rw [hds]; exact hd) (by rw [hds]; exact hK)
theorem LS.rr (hg : gd ops env o = some true) (hds : o.dst = some d) (h : Does P o env v [(i, some mm, none)]) (ht : aget mem i = some mm) (hd : Nat.blt d N = true) (hK : LS P F N ops rs Q ((d, v) :: env) mem) : LS P F N ops (o :: rs) Q env mem :=
  LS.step hg h (tpre_one ht) (by rw [hds]; exact hd) (by rw [hds]; exact hK)
theorem LS.ww (hg : gd ops env o = some true) (hds : o.dst = some d) (h : Does P o env v [(i, m, some m')]) (ht : aget mem i = m) (hd : Nat.blt d N = true) (hK : LS P F N ops rs Q ((d, v) :: env) ((i, m') :: mem)) : LS P F N ops (o :: rs) Q env mem :=
  LS.step hg h (tpre_one ht) (by rw [hds]; exact hd) (by rw [hds]; exact hK)
/-- A new box or row, by its slot's number. -/
theorem LS.nn (hg : gd ops env o = some true) (hds : o.dst = some d) (h : Does P o env v [(d, none, some m')]) (ht : aget mem d = none) (hd : Nat.blt d N = true) (hK : LS P F N ops rs Q ((d, v) :: env) ((d, m') :: mem)) : LS P F N ops (o :: rs) Q env mem :=
  LS.step hg h (tpre_one ht) (by rw [hds]; exact hd) (by rw [hds]; exact hK)
theorem LS.ss (hg : gd ops env o = some true) (hds : o.dst = none) (h : Does P o env v [(i, m, some m')]) (ht : aget mem i = m) (hK : LS P F N ops rs Q env ((i, m') :: mem)) : LS P F N ops (o :: rs) Q env mem :=
  LS.step hg h (tpre_one ht) (by rw [hds]; rfl) (by rw [hds]; exact hK)
theorem LS.pz (hg : gd ops env o = some true) (hds : o.dst = none) (h : Does P o env v []) (hK : LS P F N ops rs Q env mem) : LS P F N ops (o :: rs) Q env mem :=
  LS.step hg h tpre_nil (by rw [hds]; rfl) (by rw [hds]; exact hK)
theorem LS.skip (hg : gd ops env o = some false) (hds : o.dst = some d) (hd : Nat.blt d N = true) (hK : LS P F N ops rs Q ((d, .k undef) :: env) mem) : LS P F N ops (o :: rs) Q env mem :=
  LS.pass hg (by rw [hds]; exact hd) (by rw [hds]; exact hK)
theorem LS.ld {T off : Nat} {x : Operand} {cs : List V} (X : TOk P) {ti : TI} (hg : gd ops env o = some true) (hds : o.dst = some d) (ho : o.op = .load T x) (hx : evo env x = some (.p i off)) (hm : aget mem i = some (.b cs)) (hT : aget X.tab T = some ti) (hv : ti.part cs off = some v) (hd : Nat.blt d N = true) (hK : LS P F N ops rs Q ((d, v) :: env) mem) : LS P F N ops (o :: rs) Q env mem :=
  LS.rr hg hds (Does.load X ho hx hm hT hv) hm hd hK
theorem LS.st {T off : Nat} {x y : Operand} {cs cs' : List V} {u : V} (X : TOk P) {ti : TI} (hg : gd ops env o = some true) (hds : o.dst = none) (ho : o.op = .store T x y) (hx : evo env x = some (.p i off)) (hy : evo env y = some u) (hm : aget mem i = some (.b cs)) (hT : aget X.tab T = some ti) (hu : u.ok = true) (hs : Nat.beq u.cells.length ti.size = true) (hle : Nat.ble (off + u.cells.length) cs.length = true) (hcs : splice cs off u.cells = cs')
    (hK : LS P F N ops rs Q env ((i, .b cs') :: mem)) : LS P F N ops (o :: rs) Q env mem :=
  LS.ss hg hds (Does.store X ho hx hy hm hT hu hs hle hcs) hm hK
theorem LS.ap {T Tx E Ex sz : Nat} {x y : Operand} {t : Option Nat} {es ys : List V} (X : TOk P) {ti xi ei : TI} (hg : gd ops env o = some true) (hds : o.dst = some d) (ho : o.op = .call { callee := .builtin .append, args := #[x, y], argTypes := #[T, Tx] }) (hx : evo env x = some (.s (some i) es)) (hy : evo env y = some (.s t ys))
    {n0 : Nat} (hm : aget mem i = some (.r E sz n0)) (hn0 : es.length = n0) (hT : aget X.tab T = some ti) (hdt : ti.d = .sl E) (hE : aget X.tab E = some ei) (hsz : ei.size = sz) (hX : aget X.tab Tx = some xi) (hdx : xi.d = .sl Ex)
    (hes : ∀ e ∈ es, e.cells.length = sz) (hys : ∀ e ∈ ys, e.cells.length = sz) {n : Nat} (hn : es.length + ys.length = n) (hmax : n ≤ 140737488355328) (hb : n * ei.bytes ≤ 140737488355328) (hd : Nat.blt d N = true) (hK : LS P F N ops rs Q ((d, .s (some i) (es ++ ys)) :: env) ((i, .r E sz n) :: mem)) : LS P F N ops (o :: rs) Q env mem :=
  LS.ww hg hds (Does.app X ho hx hy (by rw [hn0]; exact hm) hT hdt hE hsz hX hdx hes hys hn hmax hb) (by rw [hn0]; exact hm) hd hK
/-! Gates: which kind of operation it is, before its rules are tried. -/
theorem Does.gB {t : Tch} {b : BinOp} {T Y : Nat} {x y : Operand} (ho : o.op = .binOp b T x y Y) (h : Does P o env v t) : Does P o env v t := (fun _ => h) ho
theorem Does.gC {t : Tch} {c : Call} (ho : o.op = .call c) (h : Does P o env v t) : Does P o env v t := (fun _ => h) ho
theorem Does.gI {t : Tch} {T : Nat} {x y : Operand} (ho : o.op = .indexAddr T x y) (h : Does P o env v t) : Does P o env v t := (fun _ => h) ho
theorem Does.gF {t : Tch} {T f : Nat} {x : Operand} (ho : o.op = .fieldAddr T x f) (h : Does P o env v t) : Does P o env v t := (fun _ => h) ho
theorem Does.gU {t : Tch} {T : Nat} {u : UnOp} {x : Operand} (ho : o.op = .unOp u T x) (h : Does P o env v t) : Does P o env v t := (fun _ => h) ho
theorem LC.ite {c : Operand} {x y : Code} {b : Bool} (hc : evo env c = some (.k (.bool b))) (h : (b = true → LC P F N x Q env mem) ∧ (b = false → LC P F N y Q env mem)) : LC P F N (.cond c x y) Q env mem := .cond hc h.1 h.2
end
/-- A loop of at most n rounds. -/
def LRd (P : Program) (F : Fr0) (N : Nat) (c : Code) (Q : LQ) : Nat → Env → Mem → Prop
  | 0, _, _ => False
  | n + 1, env, mem => LC P F N c (LThen (LRd P F N c Q n) Q) env mem
theorem LC.rounds {P : Program} {F : Fr0} {N : Nat} {Q : LQ} {c : Code} (n : Nat) {env : Env} {mem : Mem} (h : LRd P F N c Q n env mem) : LC P F N (.loop c) Q env mem := by
  refine ⟨fun F0 hx g a w hr => wpIn_loop_rounds n ?_⟩
  have key : ∀ (n : Nat) (env : Env) (mem : Mem), LRd P F N c Q n env mem → ∀ F1, F0.Ext F1 → ∀ g a w, Rel F1 N g env mem a w → Code.roundsIn F0.fz 0 P c (liftQ F0 N Q) n a w := by
    intro n
    induction n with
    | zero => intro _ _ h; exact h.elim
    | succ n ih =>
      intro env mem h F1 hF1 g a w hr
      rw [roundsIn_succ]
      refine wpIn_mono (LC.run h hx hF1 hr) fun e a' w' ⟨F2, hF2, en, me, g', le, h1, h3, h2⟩ => ?_
      cases le with
      | normal => cases h3; exact ih _ _ h2 F2 hF2 g' a' w' h1
      | pan v => obtain ⟨x, rfl, hx⟩ := h3; exact ⟨F2, hF2, en, me, g', .pan v, h1, ⟨x, rfl, hx⟩, h2⟩
      | exit id => cases h3; exact ⟨F2, hF2, en, me, g', .exit id, h1, rfl, h2⟩
      | goto id => cases h3; exact ⟨F2, hF2, en, me, g', .goto id, h1, rfl, h2⟩
      | ret => cases h3; exact ⟨F2, hF2, en, me, g', .ret, h1, rfl, h2⟩
  exact key n env mem h F0 (.refl _) g a w hr
theorem wrap_i64 {z : Int} (h : -9223372036854775808 ≤ z ∧ z ≤ 9223372036854775807) : IntKind.i64.wrap z = z := by
  simp only [IntKind.wrap, IntKind.bits, IntKind.signed]
  have e1 : (2 : Int) ^ 64 = 18446744073709551616 := by decide
  have e2 : (2 : Int) ^ (64 - 1) = 9223372036854775808 := by decide
  simp only [e1, e2, Bool.true_and, decide_eq_true_eq]
  split <;> omega
theorem wrap_u64 {z : Int} (h : 0 ≤ z ∧ z ≤ 18446744073709551615) : IntKind.u64.wrap z = z := by
  simp only [IntKind.wrap, IntKind.bits, IntKind.signed]
  have e1 : (2 : Int) ^ 64 = 18446744073709551616 := by decide
  simp only [e1, Bool.false_and, Bool.false_eq_true, if_false]
  omega
theorem wrap_u8 {z : Int} (h : 0 ≤ z ∧ z ≤ 255) : IntKind.u8.wrap z = z := by
  simp only [IntKind.wrap, IntKind.bits, IntKind.signed]
  have e1 : (2 : Int) ^ 8 = 256 := by decide
  simp only [e1, Bool.false_and, Bool.false_eq_true, if_false]
  omega
theorem add_i64 {a b : Nat} (h : a + b ≤ 9223372036854775807) : IntKind.i64.wrap ((a : Int) + (b : Int)) = ((a + b : Nat) : Int) := by rw [wrap_i64 (by omega)]; omega
theorem sub_i64 {a b : Nat} (h : b ≤ a) (h2 : a ≤ 9223372036854775807) : IntKind.i64.wrap ((a : Int) - (b : Int)) = ((a - b : Nat) : Int) := by rw [wrap_i64 (by omega)]; omega
theorem mul_i64 {a b : Nat} (h : a * b ≤ 9223372036854775807) : IntKind.i64.wrap ((a : Int) * (b : Int)) = ((a * b : Nat) : Int) := by
  have : ((a : Int) * (b : Int)) = ((a * b : Nat) : Int) := by simp
  rw [this, wrap_i64 (by omega)]
theorem add_u64 {a b : Nat} (h : a + b ≤ 18446744073709551615) : IntKind.u64.wrap ((a : Int) + (b : Int)) = ((a + b : Nat) : Int) := by rw [wrap_u64 (by omega)]; omega
theorem sub_u64 {a b : Nat} (h : b ≤ a) (h2 : a ≤ 18446744073709551615) : IntKind.u64.wrap ((a : Int) - (b : Int)) = ((a - b : Nat) : Int) := by rw [wrap_u64 (by omega)]; omega
/-! The same with a literal. -/
theorem add_i64r {a b : Nat} (h : a + OfNat.ofNat b ≤ 9223372036854775807) : IntKind.i64.wrap ((a : Int) + OfNat.ofNat b) = ((a + OfNat.ofNat b : Nat) : Int) := add_i64 (b := b) h
theorem sub_i64r {a b : Nat} (h : OfNat.ofNat b ≤ a) (h2 : a ≤ 9223372036854775807) : IntKind.i64.wrap ((a : Int) - OfNat.ofNat b) = ((a - OfNat.ofNat b : Nat) : Int) := sub_i64 (b := b) h h2
theorem sub_i64l {a b : Nat} (h : b ≤ OfNat.ofNat a) (h2 : OfNat.ofNat a ≤ 9223372036854775807) : IntKind.i64.wrap ((OfNat.ofNat a : Int) - (b : Int)) = ((OfNat.ofNat a - b : Nat) : Int) := sub_i64 (a := a) h h2
theorem mul_i64r {a b : Nat} (h : a * OfNat.ofNat b ≤ 9223372036854775807) : IntKind.i64.wrap ((a : Int) * OfNat.ofNat b) = ((a * OfNat.ofNat b : Nat) : Int) := mul_i64 (b := b) h
theorem mul_i64l {a b : Nat} (h : OfNat.ofNat a * b ≤ 9223372036854775807) : IntKind.i64.wrap ((OfNat.ofNat a : Int) * (b : Int)) = ((OfNat.ofNat a * b : Nat) : Int) := mul_i64 (a := a) h
theorem mul_u64 {a b : Nat} (h : a * b ≤ 18446744073709551615) : IntKind.u64.wrap ((a : Int) * (b : Int)) = ((a * b : Nat) : Int) := by
  have : ((a : Int) * (b : Int)) = ((a * b : Nat) : Int) := by simp
  rw [this, wrap_u64 (by omega)]
theorem add_u64r {a b : Nat} (h : a + OfNat.ofNat b ≤ 18446744073709551615) : IntKind.u64.wrap ((a : Int) + OfNat.ofNat b) = ((a + OfNat.ofNat b : Nat) : Int) := add_u64 (b := b) h
theorem sub_u64r {a b : Nat} (h : OfNat.ofNat b ≤ a) (h2 : a ≤ 18446744073709551615) : IntKind.u64.wrap ((a : Int) - OfNat.ofNat b) = ((a - OfNat.ofNat b : Nat) : Int) := sub_u64 (b := b) h h2
theorem sub_u64l {a b : Nat} (h : b ≤ OfNat.ofNat a) (h2 : OfNat.ofNat a ≤ 18446744073709551615) : IntKind.u64.wrap ((OfNat.ofNat a : Int) - (b : Int)) = ((OfNat.ofNat a - b : Nat) : Int) := sub_u64 (a := a) h h2
theorem mul_u64r {a b : Nat} (h : a * OfNat.ofNat b ≤ 18446744073709551615) : IntKind.u64.wrap ((a : Int) * OfNat.ofNat b) = ((a * OfNat.ofNat b : Nat) : Int) := mul_u64 (b := b) h
theorem mul_u64l {a b : Nat} (h : OfNat.ofNat a * b ≤ 18446744073709551615) : IntKind.u64.wrap ((OfNat.ofNat a : Int) * (b : Int)) = ((OfNat.ofNat a * b : Nat) : Int) := mul_u64 (a := a) h
end Lf
end Go.Proofs.YtgbgplijpomkeaaDoor

/- A region that draws its order, over the lifted state: one plan serves every order. -/
namespace Go.Proofs.YtgbgplijpomkeaaDoor
open Go.RowKit Rg
namespace Lf
/-- An operation of a plan: its number, whether it is skipped, what it yields, what it meets. -/
structure It where
  i : Nat
  o : Oper
  skip : Bool
  v : V
  t : Tch
def It.tt (x : It) : Tch := cond x.skip [] x.t
def It.vv (x : It) : V := cond x.skip (.k undef) x.v

section
variable {P : Program} {N : Nat} {ops : Array Oper}
structure Valid (P : Program) (N : Nat) (ops : Array Oper) (x : It) (env : Env) (mem : Mem) : Prop where
  at_ : ops[x.i]? = some x.o
  gdd : gd ops env x.o = some (!x.skip)
  does : x.skip = false → Does P x.o env x.v x.t ∧ tpre x.t mem
  dst : dok x.o.dst N = true
def appE (x : It) (env : Env) : Env := bind x.o.dst x.vv env
def appM (x : It) (mem : Mem) : Mem := tset x.tt mem
def SR (P : Program) (N : Nat) (ops : Array Oper) : List It → Env → Mem → Prop
  | [], _, _ => True
  | x :: r, env, mem => Valid P N ops x env mem ∧ SR P N ops r (appE x env) (appM x mem)
def finE : List It → Env → Env
  | [], env => env
  | x :: r, env => finE r (appE x env)
def finM : List It → Mem → Mem
  | [], mem => mem
  | x :: r, mem => finM r (appM x mem)
structure Eqv (env : Env) (mem : Mem) (env' : Env) (mem' : Mem) : Prop where
  e : ∀ t, aget env t = aget env' t
  m : ∀ i, aget mem i = aget mem' i
theorem Eqv.refl (env : Env) (mem : Mem) : Eqv env mem env mem := ⟨fun _ => rfl, fun _ => rfl⟩
theorem Eqv.trans {a b c : Env} {x y z : Mem} (h : Eqv a x b y) (k : Eqv b y c z) : Eqv a x c z := ⟨fun t => (h.e t).trans (k.e t), fun i => (h.m i).trans (k.m i)⟩
theorem Eqv.symm {a b : Env} {x y : Mem} (h : Eqv a x b y) : Eqv b y a x := ⟨fun t => (h.e t).symm, fun i => (h.m i).symm⟩

theorem aget_tset {t : Tch} {mem : Mem} {i : Nat} (h : ∀ m m', (i, m, some m') ∉ t) : aget (tset t mem) i = aget mem i := by
  induction t with
  | nil => rfl
  | cons x r ih =>
    obtain ⟨j, m, m'⟩ := x
    cases m' with
    | none => exact ih fun a b hm => h a b (List.mem_cons_of_mem _ hm)
    | some m' =>
      have hne : j ≠ i := fun e => h m m' (by rw [e]; exact List.mem_cons_self)
      simp only [tset]
      rw [aget_ne hne]
      exact ih fun a b hm => h a b (List.mem_cons_of_mem _ hm)
theorem tset_congr {t : Tch} {mem mem' : Mem} (h : ∀ i, aget mem i = aget mem' i) : ∀ i, aget (tset t mem) i = aget (tset t mem') i := by
  induction t with
  | nil => exact h
  | cons x r ih =>
    obtain ⟨j, m, m'⟩ := x
    intro i
    cases m' with
    | none => exact ih i
    | some m' => simp only [tset, aget_cons]; split
                 · rfl
                 · exact ih i
theorem bind_congr {d : Option Nat} {v : V} {env env' : Env} (h : ∀ t, aget env t = aget env' t) : ∀ t, aget (bind d v env) t = aget (bind d v env') t := by
  intro t
  cases d with
  | none => exact h t
  | some d => simp only [bind, aget_cons]; split
              · rfl
              · exact h t
theorem evo_congr {env env' : Env} {x : Operand} (h : ∀ t, x = .tmp t → aget env t = aget env' t) : evo env x = evo env' x := by
  cases x <;> simp only [evo]
  exact h _ rfl
theorem Does.congr {o : Oper} {env env' : Env} {v : V} {t : Tch} (h : Does P o env v t) (he : ∀ x ∈ o.op.operands.toList, evo env x = evo env' x) : Does P o env' v t :=
  ⟨fun F g a w mem h1 => h.ex F g a w mem fun x hx u hu => h1 x hx u (by rw [← he x hx]; exact hu)⟩
theorem gd_congr {o : Oper} {env env' : Env} (h : ∀ j want d, o.guard = some (j, want) → (ops[j]?).bind (·.dst) = some d → aget env d = aget env' d) : gd ops env o = gd ops env' o := by
  unfold gd
  split
  · rfl
  · rename_i j want hn
    split
    · rename_i d hd
      rw [h j want d hn hd]
    · rfl
theorem Valid.congr {x : It} {env env' : Env} {mem mem' : Mem} (h : Valid P N ops x env mem) (he : Eqv env mem env' mem') : Valid P N ops x env' mem' :=
  ⟨h.at_, by rw [← h.gdd]; exact (gd_congr fun _ _ d _ _ => he.e d).symm, fun hs => ⟨(h.does hs).1.congr fun y _ => evo_congr fun t _ => he.e t, fun i m m' hi => by rw [← he.m i]; exact (h.does hs).2 i m m' hi⟩, h.dst⟩
theorem SR.congr : ∀ {l : List It} {env env' : Env} {mem mem' : Mem}, SR P N ops l env mem → Eqv env mem env' mem' → SR P N ops l env' mem'
  | [], _, _, _, _, _, _ => trivial
  | _ :: _, _, _, _, _, h, he => ⟨h.1.congr he, SR.congr h.2 ⟨bind_congr he.e, tset_congr he.m⟩⟩
theorem fin_congr : ∀ {l : List It} {env env' : Env} {mem mem' : Mem}, Eqv env mem env' mem' → Eqv (finE l env) (finM l mem) (finE l env') (finM l mem')
  | [], _, _, _, _, he => he
  | _ :: r, _, _, _, _, he => fin_congr (l := r) ⟨bind_congr he.e, tset_congr he.m⟩

/-- They do not meet: neither looks at what the other writes. -/
def compat (s t : Tch) : Bool := s.all fun x => t.all fun y => !(Nat.beq x.1 y.1) || (x.2.2.isNone && y.2.2.isNone)
theorem compat_spec {s t : Tch} (h : compat s t = true) {i : Nat} {m n : Option M} {m' n' : Option M} (hs : (i, m, m') ∈ s) (ht : (i, n, n') ∈ t) : m' = none ∧ n' = none := by
  unfold compat at h
  rw [List.all_eq_true] at h
  have h1 := h _ hs
  rw [List.all_eq_true] at h1
  have h2 := h1 _ ht
  simp only [Nat.beq_refl, Bool.not_true, Bool.false_or, Bool.and_eq_true, Option.isNone_iff_eq_none] at h2
  exact h2
structure Indep (ops : Array Oper) (x y : It) : Prop where
  apart : x.o.apart ops y.o = true
  t : compat x.tt y.tt = true

theorem aget_appE {x : It} {env : Env} {t : Nat} (h : x.o.dst ≠ some t) : aget (appE x env) t = aget env t := by
  unfold appE bind
  cases hd : x.o.dst with
  | none => rfl
  | some d => exact aget_ne (fun e => h (by rw [hd, e])) _ _
/-- A valid item behind another one that it does not meet is valid ahead of it, and the other way round. -/
theorem Valid.move {x y : It} {env : Env} {mem : Mem} (hl : ∀ d, x.o.dst = some d → d ∉ y.o.looksAt ops) (hc : ∀ i m m' n n', (i, m, m') ∈ x.tt → (i, n, n') ∈ y.tt → m' = none ∧ n' = none) : Valid P N ops y (appE x env) (appM x mem) ↔ Valid P N ops y env mem := by
  have he : ∀ z ∈ y.o.op.operands.toList, evo (appE x env) z = evo env z := fun z hz => evo_congr fun t ht => aget_appE fun e => hl t e (by
    subst ht
    simp only [Oper.looksAt, List.mem_append, List.mem_filterMap]
    exact .inl ⟨_, hz, rfl⟩)
  have hg : gd ops (appE x env) y.o = gd ops env y.o := gd_congr fun j want d hgd hd => aget_appE fun e => hl d e (by
    simp only [Oper.looksAt, hgd, hd, List.mem_append]
    exact .inr (by simp))
  have hm : y.skip = false → ∀ i n n', (i, n, n') ∈ y.t → aget (appM x mem) i = aget mem i := fun hs i n n' hi => aget_tset fun m m' hx => by
    have := (hc i m (some m') n n' hx (by rw [It.tt, hs]; exact hi)).1
    cases this
  constructor
  · intro h
    exact ⟨h.at_, by rw [← hg]; exact h.gdd, fun hs => ⟨(h.does hs).1.congr he, fun i n n' hi => by rw [← hm hs i n n' hi]; exact (h.does hs).2 i n n' hi⟩, h.dst⟩
  · intro h
    exact ⟨h.at_, by rw [hg]; exact h.gdd, fun hs => ⟨(h.does hs).1.congr fun z hz => (he z hz).symm, fun i n n' hi => by rw [hm hs i n n' hi]; exact (h.does hs).2 i n n' hi⟩, h.dst⟩

theorem app_comm {x y : It} (h : Indep ops x y) (env : Env) (mem : Mem) : Eqv (appE y (appE x env)) (appM y (appM x mem)) (appE x (appE y env)) (appM x (appM y mem)) := by
  obtain ⟨p1, p2, p3⟩ := Oper.apart_spec h.apart
  refine ⟨fun t => ?_, fun i => ?_⟩
  · by_cases hx : x.o.dst = some t
    · have hy : y.o.dst ≠ some t := fun e => p2 t hx e
      rw [aget_appE hy]
      unfold appE bind
      rw [hx]
      simp only [aget_self]
    · rw [aget_appE hx]
      by_cases hy : y.o.dst = some t
      · unfold appE bind
        rw [hy]
        simp only [aget_self]
      · rw [aget_appE hy, aget_appE hx, aget_appE hy]
  · by_cases hx : ∃ m m', (i, m, some m') ∈ x.tt
    · obtain ⟨m, m', hm⟩ := hx
      have hy : ∀ n n', (i, n, some n') ∉ y.tt := fun n n' hn => by have := (compat_spec h.t hm hn).1; cases this
      have e1 : aget (appM y (appM x mem)) i = aget (appM x mem) i := aget_tset hy
      rw [e1]
      have key : ∀ (t : Tch) (m1 m2 : Mem), (∃ m m', (i, m, some m') ∈ t) → aget (tset t m1) i = aget (tset t m2) i := by
        intro t m1 m2 ⟨m, m', hm⟩
        induction t with
        | nil => cases hm
        | cons z r ih =>
          obtain ⟨j, a, b⟩ := z
          cases b with
          | none =>
            simp only [tset]
            rcases List.mem_cons.1 hm with hm | hm
            · cases hm
            · exact ih hm
          | some b =>
            simp only [tset, aget_cons]
            split
            · rfl
            · rename_i hne
              rcases List.mem_cons.1 hm with hm | hm
              · cases hm; exact absurd rfl hne
              · exact ih hm
      exact key x.tt mem (appM y mem) ⟨m, m', hm⟩
    · have hx' : ∀ m m', (i, m, some m') ∉ x.tt := fun m m' hm => hx ⟨m, m', hm⟩
      have e1 : aget (appM x (appM y mem)) i = aget (appM y mem) i := aget_tset hx'
      rw [e1]
      by_cases hy : ∃ m m', (i, m, some m') ∈ y.tt
      · obtain ⟨m, m', hm⟩ := hy
        have key : ∀ (t : Tch) (m1 m2 : Mem), (∃ m m', (i, m, some m') ∈ t) → aget (tset t m1) i = aget (tset t m2) i := by
          intro t m1 m2 ⟨m, m', hm⟩
          induction t with
          | nil => cases hm
          | cons z r ih =>
            obtain ⟨j, a, b⟩ := z
            cases b with
            | none =>
              simp only [tset]
              rcases List.mem_cons.1 hm with hm | hm
              · cases hm
              · exact ih hm
            | some b =>
              simp only [tset, aget_cons]
              split
              · rfl
              · rename_i hne
                rcases List.mem_cons.1 hm with hm | hm
                · cases hm; exact absurd rfl hne
                · exact ih hm
        exact key y.tt (appM x mem) mem ⟨m, m', hm⟩
      · have hy' : ∀ m m', (i, m, some m') ∉ y.tt := fun m m' hm => hy ⟨m, m', hm⟩
        have e2 : aget (appM y (appM x mem)) i = aget (appM x mem) i := aget_tset hy'
        have e3 : aget (appM x mem) i = aget mem i := aget_tset hx'
        have e4 : aget (appM y mem) i = aget mem i := aget_tset hy'
        rw [e2, e3, e4]

/-- An item that meets none of those ahead of it is taken first. -/
theorem SR.first {y : It} : ∀ {pre : List It} {post : List It} {env : Env} {mem : Mem}, SR P N ops (pre ++ y :: post) env mem → (∀ x ∈ pre, Indep ops x y) →
    SR P N ops (y :: (pre ++ post)) env mem ∧ Eqv (finE (pre ++ y :: post) env) (finM (pre ++ y :: post) mem) (finE (y :: (pre ++ post)) env) (finM (y :: (pre ++ post)) mem)
  | [], post, env, mem, h, _ => ⟨h, Eqv.refl _ _⟩
  | x :: pre, post, env, mem, h, hi => by
    have hxy := hi x (by simp)
    obtain ⟨p1, p2, p3⟩ := Oper.apart_spec hxy.apart
    obtain ⟨k1, k2⟩ := SR.first (pre := pre) h.2 fun z hz => hi z (by simp [hz])
    have hvy : Valid P N ops y env mem := (Valid.move p1 fun i m m' n n' h1 h2 => compat_spec hxy.t h1 h2).1 k1.1
    have hvx : Valid P N ops x (appE y env) (appM y mem) := (Valid.move p3 fun i m m' n n' h1 h2 => (compat_spec hxy.t h2 h1).symm).2 h.1
    have hc := app_comm hxy env mem
    refine ⟨⟨hvy, hvx, k1.2.congr hc⟩, k2.trans ?_⟩
    exact fin_congr (l := pre ++ post) hc

theorem Rel.congr {F : Fr0} {g : Gh} {env env' : Env} {mem mem' : Mem} {a : Act} {w : World} (h : Rel F N g env mem a w) (he : Eqv env mem env' mem') : Rel F N g env' mem' a w :=
  ⟨fun t v ht => h.env t v (by rw [he.e]; exact ht), h.mem.congr he.m, h.kept, h.defers, h.size, h.big⟩

/-- What is left of a plan: just what has not come up; in an order that the edges allow; what does not wait for each other does not meet. -/
structure Plan (ops : Array Oper) (W : Array Nat) (listed : Array Bool) (its : List It) : Prop where
  mem : ∀ i, i < ops.size → (listed.getD i true = false ↔ ∃ x ∈ its, x.i = i)
  lt : ∀ x ∈ its, x.i < ops.size
  nodup : its.Pairwise fun x y => x.i ≠ y.i
  ext : ∀ pre x post, its = pre ++ x :: post → ∀ o, ops[x.i]? = some o → ∀ e ∈ o.after, Region.binds .any e = true → e.on < ops.size ∧ ∀ y ∈ x :: post, y.i ≠ e.on
  ind : its.Pairwise fun x y => waits W y.i x.i = true ∨ Indep ops x y
  size : listed.size = ops.size

theorem any_run {F : Fr0} {Q : Exit → Act → World → Prop} {W : Array Nat} (hW : waitsB .any ops W = true) : ∀ (n : Nat) (its : List It) (env : Env) (mem : Mem) (listed : Array Bool) (g : Gh) (a : Act) (w : World), its.length = n → SR P N ops its env mem → Plan ops W listed its → Closed .any ops listed → Rel F N g env mem a w →
    (∀ g a w, Rel F N g (finE its env) (finM its mem) a w → Q .normal a w) → wpAnyIn F.fz 0 P .any ops Q n listed a w
  | 0, its, env, mem, listed, g, a, w, hl, _, hp, _, hr, hQ => by
    have : its = [] := List.eq_nil_of_length_eq_zero hl
    subst this
    refine ⟨?_, hQ g a w hr⟩
    cases hq : Region.ready .any ops listed with
    | nil => rfl
    | cons j r =>
      obtain ⟨h1, o, ho, _⟩ := mem_ready.1 (show j ∈ Region.ready .any ops listed by rw [hq]; simp)
      have hj := (Array.getElem?_eq_some_iff.1 ho).1
      obtain ⟨x, hx, _⟩ := (hp.mem j hj).1 (by simpa using h1)
      cases hx
  | n + 1, its, env, mem, listed, g, a, w, hl, hs, hp, hc, hr, hQ => by
    have hrd : ∀ x pre post, its = pre ++ x :: post → (∀ o, ops[x.i]? = some o → ∀ e ∈ o.after, Region.binds .any e = true → ∀ y ∈ pre, y.i ≠ e.on) → x.i ∈ Region.ready .any ops listed := by
      intro x pre post hits hall
      have hxm : x ∈ its := by rw [hits]; simp
      have hlt := hp.lt x hxm
      refine mem_ready.2 ⟨by simpa using (hp.mem x.i hlt).2 ⟨x, hxm, rfl⟩, ops[x.i], Array.getElem?_eq_getElem hlt, fun e he hb => ?_⟩
      obtain ⟨h1, h2⟩ := hp.ext pre x post hits _ (Array.getElem?_eq_getElem hlt) e he hb
      have hlist : ¬ listed.getD e.on true = false := fun hf => by
        obtain ⟨y, hy, hye⟩ := (hp.mem e.on h1).1 hf
        rw [hits] at hy
        rcases List.mem_append.1 hy with hy | hy
        · exact hall _ (Array.getElem?_eq_getElem hlt) e he hb y hy hye
        · exact h2 y hy hye
      have hsz : e.on < listed.size := by rw [hp.size]; exact h1
      simp only [Array.getD, hsz, dif_pos] at hlist ⊢
      simpa using hlist
    constructor
    · intro h0
      cases its with
      | nil => simp at hl
      | cons x r =>
        have := hrd x [] r rfl fun _ _ _ _ _ _ hy => by cases hy
        rw [h0] at this; cases this
    · intro j hj
      obtain ⟨hun, o, ho, hall⟩ := mem_ready.1 hj
      have hjlt := (Array.getElem?_eq_some_iff.1 ho).1
      obtain ⟨y, hy, hyj⟩ := (hp.mem j hjlt).1 (by simpa using hun)
      subst hyj
      obtain ⟨pre, post, hits⟩ := List.append_of_mem hy
      subst hits
      have hind : ∀ x ∈ pre, Indep ops x y := fun x hx => by
        have h1 := (List.pairwise_append.1 hp.ind).2.2 x hx y (by simp)
        rcases h1 with h1 | h1
        · exfalso
          have hxlt := hp.lt x (by simp [hx])
          have hxl := waits_listed hW hc hxlt y.i y.i o (Nat.le_refl _) ho hall h1
          have hxu := (hp.mem x.i hxlt).2 ⟨x, by simp [hx], rfl⟩
          have hsz : x.i < listed.size := by rw [hp.size]; exact hxlt
          simp only [Array.getD, hsz, dif_pos] at hxl hxu
          rw [hxl] at hxu; cases hxu
        · exact h1
      obtain ⟨k1, k2⟩ := hs.first hind
      obtain ⟨hv, hrest⟩ := k1
      have hov : y.o = o := by have := hv.at_; rw [ho] at this; exact (Option.some.inj this).symm
      subst hov
      have hp' : Plan ops W (listed.setIfInBounds y.i true) (pre ++ post) := by
        have hnd := List.pairwise_append.1 hp.nodup
        have hnd2 := List.pairwise_cons.1 hnd.2.1
        have hne : ∀ z ∈ pre ++ post, z.i ≠ y.i := fun z hz => by
          rcases List.mem_append.1 hz with hz | hz
          · exact hnd.2.2 z hz y (by simp)
          · exact (hnd2.1 z hz).symm
        refine ⟨fun i hi => ?_, fun x hx => hp.lt x (by rcases List.mem_append.1 hx with h | h <;> simp [h]), ?_, fun pre' x post' hits o' ho' e he hb => ?_, ?_, by simp [hp.size]⟩
        · by_cases hiy : y.i = i
          · subst hiy
            have hsz : y.i < listed.size := by rw [hp.size]; exact hi
            simp only [Array.getD, Array.size_setIfInBounds, hsz, dif_pos]
            constructor
            · intro h; simp at h
            · rintro ⟨x, hx, hxi⟩; exact absurd hxi (hne x hx)
          · rw [getD_set_ne true hiy, hp.mem i hi]
            constructor
            · rintro ⟨x, hx, hxi⟩
              rcases List.mem_append.1 hx with h | h
              · exact ⟨x, by simp [h], hxi⟩
              · rcases List.mem_cons.1 h with rfl | h
                · exact absurd hxi hiy
                · exact ⟨x, by simp [h], hxi⟩
            · rintro ⟨x, hx, hxi⟩
              exact ⟨x, by rcases List.mem_append.1 hx with h | h <;> simp [h], hxi⟩
        · exact List.pairwise_append.2 ⟨hnd.1, hnd2.2, fun a ha b hb => hnd.2.2 a ha b (by simp [hb])⟩
        · have hsub : ∃ pre'' post'', pre ++ y :: post = pre'' ++ x :: post'' ∧ ∀ z ∈ x :: post', z ∈ x :: post'' := by
            rcases List.append_eq_append_iff.1 hits with ⟨us, h1, h2⟩ | ⟨bs, h1, h2⟩
            · refine ⟨pre ++ y :: us, post', by rw [h2]; simp, fun z hz => hz⟩
            · cases bs with
              | nil =>
                simp at h1 h2
                subst h1
                refine ⟨pre ++ [y], post', by rw [← h2]; simp, fun z hz => hz⟩
              | cons b bs =>
                simp at h2
                obtain ⟨rfl, h2⟩ := h2
                refine ⟨pre', bs ++ y :: post, by rw [h1]; simp, fun z hz => ?_⟩
                rcases List.mem_cons.1 hz with rfl | hz
                · simp
                · rw [h2] at hz
                  rcases List.mem_append.1 hz with h | h <;> simp [h]
          obtain ⟨pre'', post'', h1, h2⟩ := hsub
          obtain ⟨h3, h4⟩ := hp.ext pre'' x post'' h1 o' ho' e he hb
          exact ⟨h3, fun z hz => h4 z (h2 z hz)⟩
        · have hpi := List.pairwise_append.1 hp.ind
          exact List.pairwise_append.2 ⟨hpi.1, (List.pairwise_cons.1 hpi.2.1).2, fun a ha b hb => hpi.2.2 a ha b (by simp [hb])⟩
      have next : ∀ g' a' w', Rel F N g' (appE y env) (appM y mem) a' w' → wpAnyIn F.fz 0 P .any ops Q n (listed.setIfInBounds y.i true) a' w' := fun g' a' w' hr' =>
        any_run hW n (pre ++ post) _ _ _ g' a' w' (by simp at hl ⊢; omega) hrest hp' (hc.step hj) hr' fun g2 a2 w2 hr2 => hQ g2 a2 w2 (hr2.congr k2.symm)
      unfold wpOpIn
      rw [ho]
      simp only
      have hwant := gd_wanted hr hv.gdd
      rw [hwant]
      cases hsk : y.skip
      · simp only [Bool.not_false, if_true]
        refine ((hv.does hsk).1.run hr (hv.does hsk).2 hv.dst fun g' a' w' hr' => next g' a' w' ?_)
        simpa [appE, appM, It.vv, It.tt, hsk] using hr'
      · simp only [Bool.not_true, Bool.false_eq_true, if_false]
        refine ⟨fun _ _ => trivial, next g _ w ?_⟩
        have := hr.put (d := y.o.dst) (v := .k undef) (x := undef) (Ev.refl g w) hr.mem hr.kept (.k undef) hv.dst
        simpa [appE, appM, It.vv, It.tt, hsk, tset] using this
end
end Lf
end Go.Proofs.YtgbgplijpomkeaaDoor

/- A region that draws its order: from the walk of one plan to every order. -/
namespace Go.Proofs.YtgbgplijpomkeaaDoor
open Go.RowKit Rg
namespace Lf
def pickI (l : List Oper) : List Nat → List (Nat × Oper)
  | [] => []
  | i :: r => (i, nth l i) :: pickI l r
def extOk (ops : Array Oper) : List Nat → List Nat → Bool
  | _, [] => true
  | done, i :: r => (match ops[i]? with | some o => o.after.toList.all fun e => !Region.binds .any e || done.contains e.on | none => false) && extOk ops (i :: done) r
def apOk (ops : Array Oper) (W : Array Nat) : List Nat → Bool
  | [] => true
  | i :: r => (r.all fun j => !Nat.beq i j && (waits W j i || (match ops[i]?, ops[j]? with | some a, some b => a.apart ops b | _, _ => false))) && apOk ops W r
def planOk (ops : Array Oper) (W : Array Nat) (plan : List Nat) : Bool := plan.all (fun i => Nat.blt i ops.size) && ((List.range ops.size).all (fun i => plan.contains i) && (extOk ops [] plan && (apOk ops W plan && Nat.beq plan.length ops.size)))
def chkT (W : Array Nat) : List (Nat × Tch) → Bool
  | [] => true
  | x :: r => (r.all fun y => compat x.2 y.2 || waits W y.1 x.1) && chkT W r

inductive DR (P : Program) (N : Nat) (ops : Array Oper) (chk : List (Nat × Tch) → Bool) (K : Env → Mem → Prop) : List (Nat × Oper) → List (Nat × Tch) → Env → Mem → Prop
  | nl {acc env mem} (hc : chk acc.reverse = true) (h : K env mem) : DR P N ops chk K [] acc env mem
  | run {i o r acc env mem v t} (hd : dok o.dst N = true) (hg : gd ops env o = some true) (h : Does P o env v t) (ht : tpre t mem) (hK : DR P N ops chk K r ((i, t) :: acc) (bind o.dst v env) (tset t mem)) : DR P N ops chk K ((i, o) :: r) acc env mem
  | pass {i o r acc env mem} (hd : dok o.dst N = true) (hg : gd ops env o = some false) (hK : DR P N ops chk K r ((i, []) :: acc) (bind o.dst (.k undef) env) mem) : DR P N ops chk K ((i, o) :: r) acc env mem

section
variable {P : Program} {N : Nat} {ops : Array Oper} {chk : List (Nat × Tch) → Bool}
theorem DR.script {K : Env → Mem → Prop} {l : List (Nat × Oper)} {acc : List (Nat × Tch)} {env : Env} {mem : Mem} (h : DR P N ops chk K l acc env mem) : (∀ x ∈ l, ops[x.1]? = some x.2) →
    ∃ its, SR P N ops its env mem ∧ its.map (·.i) = l.map (·.1) ∧ chk (acc.reverse ++ its.map fun x => (x.i, x.tt)) = true ∧ K (finE its env) (finM its mem) := by
  induction h with
  | nl hc h => exact fun _ => ⟨[], trivial, rfl, by simpa using hc, h⟩
  | @run i o r acc env mem v t hd hg hv ht _ ih =>
    intro hl
    have ho : ops[i]? = some o := hl (i, o) (by simp)
    obtain ⟨its, k1, k2, k3, k4⟩ := ih fun x hx => hl x (by simp [hx])
    exact ⟨⟨i, o, false, v, t⟩ :: its, ⟨⟨ho, hg, fun _ => ⟨hv, ht⟩, hd⟩, k1⟩, by simp [k2], by simpa [It.tt] using k3, k4⟩
  | @pass i o r acc env mem hd hg _ ih =>
    intro hl
    have ho : ops[i]? = some o := hl (i, o) (by simp)
    obtain ⟨its, k1, k2, k3, k4⟩ := ih fun x hx => hl x (by simp [hx])
    exact ⟨⟨i, o, true, .k undef, []⟩ :: its, ⟨⟨ho, hg, fun h => (by cases h), hd⟩, k1⟩, by simp [k2], by simpa [It.tt] using k3, k4⟩

theorem extOk_spec : ∀ {plan done : List Nat}, extOk ops done plan = true → ∀ pre i post, plan = pre ++ i :: post → ∀ o, ops[i]? = some o → ∀ e ∈ o.after, Region.binds .any e = true → e.on ∈ done ∨ e.on ∈ pre
  | [], _, _, pre, i, post, h, _, _, _, _, _ => by simp at h
  | j :: r, done, hx, [], i, post, h, o, ho, e, he, hb => by
    simp only [List.nil_append, List.cons.injEq] at h
    obtain ⟨rfl, rfl⟩ := h
    simp only [extOk, ho, Bool.and_eq_true, List.all_eq_true] at hx
    have := hx.1 e (by simpa using he)
    simp [hb] at this
    exact .inl this
  | j :: r, done, hx, k :: pre, i, post, h, o, ho, e, he, hb => by
    simp only [List.cons_append, List.cons.injEq] at h
    obtain ⟨rfl, h⟩ := h
    simp only [extOk, Bool.and_eq_true] at hx
    rcases extOk_spec hx.2 pre i post h o ho e he hb with h1 | h1
    · rcases List.mem_cons.1 h1 with h1 | h1
      · exact .inr (by simp [h1])
      · exact .inl h1
    · exact .inr (by simp [h1])
theorem apOk_spec {W : Array Nat} : ∀ {plan : List Nat}, apOk ops W plan = true → plan.Pairwise fun i j => i ≠ j ∧ (waits W j i = true ∨ ∃ a b, ops[i]? = some a ∧ ops[j]? = some b ∧ a.apart ops b = true)
  | [], _ => .nil
  | i :: r, h => by
    simp only [apOk, Bool.and_eq_true, List.all_eq_true] at h
    refine .cons (fun j hj => ?_) (apOk_spec h.2)
    have h1 := h.1 j hj
    simp only [Bool.not_eq_true', Bool.or_eq_true] at h1
    refine ⟨fun e => ?_, ?_⟩
    · subst e; rw [Nat.beq_refl] at h1; exact absurd h1.1 (by simp)
    · rcases h1.2 with h2 | h2
      · exact .inl h2
      · split at h2
        · rename_i a b ha hb; exact .inr ⟨a, b, ha, hb, h2⟩
        · cases h2
theorem chkT_spec {W : Array Nat} : ∀ {l : List (Nat × Tch)}, chkT W l = true → l.Pairwise fun x y => compat x.2 y.2 = true ∨ waits W y.1 x.1 = true
  | [], _ => .nil
  | x :: r, h => by
    simp only [chkT, Bool.and_eq_true, List.all_eq_true] at h
    exact .cons (fun y hy => by have := h.1 y hy; simpa using this) (chkT_spec h.2)

def enumI : Nat → List Oper → List (Nat × Oper)
  | _, [] => []
  | k, o :: r => (k, o) :: enumI (k + 1) r
theorem enumI_fst : ∀ (k : Nat) (l : List Oper), (enumI k l).map (·.1) = List.range' k l.length
  | _, [] => rfl
  | k, o :: r => by simp [enumI, enumI_fst (k + 1) r, List.range'_succ]
theorem enumI_mem : ∀ (k : Nat) (l : List Oper), ∀ x ∈ enumI k l, k ≤ x.1 ∧ l[x.1 - k]? = some x.2
  | _, [], x, h => by simp [enumI] at h
  | k, o :: r, x, h => by
    simp only [enumI, List.mem_cons] at h
    rcases h with rfl | h
    · simp
    · obtain ⟨h1, h2⟩ := enumI_mem (k + 1) r x h
      refine ⟨by omega, ?_⟩
      rw [show x.1 - k = (x.1 - (k + 1)) + 1 from by omega, List.getElem?_cons_succ]
      exact h2
theorem pickI_fst (l : List Oper) (plan : List Nat) : (pickI l plan).map (·.1) = plan := by
  induction plan with
  | nil => rfl
  | cons i r ih => simp [pickI, ih]
theorem pickI_mem {l : List Oper} {plan : List Nat} (h : ∀ i ∈ plan, i < l.length) : ∀ x ∈ pickI l plan, l.toArray[x.1]? = some x.2 := by
  induction plan with
  | nil => simp [pickI]
  | cons i r ih =>
    intro x hx
    simp only [pickI, List.mem_cons] at hx
    rcases hx with rfl | hx
    · have hi := h i (by simp)
      have : l[i]? = some l[i] := List.getElem?_eq_getElem hi
      rw [nth_of this]
      simp
    · exact ih (fun j hj => h j (by simp [hj])) x hx

theorem LC.drawG {F : Fr0} {Q : LQ} {env : Env} {mem : Mem} {id : Nat} {l : List Oper} (plan : List Nat) (pk : List (Nat × Oper)) (hpk : pk.map (·.1) = plan) (hpm : ∀ x ∈ pk, l.toArray[x.1]? = some x.2) (hm : P.follows .mixedOrders = true) (hB : (waitsB .any l.toArray (Region.before l.toArray) && planOk l.toArray (Region.before l.toArray) plan) = true)
    (h : DR P N l.toArray (chkT (Region.before l.toArray)) (fun env mem => Q .normal env mem) pk [] env mem) : LC P F N (.region id l.toArray true) Q env mem := by
  refine ⟨fun F0 hx g a w hr => ?_⟩
  simp only [planOk, Bool.and_eq_true] at hB
  obtain ⟨hW, hlt, hall, hext, hap, hlen⟩ := hB
  have hlt' : ∀ i ∈ plan, i < l.length := fun i hi => by
    have h1 := Nat.le_of_ble_eq_true (List.all_eq_true.1 hlt i hi)
    simp at h1
    omega
  obtain ⟨its, k1, k2, k3, k4⟩ := DR.script h hpm
  rw [hpk] at k2
  have hat : ∀ (l' : List It) (env : Env) (mem : Mem), SR P N l.toArray l' env mem → ∀ x ∈ l', l.toArray[x.i]? = some x.o := by
    intro l'
    induction l' with
    | nil => intro _ _ _ x hx; cases hx
    | cons y r ih =>
      intro env mem hs x hx
      rcases List.mem_cons.1 hx with rfl | hx
      · exact hs.1.at_
      · exact ih _ _ hs.2 x hx
  have hato := hat its env mem k1
  have hlen' : its.length = l.toArray.size := by
    rw [← Nat.eq_of_beq_eq_true hlen, ← k2, List.length_map]
  have hplan : Plan l.toArray (Region.before l.toArray) (Array.replicate l.length false) its := by
    refine ⟨fun i hi => ?_, fun x hx => ?_, ?_, fun pre x post hits o ho e he hb => ?_, ?_, by simp⟩
    · have hi' : i < l.length := by simpa using hi
      have : (Array.replicate l.length false).getD i true = false := by simp [Array.getD, hi']
      refine ⟨fun _ => ?_, fun _ => this⟩
      have h1 := List.all_eq_true.1 hall i (by simpa using hi')
      have h2 : i ∈ plan := by simpa using h1
      rw [← k2] at h2
      obtain ⟨x, hx, hxi⟩ := List.mem_map.1 h2
      exact ⟨x, hx, hxi⟩
    · have := hlt' x.i (by rw [← k2]; exact List.mem_map_of_mem hx)
      simpa using this
    · have := (apOk_spec hap).imp fun h => h.1
      rw [← k2, List.pairwise_map] at this
      exact this
    · have hp2 : plan = pre.map (·.i) ++ x.i :: post.map (·.i) := by rw [← k2, hits]; simp
      have h1 := extOk_spec hext (pre.map (·.i)) x.i (post.map (·.i)) hp2 o ho e he hb
      have h2 : e.on ∈ pre.map (·.i) := by
        rcases h1 with h1 | h1
        · cases h1
        · exact h1
      have hnd := (apOk_spec hap).imp fun h => h.1
      rw [hp2] at hnd
      have h3 := (List.pairwise_append.1 hnd).2.2 e.on h2
      refine ⟨?_, fun y hy hye => ?_⟩
      · have := hlt' e.on (by rw [hp2]; exact List.mem_append_left _ h2)
        simpa using this
      · exact h3 y.i (by
          rcases List.mem_cons.1 hy with rfl | hy
          · simp
          · exact List.mem_cons_of_mem _ (List.mem_map_of_mem hy)) hye.symm
    · have h1 := apOk_spec hap
      rw [← k2, List.pairwise_map] at h1
      have h2 := chkT_spec k3
      simp only [List.reverse_nil, List.nil_append, List.pairwise_map] at h2
      refine (h1.and h2).imp_of_mem fun {x y} hx hy h => ?_
      obtain ⟨⟨_, h3⟩, h4⟩ := h
      rcases h3 with h3 | ⟨p, q, hp, hq, h3⟩
      · exact .inl h3
      · rcases h4 with h4 | h4
        · have e1 := hato x hx
          have e2 := hato y hy
          rw [hp] at e1; cases e1
          rw [hq] at e2; cases e2
          exact .inr ⟨h3, h4⟩
        · exact .inl h4
  have hclosed : Closed .any l.toArray (Array.replicate l.length false) := by
    intro j o _ hl
    exfalso
    simp [Array.getElem?_replicate] at hl
    split at hl <;> simp_all
  have hr' : Rel F0 N g env mem a { w with drawn := w.drawn + 1 } := by
    have hx : Ext w { w with drawn := w.drawn + 1 } := Below.drew (Below.refl _ w)
    obtain ⟨e1, e2, e3⟩ := hr.mem.ext (g' := g) hr.kept hx (fun _ _ _ => Iff.rfl) rfl rfl hr.mem.fut
    exact ⟨fun t v ht => by obtain ⟨x, h1, h2⟩ := hr.env t v ht; exact ⟨x, h1, h2.mono e1⟩, e2, e3, hr.defers, hr.size, hr.big⟩
  refine wpIn_region_any hm ?_
  have := any_run (P := P) (N := N) (F := F0) (Q := liftQ F0 N Q) hW its.length its env mem (Array.replicate l.length false) g a _ rfl k1 hplan hclosed hr' fun g2 a2 w2 hr2 => ⟨F0, .refl _, _, _, g2, .normal, hr2, rfl, k4⟩
  rw [hlen'] at this
  simpa using this

/-- A region that draws its order: a plan is walked. -/
theorem LC.drawP {F : Fr0} {Q : LQ} {env : Env} {mem : Mem} {id : Nat} {l : List Oper} (plan : List Nat) (hm : P.follows .mixedOrders = true) (hB : (waitsB .any l.toArray (Region.before l.toArray) && planOk l.toArray (Region.before l.toArray) plan) = true)
    (h : DR P N l.toArray (chkT (Region.before l.toArray)) (fun env mem => Q .normal env mem) (pickI l plan) [] env mem) : LC P F N (.region id l.toArray true) Q env mem := by
  refine LC.drawG plan (pickI l plan) (pickI_fst l plan) (pickI_mem fun i hi => ?_) hm hB h
  simp only [planOk, Bool.and_eq_true] at hB
  have h1 := Nat.le_of_ble_eq_true (List.all_eq_true.1 hB.2.1 i hi)
  simp at h1
  omega
/-- A region that draws its order, walked in the order of the text. -/
theorem LC.draw {F : Fr0} {Q : LQ} {env : Env} {mem : Mem} {id : Nat} {l : List Oper} (hm : P.follows .mixedOrders = true) (hB : (waitsB .any l.toArray (Region.before l.toArray) && planOk l.toArray (Region.before l.toArray) (List.range l.length)) = true)
    (h : DR P N l.toArray (chkT (Region.before l.toArray)) (fun env mem => Q .normal env mem) (enumI 0 l) [] env mem) : LC P F N (.region id l.toArray true) Q env mem := by
  refine LC.drawG (List.range l.length) (enumI 0 l) (by rw [enumI_fst, List.range_eq_range']) (fun x hx => ?_) hm hB h
  have := (enumI_mem 0 l x hx).2
  simpa using this

/-! ### Steps -/
variable {o : Oper} {i d j : Nat} {rs : List (Nat × Oper)} {acc : List (Nat × Tch)} {env : Env} {mem : Mem} {K : Env → Mem → Prop} {v : V} {m : Option M} {m' mm : M} {t : Tch}
theorem gd_none (h : o.guard = none) : gd ops env o = some true := by unfold gd; rw [h]
theorem DR.step (hg : gd ops env o = some true) (h : Does P o env v t) (ht : tpre t mem) (hd : dok o.dst N = true) (hK : DR P N ops chk K rs ((i, t) :: acc) (bind o.dst v env) (tset t mem)) : DR P N ops chk K ((i, o) :: rs) acc env mem :=
  .run hd hg h ht hK
theorem DR.pp (hg : gd ops env o = some true) (hds : o.dst = some d) (h : Does P o env v []) (hd : Nat.blt d N = true) (hK : DR P N ops chk K rs ((i, []) :: acc) ((d, v) :: env) mem) : DR P N ops chk K ((i, o) :: rs) acc env mem :=
  .step hg h tpre_nil (by rw [hds]; exact hd) (by rw [hds]; exact hK)
theorem DR.rr (hg : gd ops env o = some true) (hds : o.dst = some d) (h : Does P o env v [(j, some mm, none)]) (ht : aget mem j = some mm) (hd : Nat.blt d N = true) (hK : DR P N ops chk K rs ((i, [(j, some mm, none)]) :: acc) ((d, v) :: env) mem) : DR P N ops chk K ((i, o) :: rs) acc env mem :=
  .step hg h (tpre_one ht) (by rw [hds]; exact hd) (by rw [hds]; exact hK)
theorem DR.ww (hg : gd ops env o = some true) (hds : o.dst = some d) (h : Does P o env v [(j, m, some m')]) (ht : aget mem j = m) (hd : Nat.blt d N = true) (hK : DR P N ops chk K rs ((i, [(j, m, some m')]) :: acc) ((d, v) :: env) ((j, m') :: mem)) : DR P N ops chk K ((i, o) :: rs) acc env mem :=
  .step hg h (tpre_one ht) (by rw [hds]; exact hd) (by rw [hds]; exact hK)
theorem DR.nn (hg : gd ops env o = some true) (hds : o.dst = some d) (h : Does P o env v [(d, none, some m')]) (ht : aget mem d = none) (hd : Nat.blt d N = true) (hK : DR P N ops chk K rs ((i, [(d, none, some m')]) :: acc) ((d, v) :: env) ((d, m') :: mem)) : DR P N ops chk K ((i, o) :: rs) acc env mem :=
  .step hg h (tpre_one ht) (by rw [hds]; exact hd) (by rw [hds]; exact hK)
theorem DR.ss (hg : gd ops env o = some true) (hds : o.dst = none) (h : Does P o env v [(j, m, some m')]) (ht : aget mem j = m) (hK : DR P N ops chk K rs ((i, [(j, m, some m')]) :: acc) env ((j, m') :: mem)) : DR P N ops chk K ((i, o) :: rs) acc env mem :=
  .step hg h (tpre_one ht) (by rw [hds]; rfl) (by rw [hds]; exact hK)
theorem DR.pz (hg : gd ops env o = some true) (hds : o.dst = none) (h : Does P o env v []) (hK : DR P N ops chk K rs ((i, []) :: acc) env mem) : DR P N ops chk K ((i, o) :: rs) acc env mem :=
  .step hg h tpre_nil (by rw [hds]; rfl) (by rw [hds]; exact hK)
theorem DR.ld {T off : Nat} {x : Operand} {cs : List V} (X : TOk P) {ti : TI} (hg : gd ops env o = some true) (hds : o.dst = some d) (ho : o.op = .load T x) (hx : evo env x = some (.p j off)) (hm : aget mem j = some (.b cs)) (hT : aget X.tab T = some ti) (hv : ti.part cs off = some v) (hd : Nat.blt d N = true) (hK : DR P N ops chk K rs ((i, [(j, some (.b cs), none)]) :: acc) ((d, v) :: env) mem) : DR P N ops chk K ((i, o) :: rs) acc env mem :=
  DR.rr hg hds (Does.load X ho hx hm hT hv) hm hd hK
theorem DR.st {T off : Nat} {x y : Operand} {cs cs' : List V} {u : V} (X : TOk P) {ti : TI} (hg : gd ops env o = some true) (hds : o.dst = none) (ho : o.op = .store T x y) (hx : evo env x = some (.p j off)) (hy : evo env y = some u) (hm : aget mem j = some (.b cs)) (hT : aget X.tab T = some ti) (hu : u.ok = true) (hs : Nat.beq u.cells.length ti.size = true) (hle : Nat.ble (off + u.cells.length) cs.length = true) (hcs : splice cs off u.cells = cs')
    (hK : DR P N ops chk K rs ((i, [(j, some (.b cs), some (.b cs'))]) :: acc) env ((j, .b cs') :: mem)) : DR P N ops chk K ((i, o) :: rs) acc env mem :=
  DR.ss hg hds (Does.store X ho hx hy hm hT hu hs hle hcs) hm hK
theorem DR.ap {T Tx E Ex sz : Nat} {x y : Operand} {s : Option Nat} {es ys : List V} (X : TOk P) {ti xi ei : TI} (hg : gd ops env o = some true) (hds : o.dst = some d) (ho : o.op = .call { callee := .builtin .append, args := #[x, y], argTypes := #[T, Tx] }) (hx : evo env x = some (.s (some j) es)) (hy : evo env y = some (.s s ys))
    {n0 : Nat} (hm : aget mem j = some (.r E sz n0)) (hn0 : es.length = n0) (hT : aget X.tab T = some ti) (hdt : ti.d = .sl E) (hE : aget X.tab E = some ei) (hsz : ei.size = sz) (hX : aget X.tab Tx = some xi) (hdx : xi.d = .sl Ex)
    (hes : ∀ e ∈ es, e.cells.length = sz) (hys : ∀ e ∈ ys, e.cells.length = sz) {n : Nat} (hn : es.length + ys.length = n) (hmax : n ≤ 140737488355328) (hb : n * ei.bytes ≤ 140737488355328) (hd : Nat.blt d N = true)
    (hK : DR P N ops chk K rs ((i, [(j, some (.r E sz es.length), some (.r E sz n))]) :: acc) ((d, .s (some j) (es ++ ys)) :: env) ((j, .r E sz n) :: mem)) : DR P N ops chk K ((i, o) :: rs) acc env mem :=
  DR.ww hg hds (Does.app X ho hx hy (by rw [hn0]; exact hm) hT hdt hE hsz hX hdx hes hys hn hmax hb) (by rw [hn0]; exact hm) hd hK
theorem DR.skip (hg : gd ops env o = some false) (hds : o.dst = some d) (hd : Nat.blt d N = true) (hK : DR P N ops chk K rs ((i, []) :: acc) ((d, .k undef) :: env) mem) : DR P N ops chk K ((i, o) :: rs) acc env mem :=
  .pass (by rw [hds]; exact hd) hg (by rw [hds]; exact hK)
theorem DR.skipz (hg : gd ops env o = some false) (hds : o.dst = none) (hK : DR P N ops chk K rs ((i, []) :: acc) env mem) : DR P N ops chk K ((i, o) :: rs) acc env mem :=
  .pass (by rw [hds]; rfl) hg (by rw [hds]; exact hK)
end
end Lf
end Go.Proofs.YtgbgplijpomkeaaDoor

/- More of the lifted walk: bits of unsigned numbers, shifts, quotients; calls of functions' values; boxes that stay from now on; slices of what stays. -/
namespace Go.Proofs.YtgbgplijpomkeaaDoor
open Go.RowKit Rg
namespace Lf

/-! ### Numbers -/
theorem wrap_uns {k : IntKind} (hk : k.signed = false) (z : Int) : k.wrap z = z % 2 ^ k.bits := by
  unfold IntKind.wrap
  simp [hk]
theorem wrap_unsN {k : IntKind} (hk : k.signed = false) (n : Nat) : k.wrap (n : Int) = ((n % 2 ^ k.bits : Nat) : Int) := by
  rw [wrap_uns hk]; norm_cast
theorem wrap_fit {k : IntKind} (hk : k.signed = false) {n : Nat} (h : n < 2 ^ k.bits) : k.wrap (n : Int) = (n : Int) := by
  rw [wrap_unsN hk, Nat.mod_eq_of_lt h]
theorem ofInt_nat (w n : Nat) : (BitVec.ofInt w (n : Int)).toNat = n % 2 ^ w := by
  rw [BitVec.ofInt_natCast, BitVec.toNat_ofNat]
theorem and_lt {a b n : Nat} (h : a < 2 ^ n) : a &&& b < 2 ^ n := Nat.lt_of_le_of_lt Nat.and_le_left h
theorem and_nat {k : IntKind} (hk : k.signed = false) {a b : Nat} (ha : a < 2 ^ k.bits) (hb : b < 2 ^ k.bits) : k.wrap (((BitVec.ofInt k.bits (a : Int) &&& BitVec.ofInt k.bits (b : Int)).toNat : Nat) : Int) = ((a &&& b : Nat) : Int) := by
  rw [BitVec.toNat_and, ofInt_nat, ofInt_nat, Nat.mod_eq_of_lt ha, Nat.mod_eq_of_lt hb, wrap_fit hk (and_lt ha)]
theorem or_nat {k : IntKind} (hk : k.signed = false) {a b : Nat} (ha : a < 2 ^ k.bits) (hb : b < 2 ^ k.bits) : k.wrap (((BitVec.ofInt k.bits (a : Int) ||| BitVec.ofInt k.bits (b : Int)).toNat : Nat) : Int) = ((a ||| b : Nat) : Int) := by
  rw [BitVec.toNat_or, ofInt_nat, ofInt_nat, Nat.mod_eq_of_lt ha, Nat.mod_eq_of_lt hb, wrap_fit hk (Nat.or_lt_two_pow ha hb)]
theorem xor_nat {k : IntKind} (hk : k.signed = false) {a b : Nat} (ha : a < 2 ^ k.bits) (hb : b < 2 ^ k.bits) : k.wrap (((BitVec.ofInt k.bits (a : Int) ^^^ BitVec.ofInt k.bits (b : Int)).toNat : Nat) : Int) = ((a ^^^ b : Nat) : Int) := by
  rw [BitVec.toNat_xor, ofInt_nat, ofInt_nat, Nat.mod_eq_of_lt ha, Nat.mod_eq_of_lt hb, wrap_fit hk (Nat.xor_lt_two_pow ha hb)]
theorem shr_nat {k : IntKind} {a s : Nat} (h : s ≤ k.bits) : ((a : Nat) : Int).fdiv (2 ^ (min ((s : Nat) : Int).toNat k.bits)) = ((a / 2 ^ s : Nat) : Int) := by
  rw [Int.toNat_natCast, Nat.min_eq_left h]
  rw [Int.fdiv_eq_ediv_of_nonneg _ (Int.le_of_lt (Int.pow_pos (by decide)))]
  norm_cast
theorem shl_nat {k : IntKind} (hk : k.signed = false) {a s : Nat} (h : s ≤ k.bits) : k.wrap (((a : Nat) : Int) * 2 ^ (min ((s : Nat) : Int).toNat k.bits)) = ((a * 2 ^ s % 2 ^ k.bits : Nat) : Int) := by
  rw [Int.toNat_natCast, Nat.min_eq_left h, wrap_uns hk]
  norm_cast
theorem quo_nat {a b : Nat} : ((a : Nat) : Int).tdiv ((b : Nat) : Int) = ((a / b : Nat) : Int) := rfl
theorem rem_nat {a b : Nat} : ((a : Nat) : Int).tmod ((b : Nat) : Int) = ((a % b : Nat) : Int) := rfl
theorem quo_i64 {a b : Nat} (h : a ≤ 9223372036854775807) : IntKind.i64.wrap (((a : Nat) : Int).tdiv ((b : Nat) : Int)) = ((a / b : Nat) : Int) := by
  have := Nat.div_le_self a b
  rw [quo_nat]
  generalize a / b = c at this
  exact wrap_i64 (by omega)
theorem quo_u64 {a b : Nat} (h : a ≤ 18446744073709551615) : IntKind.u64.wrap (((a : Nat) : Int).tdiv ((b : Nat) : Int)) = ((a / b : Nat) : Int) := by
  have := Nat.div_le_self a b
  rw [quo_nat]
  generalize a / b = c at this
  exact wrap_u64 (by omega)
theorem quo_i64r {a b : Nat} (h : a ≤ 9223372036854775807) : IntKind.i64.wrap (((a : Nat) : Int).tdiv (OfNat.ofNat b)) = ((a / OfNat.ofNat b : Nat) : Int) := quo_i64 (b := b) h
theorem quo_u64r {a b : Nat} (h : a ≤ 18446744073709551615) : IntKind.u64.wrap (((a : Nat) : Int).tdiv (OfNat.ofNat b)) = ((a / OfNat.ofNat b : Nat) : Int) := quo_u64 (b := b) h
theorem rem_r {a b : Nat} : ((a : Nat) : Int).tmod (OfNat.ofNat b) = ((a % OfNat.ofNat b : Nat) : Int) := rfl
theorem shr_u64r {a s : Nat} (h : OfNat.ofNat s ≤ 64) : ((a : Nat) : Int).fdiv (2 ^ (min (OfNat.ofNat s : Int).toNat IntKind.u64.bits)) = ((a / 2 ^ OfNat.ofNat s : Nat) : Int) := shr_nat (k := .u64) (s := s) h
theorem shl_u64r {a s : Nat} (h : OfNat.ofNat s ≤ 64) : IntKind.u64.wrap (((a : Nat) : Int) * 2 ^ (min (OfNat.ofNat s : Int).toNat IntKind.u64.bits)) = ((a * 2 ^ OfNat.ofNat s % 2 ^ 64 : Nat) : Int) := shl_nat (k := .u64) (s := s) rfl h
theorem shr_u64 {a s : Nat} (h : s ≤ 64) : ((a : Nat) : Int).fdiv (2 ^ (min ((s : Nat) : Int).toNat IntKind.u64.bits)) = ((a / 2 ^ s : Nat) : Int) := shr_nat (k := .u64) h
theorem shl_u64 {a s : Nat} (h : s ≤ 64) : IntKind.u64.wrap (((a : Nat) : Int) * 2 ^ (min ((s : Nat) : Int).toNat IntKind.u64.bits)) = ((a * 2 ^ s % 2 ^ 64 : Nat) : Int) := shl_nat (k := .u64) rfl h
theorem to_u8 {a : Nat} : IntKind.u8.wrap ((a : Nat) : Int) = ((a % 2 ^ 8 : Nat) : Int) := wrap_unsN (k := .u8) rfl a
theorem to_u64 {a : Nat} : IntKind.u64.wrap ((a : Nat) : Int) = ((a % 2 ^ 64 : Nat) : Int) := wrap_unsN (k := .u64) rfl a
theorem and_u64 {a b : Nat} (ha : a < 18446744073709551616) (hb : b < 18446744073709551616) : IntKind.u64.wrap (((BitVec.ofInt IntKind.u64.bits (a : Int) &&& BitVec.ofInt IntKind.u64.bits (b : Int)).toNat : Nat) : Int) = ((a &&& b : Nat) : Int) := and_nat (k := .u64) rfl ha hb
theorem or_u64 {a b : Nat} (ha : a < 18446744073709551616) (hb : b < 18446744073709551616) : IntKind.u64.wrap (((BitVec.ofInt IntKind.u64.bits (a : Int) ||| BitVec.ofInt IntKind.u64.bits (b : Int)).toNat : Nat) : Int) = ((a ||| b : Nat) : Int) := or_nat (k := .u64) rfl ha hb
theorem xor_u64 {a b : Nat} (ha : a < 18446744073709551616) (hb : b < 18446744073709551616) : IntKind.u64.wrap (((BitVec.ofInt IntKind.u64.bits (a : Int) ^^^ BitVec.ofInt IntKind.u64.bits (b : Int)).toNat : Nat) : Int) = ((a ^^^ b : Nat) : Int) := xor_nat (k := .u64) rfl ha hb
theorem and_u64r {a b : Nat} (ha : a < 18446744073709551616) (hb : OfNat.ofNat b < 18446744073709551616) : IntKind.u64.wrap (((BitVec.ofInt IntKind.u64.bits (a : Int) &&& BitVec.ofInt IntKind.u64.bits (OfNat.ofNat b)).toNat : Nat) : Int) = ((a &&& OfNat.ofNat b : Nat) : Int) := and_u64 (b := b) ha hb
theorem and_i64r {a b : Nat} (ha : a < 9223372036854775808) (hb : OfNat.ofNat b < 9223372036854775808) : IntKind.i64.wrap (((BitVec.ofInt IntKind.i64.bits (a : Int) &&& BitVec.ofInt IntKind.i64.bits (OfNat.ofNat b)).toNat : Nat) : Int) = ((a &&& OfNat.ofNat b : Nat) : Int) := by
  have hb' : b < 9223372036854775808 := hb
  have h : (BitVec.ofInt 64 (a : Int) &&& BitVec.ofInt 64 ((b : Nat) : Int)).toNat = a &&& b := by
    rw [BitVec.toNat_and, BitVec.ofInt_natCast, BitVec.ofInt_natCast, BitVec.toNat_ofNat, BitVec.toNat_ofNat, Nat.mod_eq_of_lt (by omega), Nat.mod_eq_of_lt (by omega)]
  show IntKind.i64.wrap (((BitVec.ofInt 64 (a : Int) &&& BitVec.ofInt 64 ((b : Nat) : Int)).toNat : Nat) : Int) = ((a &&& b : Nat) : Int)
  rw [h]
  have := Nat.and_le_left (n := a) (m := b)
  exact wrap_i64 (by omega)
/-- The bits of a that b lacks. -/
def andn (a b : Nat) : Nat := a &&& (18446744073709551615 - b)
theorem andn_le (a b : Nat) : andn a b ≤ a := Nat.and_le_left
theorem andn_u64 {a b : Nat} (ha : a < 18446744073709551616) (hb : b < 18446744073709551616) : IntKind.u64.wrap (((BitVec.ofInt IntKind.u64.bits (a : Int) &&& ~~~ BitVec.ofInt IntKind.u64.bits (b : Int)).toNat : Nat) : Int) = ((andn a b : Nat) : Int) := by
  have h : (BitVec.ofInt 64 (a : Int) &&& ~~~ BitVec.ofInt 64 (b : Int)).toNat = andn a b := by
    rw [BitVec.toNat_and, BitVec.toNat_not, BitVec.ofInt_natCast, BitVec.ofInt_natCast, BitVec.toNat_ofNat, BitVec.toNat_ofNat, Nat.mod_eq_of_lt (by omega), Nat.mod_eq_of_lt (by omega)]
    rfl
  show IntKind.u64.wrap (((BitVec.ofInt 64 (a : Int) &&& ~~~ BitVec.ofInt 64 (b : Int)).toNat : Nat) : Int) = _
  rw [h]
  have := andn_le a b
  exact wrap_u64 (by omega)
theorem neg_u64 {a : Nat} (ha : a < 18446744073709551616) : IntKind.u64.wrap (0 - (a : Int)) = (((18446744073709551616 - a) % 2 ^ 64 : Nat) : Int) := by
  have h : (0 - (a : Int)) = ((18446744073709551616 - a : Nat) : Int) - 18446744073709551616 := by omega
  rw [← to_u64, h, wrap_uns rfl, wrap_uns rfl]
  show (((18446744073709551616 - a : Nat) : Int) - 18446744073709551616) % 18446744073709551616 = ((18446744073709551616 - a : Nat) : Int) % 18446744073709551616
  omega
section
variable {P : Program} {o : Oper} {env : Env} {v : V}
theorem Does.andNot' {T Y : Nat} {x y : Operand} {k : IntKind} {m n r : Int} (ho : o.op = .binOp .andNot T x y Y) (hx : evo env x = some (.k (.int k m))) (hy : evo env y = some (.k (.int k n))) (hr : k.wrap (BitVec.ofInt k.bits m &&& ~~~ BitVec.ofInt k.bits n).toNat = r) : Does P o env (.k (.int k r)) [] :=
  .arith ho hx hy (by rw [← hr]; rfl)
theorem Does.and' {T Y : Nat} {x y : Operand} {k : IntKind} {m n r : Int} (ho : o.op = .binOp .and T x y Y) (hx : evo env x = some (.k (.int k m))) (hy : evo env y = some (.k (.int k n))) (hr : k.wrap (BitVec.ofInt k.bits m &&& BitVec.ofInt k.bits n).toNat = r) : Does P o env (.k (.int k r)) [] :=
  .arith ho hx hy (by rw [← hr]; rfl)
theorem Does.or' {T Y : Nat} {x y : Operand} {k : IntKind} {m n r : Int} (ho : o.op = .binOp .or T x y Y) (hx : evo env x = some (.k (.int k m))) (hy : evo env y = some (.k (.int k n))) (hr : k.wrap (BitVec.ofInt k.bits m ||| BitVec.ofInt k.bits n).toNat = r) : Does P o env (.k (.int k r)) [] :=
  .arith ho hx hy (by rw [← hr]; rfl)
theorem Does.xor' {T Y : Nat} {x y : Operand} {k : IntKind} {m n r : Int} (ho : o.op = .binOp .xor T x y Y) (hx : evo env x = some (.k (.int k m))) (hy : evo env y = some (.k (.int k n))) (hr : k.wrap (BitVec.ofInt k.bits m ^^^ BitVec.ofInt k.bits n).toNat = r) : Does P o env (.k (.int k r)) [] :=
  .arith ho hx hy (by rw [← hr]; rfl)

/-! ### Calls of functions' values -/
theorem exec_callF {o : Oper} {fx : Nat} {f : Operand} {xs : List Operand} {ts : Array Nat} {fi ca : Array Value} (ho : o.op = .call { callee := .value f, args := xs.toArray, argTypes := ts }) (hok : callOk P fx = true) (a : Act) (w : World) (hf : a.eval f = .func (.func fx) fi ca) :
    (execOp a.eval o).run P w = .ok (.enter fx (fi ++ (xs.map a.eval).toArray ++ ca)) w := by
  unfold callOk at hok
  split at hok
  · rename_i fn hfn
    simp only [Bool.and_eq_true, Bool.not_eq_true'] at hok
    have hn : ¬ fn.body = none := by cases hb : fn.body <;> simp_all
    have hm : ¬ fn.name = "runtime.NumGoroutine" := by simpa using hok.1
    simp [execOp, ho, resolve, hf, Deferred.ofValue, invoke, callFunc, hfn, hm, hn]
  · cases hok
theorem Does.callFM {fx : Nat} {f : Operand} {xs : List Operand} {ts : Array Nat} {us args fi ca : List V} {mi mo : Mem} {v : V} (hc : LM P fx args mi fun o m => o = .ret v ∧ m = mo) (ho : o.op = .call { callee := .value f, args := xs.toArray, argTypes := ts }) (hf : evo env f = some (.f (.func fx) fi ca)) (hx : evs env xs = some us) (hu : Fits (fi ++ us ++ ca) args)
    (hr : (V.refs.go mi args && (refsM mi mi && keysOk mi mo)) = true) : Does P o env v (callT mi mo) := by
  refine ⟨fun F g a w mem h1 h2 h3 h4 _ K Q hK => ?_⟩
  simp only [Bool.and_eq_true] at hr
  have hf' := h1 f (by simp [ho, Op.operands, Call.operands]) _ hf
  generalize hy : a.eval f = y at hf'
  cases hf' with
  | @f _ _ _ _ vs us' l1 l2 r1 r2 =>
    obtain ⟨e1, e2⟩ := evs_get hx
    obtain ⟨f1, f2⟩ := fits_rep (w := w) (g := g) hu
    obtain ⟨t1, t2⟩ := tpre_call h4 hr.2.2
    unfold Oper.wp
    rw [exec_callF ho hc.ok a w hy]
    have hl : args.length = (vs ++ (xs.map a.eval).toArray ++ us').size := by simp at f1 ⊢; omega
    refine Calls.mono (call_ends hc h2 h3 hr.2.1 hr.1 t1 hl fun j u x hj hxj => ?_) ?_
    · obtain ⟨u0, hu0, hb⟩ := f2 hj
      refine hb _ ?_
      rw [Array.append_assoc] at hxj
      rw [List.append_assoc] at hu0
      rcases Nat.lt_or_ge j fi.length with h | h
      · rw [List.getElem?_append_left h] at hu0
        rw [Array.getElem?_append_left (by omega)] at hxj
        exact r1 j u0 x hu0 hxj
      · rw [List.getElem?_append_right h] at hu0
        rw [Array.getElem?_append_right (by omega)] at hxj
        rw [← l1] at hxj
        rcases Nat.lt_or_ge (j - fi.length) us.length with h' | h'
        · rw [List.getElem?_append_left h'] at hu0
          rw [Array.getElem?_append_left (by simp; omega)] at hxj
          obtain ⟨y, hy, hev⟩ := e2 _ u0 hu0
          have : x = a.eval y := by simp [hy] at hxj; exact hxj.symm
          subst this
          exact h1 y (by simp [ho, Op.operands, Call.operands]; exact .inr (List.mem_of_getElem? hy)) u0 hev
        · rw [List.getElem?_append_right h'] at hu0
          rw [Array.getElem?_append_right (by simp; omega)] at hxj
          simp at hxj
          rw [e1] at hxj
          exact r2 _ u0 x hu0 hxj
    · rintro e w' ⟨o', mo', ⟨rfl, rfl⟩, hq⟩
      obtain ⟨g2, k1, k2, k3, x, rfl, k4⟩ := hq hr.2.2 t2
      exact hK x g2 w' k1 (by rw [tset_call]; exact k2) k3 k4
theorem Does.callF {fx : Nat} {f : Operand} {xs : List Operand} {ts : Array Nat} {us args fi ca : List V} {out : V} (hc : LM P fx args [] fun o m => o = .ret out ∧ m = []) (ho : o.op = .call { callee := .value f, args := xs.toArray, argTypes := ts }) (hf : evo env f = some (.f (.func fx) fi ca)) (hx : evs env xs = some us) (hu : Fits (fi ++ us ++ ca) args) (hr : V.refs.go [] args = true) :
    Does P o env out [] := Does.callFM hc ho hf hx hu (by rw [hr]; rfl)
theorem Does.mkFunc {fn : Fn} {fi ca : List Operand} {fs cs : List V} (ho : o.op = .makeFunc fn fi.toArray ca.toArray) (h1 : evs env fi = some fs) (h2 : evs env ca = some cs) : Does P o env (.f fn fs cs) [] :=
  .pure fun F g a w mem hr _ => by
    obtain ⟨e1, e2⟩ := evs_get h1
    obtain ⟨f1, f2⟩ := evs_get h2
    refine ⟨.func fn (fi.map a.eval).toArray (ca.map a.eval).toArray, ?_, .f (by simp; omega) (by simp; omega) (fun j u x hj hx => ?_) (fun j u x hj hx => ?_)⟩
    · simp [execOp, ho, Instr.makeFunc]
    · obtain ⟨y, hy, hev⟩ := e2 j u hj
      have : x = a.eval y := by simp [hy] at hx; exact hx.symm
      subst this
      exact hr y (by simp [ho, Op.operands]; exact .inl (List.mem_of_getElem? hy)) u hev
    · obtain ⟨y, hy, hev⟩ := f2 j u hj
      have : x = a.eval y := by simp [hy] at hx; exact hx.symm
      subst this
      exact hr y (by simp [ho, Op.operands]; exact .inr (List.mem_of_getElem? hy)) u hev

/-! ### What lies in a slice that is told by a map -/
theorem getM {α β : Type} [Inhabited α] {f : α → β} {l : List α} {k : Nat} (h : k < l.length) : (l.map f)[k]? = some (f (l.getD k default)) := by rw [List.getElem?_map, List.getElem?_eq_getElem h, List.getD_eq_getElem?_getD, List.getElem?_eq_getElem h]; rfl

/-! ### What stays -/
theorem Does.cutAQ {T e l h n : Nat} {x : Operand} {lo hi : Option Operand} {cs es : List V} (X : TOk P) {ti ei : TI} (ho : o.op = .slice T x lo hi none) (hx : evo env x = some (.q cs)) (hT : aget X.tab T = some ti) (hd : ti.d = .arr n e) (hE : aget X.tab e = some ei) (hlo : Bd env 0 lo l) (hhi : Bd env n hi h)
    (h1 : l ≤ h) (h2 : h ≤ n) (h3 : l < n) (hm : n ≤ maxLen) (hp : Nat.blt 0 ei.size = true) (hc : (cs.drop (l * ei.size)).take ((h - l) * ei.size) = es.flatMap V.cells) (hl : es.length = h - l) (hs : ∀ e ∈ es, e.cells.length = ei.size) : Does P o env (.s none es) [] :=
  .pure fun F g a w mem hr _ => by
    have hr0 := hr x (by simp [ho, Op.operands]) _ hx
    have b1 := hlo.val (a := a) (fun y hy u hu => hr y (by subst hy; simp [ho, Op.operands]) u hu)
    have b2 := hhi.val (a := a) (fun y hy u hu => hr y (by subst hy; simp [ho, Op.operands]) u hu)
    generalize hy : a.eval x = y at hr0
    cases hr0 with
    | @q _ _ b off xs k1 hx' hc' =>
      have := run_cutA (P := P) (b := b) (off := off) ((X.get hT).arr hd) (X.get hE).run_size b1 b2 h1 h2 h3 w
      have hin : ∀ (j : Nat) u, (es.flatMap V.cells)[j]? = some u → cs[l * ei.size + j]? = some u := fun j u hj => by
        rw [← hc, List.getElem?_take] at hj
        split at hj
        · rw [List.getElem?_drop] at hj; exact hj
        · cases hj
      refine ⟨.slice (some ⟨b, off + l * ei.size, none⟩) (h - l) (n - l), by simp [execOp, ho, hy, this], ?_⟩
      rw [← hl]
      refine .s (size := ei.size) (fun j => xs (l * ei.size + j)) (by omega) (by omega) (by simpa using hp) (fun e he => ⟨hs e he, fun u hu => ?_⟩) (fun j u hj => ?_) (fun j u hj => hc' _ u (hin j u hj)) (fun _ h => by cases h)
      · obtain ⟨j, hj⟩ := List.getElem?_of_mem (List.mem_flatMap.2 ⟨e, he, hu⟩)
        exact k1 u (List.mem_of_getElem? (hin j u hj))
      · obtain ⟨a1, a2, a3⟩ := hx' _ u (hin j u hj)
        rw [Nat.add_assoc]
        exact ⟨a1, a2, a3⟩
end
def V.frz (i : Nat) (cs : List V) : V → V
  | .p j off => cond (Nat.beq j i) (.q (cs.drop off)) (.p j off)
  | v => v
def frzE (i : Nat) (cs : List V) : Env → Env
  | [] => []
  | (t, v) :: r => (t, v.frz i cs) :: frzE i cs r
theorem frzE_get {i : Nat} {cs : List V} {t : Nat} {v : V} : ∀ {env : Env}, aget (frzE i cs env) t = some v → ∃ u, aget env t = some u ∧ v = u.frz i cs
  | [], h => by cases h
  | (n, u) :: r, h => by
    simp only [frzE, aget_cons] at h ⊢
    split at h
    · rename_i e; cases h; rw [if_pos e]; exact ⟨u, rfl, rfl⟩
    · rename_i e; rw [if_neg e]; exact frzE_get h
/-- The ghost in which cells stay. -/
def Gh.frz (g : Gh) (b off n : Nat) : Gh := ⟨fun b' o => g.S b' o ∨ (b' = b ∧ off ≤ o ∧ o < off + n), g.bx, g.rw⟩
/-- An object whose cells stay from now on is no more one of the call's. -/
theorem RelM.frz {F : Fr0} {g : Gh} {w : World} {mem : Mem} (h : RelM F g mem w) (hk : Kept F g w) {i b off n : Nat} {m : M} (hi : aget mem i = some m) (hin : ∀ o, off ≤ o → o < off + n → fp g i m b o) :
    Ev g w (g.frz b off n) w ∧ RelM F (g.frz b off n) ((i, .x) :: mem) w ∧ Kept F (g.frz b off n) w := by
  have hev : Ev g w (g.frz b off n) w := ⟨Nat.le_refl _, fun _ _ _ hs => ⟨.inl hs, rfl⟩, fun _ _ h => h, fun _ a l c h => ⟨a, l, c, h, Nat.le_refl _, fun _ => ⟨rfl, rfl⟩⟩⟩
  refine ⟨hev, h.step hk hev rfl rfl rfl (fun b' o _ hn => ⟨rfl, rfl, fun hs => hs.elim id fun ⟨e, h1, h2⟩ => ?_⟩) (fun _ _ _ => rfl) (fun _ _ => rfl) (fun _ _ => rfl) .x (fun _ _ hp => hp.elim) fun b' o hb' => .inl (h.fut b' o hb')⟩
  subst e
  exact absurd ⟨m, hi, hin o h1 h2⟩ hn
theorem Rel.frz {F : Fr0} {N : Nat} {g : Gh} {env : Env} {mem : Mem} {a : Act} {w : World} {i : Nat} {cs cs' : List V} (h : Rel F N g env mem a w) (hi : aget mem i = some (.b cs)) (hb : V.bare.go cs = some cs') : ∃ g', Rel F N g' (frzE i cs' env) ((i, .x) :: mem) a w := by
  obtain ⟨b, off, hbx, hlt, hB⟩ := h.mem.box hi
  obtain ⟨hl, hbare⟩ := bare_go hb
  obtain ⟨hev, h1, h2⟩ := h.mem.frz h.kept (n := cs.length) hi fun o q1 q2 => ⟨off, hbx, q1, q2⟩
  have hq : ∀ o, Rep w (g.frz b off cs.length) (.q (cs'.drop o)) (.pointer (some ⟨b, off + o, none⟩)) := fun o => by
    obtain ⟨xs, hxl, hx⟩ := cells_choose (p := fun j x => w.cell? ⟨b, off + j, none⟩ = some x ∧ ∀ u, cs[j]? = some u → Rep w g u x) cs.length fun j hj => by
      obtain ⟨_, _, x, hc, hr⟩ := hB.at_ j cs[j] (List.getElem?_eq_getElem hj)
      exact ⟨x, hc, fun u hu => by rw [List.getElem?_eq_getElem hj] at hu; cases hu; exact hr⟩
    have h0 : Rep w (g.frz b off cs.length) (.q cs') (.pointer (some ⟨b, off, none⟩)) := by
      refine .q (fun j => xs.getD j undef) (fun u hu => ?_) (fun j u hj => ?_) (fun j u hj => ?_)
      · obtain ⟨j, hj⟩ := List.getElem?_of_mem hu
        obtain ⟨u0, hu0, hb0⟩ := hbare j u hj
        rw [bare_one hb0]; exact hB.one u0 (List.mem_of_getElem? hu0)
      · have hj' : j < cs.length := by have := (List.getElem?_eq_some_iff.1 hj).1; omega
        have hxj : xs[j]? = some xs[j] := List.getElem?_eq_getElem (by omega)
        refine ⟨hlt, .inr ⟨rfl, by omega, by omega⟩, ?_⟩
        rw [List.getD_eq_getElem?_getD, hxj]
        exact (hx j _ hxj).1
      · obtain ⟨u0, hu0, hb0⟩ := hbare j u hj
        have hj' : j < cs.length := (List.getElem?_eq_some_iff.1 hu0).1
        have hxj : xs[j]? = some xs[j] := List.getElem?_eq_getElem (by omega)
        rw [List.getD_eq_getElem?_getD, hxj]
        exact (((hx j _ hxj).2 u0 hu0).to_bare hb0).mono hev.bare
    exact rep_q_drop o h0
  refine ⟨g.frz b off cs.length, fun t v ht => ?_, h1, h2, h.defers, h.size, h.big⟩
  obtain ⟨u, hu, rfl⟩ := frzE_get ht
  obtain ⟨x, hx, hr⟩ := h.env t u hu
  refine ⟨x, hx, ?_⟩
  cases u with
  | p j o' =>
    simp only [V.frz]
    cases hji : Nat.beq j i with
    | false => exact hr.mono hev
    | true =>
      obtain rfl := Nat.eq_of_beq_eq_true hji
      cases hr with
      | p hp =>
        rw [hbx] at hp; cases hp
        exact hq o'
  | _ => exact hr.mono hev
theorem LC.same {P : Program} {F : Fr0} {N : Nat} {Q : LQ} {env : Env} {mem : Mem} {c : Code} (h : LC P F N c Q env mem) : LC P F N c Q env mem := h
/-- From now on the box i stays as it is. -/
theorem LC.freeze {P : Program} {F : Fr0} {N : Nat} {Q : LQ} {env : Env} {mem : Mem} {c : Code} (i : Nat) {cs cs' : List V} (hi : aget mem i = some (.b cs)) (hb : V.bare.go cs = some cs') (h : LC P F N c Q (frzE i cs' env) ((i, .x) :: mem)) : LC P F N c Q env mem := ⟨fun F0 hx _ a w hr => by
  obtain ⟨g', hr'⟩ := hr.frz hi hb
  exact h.go F0 hx g' a w hr'⟩
end Lf
end Go.Proofs.YtgbgplijpomkeaaDoor

/- Contracts with other numbers for what is lent and for what is new. -/
namespace Go.Proofs.YtgbgplijpomkeaaDoor
open Go.RowKit Rg
namespace Lf
/-- A renumbering. -/
structure Pm where
  f : Nat → Nat
  g : Nat → Nat
  gf : ∀ i, g (f i) = i
  fg : ∀ i, f (g i) = i
def Pm.inv (ρ : Pm) : Pm := ⟨ρ.g, ρ.f, ρ.fg, ρ.gf⟩
theorem Pm.inj (ρ : Pm) {i j : Nat} (h : ρ.f i = ρ.f j) : i = j := by rw [← ρ.gf i, h, ρ.gf]
def swapF (a b i : Nat) : Nat := if i = a then b else if i = b then a else i
theorem swap_swap (a b i : Nat) : swapF a b (swapF a b i) = i := by unfold swapF; (repeat' split) <;> omega
def Pm.comp (ρ τ : Pm) : Pm := ⟨fun i => ρ.f (τ.f i), fun i => τ.g (ρ.g i), fun i => by rw [ρ.gf, τ.gf], fun i => by rw [τ.fg, ρ.fg]⟩
def Pm.swap (a b : Nat) : Pm := ⟨swapF a b, swapF a b, swap_swap a b, swap_swap a b⟩
theorem exists_pm : ∀ (ks is : List Nat), ks.Nodup → is.Nodup → ks.length = is.length → ∃ ρ : Pm, ks.map ρ.f = is
  | [], [], _, _, _ => ⟨⟨id, id, fun _ => rfl, fun _ => rfl⟩, rfl⟩
  | [], _ :: _, _, _, h => by simp at h
  | _ :: _, [], _, _, h => by simp at h
  | k :: ks, i :: is, hk, hi, h => by
    obtain ⟨ρ, hρ⟩ := exists_pm ks is (List.nodup_cons.1 hk).2 (List.nodup_cons.1 hi).2 (by simpa using h)
    refine ⟨(Pm.swap (ρ.f k) i).comp ρ, ?_⟩
    rw [List.map_cons]
    congr 1
    · simp [Pm.comp, Pm.swap, swapF]
    · rw [← hρ]
      refine List.map_congr_left fun j hj => ?_
      have h1 : ρ.f j ≠ ρ.f k := fun e => (List.nodup_cons.1 hk).1 (ρ.inj e ▸ hj)
      have h2 : ρ.f j ≠ i := fun e => (List.nodup_cons.1 hi).1 (by rw [← e, ← hρ]; exact List.mem_map_of_mem hj)
      simp [Pm.comp, Pm.swap, swapF, h1, h2]

def V.ren (ρ : Nat → Nat) : V → V
  | .a cs => .a (go ρ cs)
  | .t cs => .t (go ρ cs)
  | .s (some r) es => .s (some (ρ r)) es
  | .p b off => .p (ρ b) off
  | .sb b off n cap => .sb (ρ b) off n cap
  | .f fn fi ca => .f fn (go ρ fi) (go ρ ca)
  | .i T v => .i T (v.ren ρ)
  | .w b gen sz off n => .w (ρ b) gen sz off n
  | .pw b gen off => .pw (ρ b) gen off
  | .mp b => .mp (ρ b)
  | .y b => .y (ρ b)
  | v => v
where go (ρ : Nat → Nat) : List V → List V
  | [] => []
  | v :: r => v.ren ρ :: go ρ r
theorem ren_go {ρ : Nat → Nat} (cs : List V) : V.ren.go ρ cs = cs.map (V.ren ρ) := by
  induction cs with
  | nil => rfl
  | cons v r ih => rw [V.ren.go, ih, List.map_cons]
theorem ren_one {ρ : Nat → Nat} {v : V} : (v.ren ρ).one = v.one := by
  cases v with
  | s o es => cases o <;> rfl
  | _ => rfl
theorem ren_inv (ρ : Pm) (v : V) : (v.ren ρ.f).ren ρ.g = v := by
  induction v using V.rec (motive_2 := fun l => V.ren.go ρ.g (V.ren.go ρ.f l) = l) with
  | k v => rfl
  | a cs ih => simp only [V.ren, ih]
  | t cs ih => simp only [V.ren, ih]
  | s o es => cases o with
    | none => rfl
    | some r => simp only [V.ren, ρ.gf]
  | nil => rfl
  | p b off => simp only [V.ren, ρ.gf]
  | sb b off n cap => simp only [V.ren, ρ.gf]
  | q cs => rfl
  | f fn fi ca h1 h2 => simp only [V.ren, h1, h2]
  | i T v ih => simp only [V.ren, ih]
  | w b gen sz off n => simp only [V.ren, ρ.gf]
  | pw b gen off => simp only [V.ren, ρ.gf]
  | mp b => simp only [V.ren, ρ.gf]
  | y b => simp only [V.ren, ρ.gf]
  | cons v l h1 h2 => simp only [V.ren.go, h1, h2]
  | _ => rfl
def M.ren (ρ : Nat → Nat) : M → M
  | .b cs => .b (cs.map (V.ren ρ))
  | other => other
theorem mren_inv (ρ : Pm) (m : M) : (m.ren ρ.f).ren ρ.g = m := by
  cases m with
  | b cs => simp only [M.ren, List.map_map]; congr 1; exact (List.map_congr_left fun v _ => ren_inv ρ v).trans (List.map_id cs)
  | _ => rfl
def Mem.ren (ρ : Nat → Nat) (m : List (Nat × M)) : Mem := m.map fun x => (ρ x.1, x.2.ren ρ)
theorem memren_inv (ρ : Pm) (m : Mem) : Mem.ren ρ.g (Mem.ren ρ.f m) = m := by
  simp only [Mem.ren, List.map_map]
  exact (List.map_congr_left fun x _ => by simp [ρ.gf, mren_inv]).trans (List.map_id m)
theorem aget_ren (ρ : Pm) (m : Mem) (i : Nat) : aget (Mem.ren ρ.f m) (ρ.f i) = (aget m i).map (M.ren ρ.f) := by
  induction m with
  | nil => rfl
  | cons x r ih =>
    obtain ⟨n, u⟩ := x
    simp only [Mem.ren, List.map_cons, aget_cons]
    by_cases h : n = i
    · subst h; simp
    · rw [if_neg h, if_neg fun e => h (ρ.inj e)]; exact ih
def Gh.pull (ρ : Nat → Nat) (g : Gh) : Gh := ⟨g.S, fun i => g.bx (ρ i), fun i => g.rw (ρ i)⟩
def Fr0.pull (ρ : Nat → Nat) (F : Fr0) : Fr0 := ⟨F.w0, F.S0, F.B, fun i => F.bx0 (ρ i), fun i => F.rw0 (ρ i), F.D, F.ro, F.lm⟩
theorem pull_inv (ρ : Pm) (g : Gh) : (g.pull ρ.g).pull ρ.f = g := by simp [Gh.pull, ρ.gf]
theorem pull_inv' (ρ : Pm) (g : Gh) : (g.pull ρ.f).pull ρ.g = g := by simp [Gh.pull, ρ.fg]
theorem rep_ren {w : World} {ρ : Nat → Nat} {g0 : Gh} {v : V} {x : Value} (h : Rep w g0 v x) : ∀ {g : Gh}, g0 = g.pull ρ → Rep w g (v.ren ρ) x := by
  induction h with
  | k v => intro g _; exact .k v
  | a hl h1 _ ih =>
    intro g hg
    simp only [V.ren, ren_go]
    refine .a (by simpa using hl) (fun u hu => ?_) fun j u x hj hx => ?_
    · obtain ⟨u0, hu0, rfl⟩ := List.mem_map.1 hu; rw [ren_one]; exact h1 u0 hu0
    · rw [List.getElem?_map] at hj
      obtain ⟨u0, hu0, rfl⟩ := Option.map_eq_some_iff.1 hj
      exact ih j u0 x hu0 hx hg
  | t hl _ ih =>
    intro g hg
    simp only [V.ren, ren_go]
    refine .t (by simpa using hl) fun j u x hj hx => ?_
    rw [List.getElem?_map] at hj
    obtain ⟨u0, hu0, rfl⟩ := Option.map_eq_some_iff.1 hj
    exact ih j u0 x hu0 hx hg
  | nil => intro g _; exact .nil
  | @se g' o a ht =>
    intro g hg
    subst hg
    cases o with
    | none => exact .se a fun _ h => by cases h
    | some r => exact .se a fun r' h => by cases h; exact ht r rfl
  | @s0 g' o ht =>
    intro g hg
    subst hg
    cases o with
    | none => exact .s0 fun _ h => by cases h
    | some r => exact .s0 fun r' h => by cases h; exact ht r rfl
  | @s g' o es b off cap size xs hn hm hp hs hx hc ht _ =>
    intro g hg
    subst hg
    cases o with
    | none => exact .s xs hn hm hp hs hx hc fun _ h => by cases h
    | some r => exact .s xs hn hm hp hs hx hc fun r' h => by cases h; exact ht r rfl
  | p h => intro g hg; subst hg; exact .p h
  | sb h => intro g hg; subst hg; exact .sb h
  | q xs h1 hx hc _ => intro g hg; subst hg; exact .q xs h1 hx hc
  | f h1 h2 _ _ ih1 ih2 =>
    intro g hg
    simp only [V.ren, ren_go]
    refine .f (by simpa using h1) (by simpa using h2) (fun j u x hj hx => ?_) fun j u x hj hx => ?_
    · rw [List.getElem?_map] at hj
      obtain ⟨u0, hu0, rfl⟩ := Option.map_eq_some_iff.1 hj
      exact ih1 j u0 x hu0 hx hg
    · rw [List.getElem?_map] at hj
      obtain ⟨u0, hu0, rfl⟩ := Option.map_eq_some_iff.1 hj
      exact ih2 j u0 x hu0 hx hg
  | i _ ih => intro g hg; exact .i (ih hg)
  | w h => intro g hg; subst hg; exact .w h
  | pw h => intro g hg; subst hg; exact .pw h
  | mp h => intro g hg; subst hg; exact .mp h
  | y h => intro g hg; subst hg; exact .y h
theorem rep_pull {w : World} (ρ : Pm) {g : Gh} {v : V} {x : Value} (h : Rep w g (v.ren ρ.f) x) : Rep w (g.pull ρ.f) v x := by
  have := rep_ren (ρ := ρ.g) h (g := g.pull ρ.f) (pull_inv' ρ g).symm
  rwa [ren_inv] at this
theorem fp_pull {ρ : Nat → Nat} {g : Gh} {i b o : Nat} {m : M} : fp (g.pull ρ) i m b o ↔ fp g (ρ i) (m.ren ρ) b o := by
  cases m <;> simp only [fp, M.ren, Gh.pull, List.length_map]
theorem obj_pull {w : World} (ρ : Pm) {g : Gh} {i : Nat} {m : M} (h : ObjAt g w (ρ.f i) (m.ren ρ.f)) : ObjAt (g.pull ρ.f) w i m := by
  cases m with
  | b cs =>
    cases h with
    | b hg hb h =>
      refine .b hg hb ⟨fun u hu => ?_, fun j u hj => ?_⟩
      · have := h.one _ (List.mem_map_of_mem hu); rwa [ren_one] at this
      · obtain ⟨a1, a2, x, a3, a4⟩ := h.at_ j (u.ren ρ.f) (by rw [List.getElem?_map, hj]; rfl)
        exact ⟨a1, a2, x, a3, rep_pull ρ a4⟩
  | r => cases h with | r hg h => exact .r hg ⟨h.pos, h.own, h.free⟩
  | w => cases h with | w hg h => exact .w hg ⟨h.pos, h.cells, h.own, h.free⟩
  | m => cases h with | m hg h => exact .m hg ⟨h.own, h.free⟩
  | o => cases h with | o hg h hS => exact .o hg h hS
  | x => exact .x
theorem relM_pull {w : World} (ρ : Pm) {F : Fr0} {g : Gh} {mem : Mem} (h : RelM F g (Mem.ren ρ.f mem) w) : RelM (F.pull ρ.f) (g.pull ρ.f) mem w := by
  have hag : ∀ i m, aget mem i = some m → aget (Mem.ren ρ.f mem) (ρ.f i) = some (m.ren ρ.f) := fun i m hi => by rw [aget_ren, hi]; rfl
  refine ⟨fun i m hi => obj_pull ρ (h.ob _ _ (hag i m hi)), fun i m b o hi hp => h.wr _ _ b o (hag i m hi) (fp_pull.1 hp), fun i j m n b o hij hi hj hp hq => h.dj _ _ _ _ b o (fun e => hij (ρ.inj e)) (hag i m hi) (hag j n hj) (fp_pull.1 hp) (fp_pull.1 hq), fun i hi => h.nbx (ρ.f i) (by rw [aget_ren, hi]; rfl), fun i hi => h.nrw (ρ.f i) (by rw [aget_ren, hi]; rfl), h.fut,
    ⟨h.loc.tab, fun i z hz => h.loc.bx _ z hz, fun i a l c hr => h.loc.rw _ a l c hr⟩⟩
theorem lent_pull {w : World} (ρ : Pm) {g : Gh} {mi : Mem} : (lentF g (Mem.ren ρ.f mi) w).pull ρ.f = lentF (g.pull ρ.f) mi w := by
  have : (lentF g (Mem.ren ρ.f mi) w).B = (lentF (g.pull ρ.f) mi w).B := by
    funext b o
    apply propext
    constructor
    · rintro ⟨i, m, hi, hp⟩
      have h1 : i = ρ.f (ρ.g i) := (ρ.fg i).symm
      rw [h1, aget_ren] at hi
      obtain ⟨m0, h2, rfl⟩ := Option.map_eq_some_iff.1 hi
      exact ⟨ρ.g i, m0, h2, fp_pull.2 (by rw [ρ.fg]; exact hp)⟩
    · rintro ⟨i, m, hi, hp⟩
      exact ⟨ρ.f i, m.ren ρ.f, by rw [aget_ren, hi]; rfl, fp_pull.1 hp⟩
  unfold Fr0.pull
  rw [this]
  rfl
def Out.ren (ρ : Nat → Nat) : Out → Out
  | .ret v => .ret (v.ren ρ)
  | .pan v => .pan (v.ren ρ)
theorem LM.ren {P : Program} {f : Nat} {args : List V} {mi : Mem} {R : Out → Mem → Prop} (h : LM P f args mi R) (ρ : Pm) : LM P f (args.map (V.ren ρ.f)) (Mem.ren ρ.f mi) fun o m => ∃ o' m', R o' m' ∧ o = o'.ren ρ.f ∧ m = Mem.ren ρ.f m' := by
  refine ⟨h.ok, fun g w vals hm hl hr => ?_⟩
  have h1 := relM_pull ρ hm
  rw [lent_pull] at h1
  refine Calls.mono (h.go (g.pull ρ.f) w vals h1 (by simpa using hl) fun j u x hj hx => rep_pull ρ (hr j _ x (by rw [List.getElem?_map, hj]; rfl) hx)) ?_
  rintro e w' ⟨o, mo, g0, hR, he, hm', hk, hat⟩
  have hF : (lentF (g.pull ρ.f) mi w).pull ρ.g = lentF g (Mem.ren ρ.f mi) w := by
    rw [← lent_pull]
    simp [Fr0.pull, ρ.fg]
  have hm2 : RelM (lentF g (Mem.ren ρ.f mi) w) (g0.pull ρ.g) (Mem.ren ρ.f mo) w' := by
    have := relM_pull ρ.inv (F := lentF (g.pull ρ.f) mi w) (g := g0) (mem := Mem.ren ρ.f mo) (w := w') (by
      have e : Mem.ren ρ.inv.f (Mem.ren ρ.f mo) = mo := memren_inv ρ mo
      rw [e]; exact hm')
    have e2 : (lentF (g.pull ρ.f) mi w).pull ρ.inv.f = lentF g (Mem.ren ρ.f mi) w := hF
    rw [e2] at this
    exact this
  have hB : (lentF (g.pull ρ.f) mi w).B = (lentF g (Mem.ren ρ.f mi) w).B := by rw [← hF]; rfl
  refine ⟨o.ren ρ.f, Mem.ren ρ.f mo, g0.pull ρ.g, ⟨o, mo, hR, rfl, rfl⟩, ⟨he.size, he.st, fun i z hz => he.bx (ρ.g i) z (by simpa [Gh.pull, ρ.fg] using hz), fun r a l c hr => he.rw (ρ.g r) a l c (by simpa [Gh.pull, ρ.fg] using hr)⟩, hm2,
    ⟨hk.os, hk.tape, hk.output, hk.size, by rw [← hB]; exact hk.blk, by rw [← hB]; exact hk.cell, by rw [← hB]; exact hk.S1, hk.S2, hk.cellS⟩, ?_⟩
  cases o with
  | ret v => obtain ⟨x, e1, e2⟩ := hat; exact ⟨x, e1, rep_ren e2 (pull_inv ρ g0).symm⟩
  | pan v => obtain ⟨x, e1, e2⟩ := hat; exact ⟨x, e1, rep_ren e2 (pull_inv ρ g0).symm⟩
/-- A contract at given numbers is one at any numbers. -/
theorem LM.gen {P : Program} {f : Nat} {args args' : List V} {mi mi' mo mo' : Mem} {o o' : Out} (ks is : List Nat) (hk : ks.Nodup) (hi : is.Nodup) (hl : ks.length = is.length) (h : LM P f args mi fun q m => q = o ∧ m = mo)
    (he : ∀ ρ : Pm, ks.map ρ.f = is → args.map (V.ren ρ.f) = args' ∧ Mem.ren ρ.f mi = mi' ∧ o.ren ρ.f = o' ∧ Mem.ren ρ.f mo = mo') : LM P f args' mi' fun q m => q = o' ∧ m = mo' := by
  obtain ⟨ρ, hρ⟩ := exists_pm ks is hk hi hl
  obtain ⟨e1, e2, e3, e4⟩ := he ρ hρ
  have := h.ren ρ
  rw [e1, e2] at this
  exact this.mono fun q m ⟨o1, m1, ⟨h1, h2⟩, h3, h4⟩ => ⟨by rw [h3, h1, e3], by rw [h4, h2, e4]⟩
theorem ren_k {ρ : Nat → Nat} {v : Value} : (V.k v).ren ρ = .k v := rfl
theorem ren_ks {ρ : Nat → Nat} {cs : List V} (h : ∀ u ∈ cs, ∃ x, u = .k x) : cs.map (V.ren ρ) = cs := by
  refine (List.map_congr_left fun u hu => ?_).trans (List.map_id cs)
  obtain ⟨x, rfl⟩ := h u hu
  rfl
end Lf
end Go.Proofs.YtgbgplijpomkeaaDoor

/- The lifted walk: tests that split it, calls to which memory is lent; pointers that are looked at; arrays out of slices. -/
namespace Go.Proofs.YtgbgplijpomkeaaDoor
open Go.RowKit Rg
namespace Lf
/-- What a call meets is as it must be. -/
def TPre (mi : Mem) : Mem → Mem → Prop
  | [], _ => True
  | (i, _) :: r, mem => aget mem i = aget mi i ∧ TPre mi r mem
theorem tpre_callT {mi mo mem : Mem} (h : TPre mi mo mem) : tpre (callT mi mo) mem := by
  intro i m m' hi
  induction mo with
  | nil => cases hi
  | cons x r ih =>
    obtain ⟨j, n⟩ := x
    simp only [callT, List.map_cons, List.mem_cons] at hi
    rcases hi with hi | hi
    · cases hi; exact h.1
    · exact ih h.2 hi
section
variable {P : Program} {F : Fr0} {N : Nat} {Q : LQ} {env : Env} {mem : Mem} {ops : Array Oper} {o : Oper} {rs : List Oper} {v : V} {d : Nat}
/-- A test that is not decided parts the walk. -/
theorem LS.ppD {p : Prop} {dp : Decidable p} (hg : gd ops env o = some true) (hds : o.dst = some d) (h : Does P o env (.k (.bool (decide p))) []) (hd : Nat.blt d N = true) (h1 : p → LS P F N ops rs Q ((d, .k (.bool true)) :: env) mem) (h2 : ¬ p → LS P F N ops rs Q ((d, .k (.bool false)) :: env) mem) : LS P F N ops (o :: rs) Q env mem := by
  by_cases hp : p
  · rw [decide_eq_true hp] at h; exact LS.pp hg hds h hd (h1 hp)
  · rw [decide_eq_false hp] at h; exact LS.pp hg hds h hd (h2 hp)
theorem LS.ppB {b : Bool} (hg : gd ops env o = some true) (hds : o.dst = some d) (h : Does P o env (.k (.bool b)) []) (hd : Nat.blt d N = true) (h1 : b = true → LS P F N ops rs Q ((d, .k (.bool true)) :: env) mem) (h2 : b = false → LS P F N ops rs Q ((d, .k (.bool false)) :: env) mem) : LS P F N ops (o :: rs) Q env mem := by
  cases b
  · exact LS.pp hg hds h hd (h2 rfl)
  · exact LS.pp hg hds h hd (h1 rfl)
/-- A value that is told otherwise. -/
theorem LS.ppV {u : V} (hg : gd ops env o = some true) (hds : o.dst = some d) (h : Does P o env u []) (hv : u = v) (hd : Nat.blt d N = true) (hK : LS P F N ops rs Q ((d, v) :: env) mem) : LS P F N ops (o :: rs) Q env mem := by subst hv; exact LS.pp hg hds h hd hK
/-- A call to which memory is lent. -/
theorem LS.cm {mi mo : Mem} (hg : gd ops env o = some true) (hds : o.dst = some d) (h : Does P o env v (callT mi mo)) (ht : TPre mi mo mem) (hd : Nat.blt d N = true) (hK : LS P F N ops rs Q ((d, v) :: env) (mo ++ mem)) : LS P F N ops (o :: rs) Q env mem :=
  LS.step hg h (tpre_callT ht) (by rw [hds]; exact hd) (by rw [hds, tset_call]; exact hK)
theorem LS.cz {mi mo : Mem} (hg : gd ops env o = some true) (hds : o.dst = none) (h : Does P o env v (callT mi mo)) (ht : TPre mi mo mem) (hK : LS P F N ops rs Q env (mo ++ mem)) : LS P F N ops (o :: rs) Q env mem :=
  LS.step hg h (tpre_callT ht) (by rw [hds]; rfl) (by rw [hds, tset_call]; exact hK)
theorem LS.pa {t : Tch} (hg : gd ops env o = some true) (h : Pans P o env v t) (ht : tpre t mem) (hQ : Q (.pan v) env (tset t mem)) : LS P F N ops (o :: rs) Q env mem := LS.pan hg h ht hQ
theorem LS.pc {mi mo : Mem} (hg : gd ops env o = some true) (h : Pans P o env v (callT mi mo)) (ht : TPre mi mo mem) (hQ : Q (.pan v) env (mo ++ mem)) : LS P F N ops (o :: rs) Q env mem := LS.pan hg h (tpre_callT ht) (by rw [tset_call]; exact hQ)
end
section
variable {P : Program} {N : Nat} {ops : Array Oper} {chk : List (Nat × Tch) → Bool} {K : Env → Mem → Prop} {acc : List (Nat × Tch)} {env : Env} {mem : Mem} {i d : Nat} {o : Oper} {rs : List (Nat × Oper)} {v : V}
theorem DR.ppD {p : Prop} {dp : Decidable p} (hg : gd ops env o = some true) (hds : o.dst = some d) (h : Does P o env (.k (.bool (decide p))) []) (hd : Nat.blt d N = true) (h1 : p → DR P N ops chk K rs ((i, []) :: acc) ((d, .k (.bool true)) :: env) mem) (h2 : ¬ p → DR P N ops chk K rs ((i, []) :: acc) ((d, .k (.bool false)) :: env) mem) : DR P N ops chk K ((i, o) :: rs) acc env mem := by
  by_cases hp : p
  · rw [decide_eq_true hp] at h; exact DR.pp hg hds h hd (h1 hp)
  · rw [decide_eq_false hp] at h; exact DR.pp hg hds h hd (h2 hp)
theorem DR.ppB {b : Bool} (hg : gd ops env o = some true) (hds : o.dst = some d) (h : Does P o env (.k (.bool b)) []) (hd : Nat.blt d N = true) (h1 : b = true → DR P N ops chk K rs ((i, []) :: acc) ((d, .k (.bool true)) :: env) mem) (h2 : b = false → DR P N ops chk K rs ((i, []) :: acc) ((d, .k (.bool false)) :: env) mem) : DR P N ops chk K ((i, o) :: rs) acc env mem := by
  cases b
  · exact DR.pp hg hds h hd (h2 rfl)
  · exact DR.pp hg hds h hd (h1 rfl)
theorem DR.ppV {u : V} (hg : gd ops env o = some true) (hds : o.dst = some d) (h : Does P o env u []) (hv : u = v) (hd : Nat.blt d N = true) (hK : DR P N ops chk K rs ((i, []) :: acc) ((d, v) :: env) mem) : DR P N ops chk K ((i, o) :: rs) acc env mem := by subst hv; exact DR.pp hg hds h hd hK
theorem DR.cm {mi mo : Mem} (hg : gd ops env o = some true) (hds : o.dst = some d) (h : Does P o env v (callT mi mo)) (ht : TPre mi mo mem) (hd : Nat.blt d N = true) (hK : DR P N ops chk K rs ((i, callT mi mo) :: acc) ((d, v) :: env) (mo ++ mem)) : DR P N ops chk K ((i, o) :: rs) acc env mem :=
  .run (by rw [hds]; exact hd) hg h (tpre_callT ht) (by rw [hds, tset_call]; exact hK)
theorem DR.cz {mi mo : Mem} (hg : gd ops env o = some true) (hds : o.dst = none) (h : Does P o env v (callT mi mo)) (ht : TPre mi mo mem) (hK : DR P N ops chk K rs ((i, callT mi mo) :: acc) env (mo ++ mem)) : DR P N ops chk K ((i, o) :: rs) acc env mem :=
  .run (by rw [hds]; rfl) hg h (tpre_callT ht) (by rw [hds, tset_call]; exact hK)
end
section
variable {P : Program} {o : Oper} {env : Env} {v : V}
/-- It is a pointer or a function that there is. -/
def V.some' : V → Bool
  | .p .. | .q _ | .pw .. | .f (.func _) _ _ | .i .. => true
  | _ => false
theorem Does.nilCheck {i off : Nat} {x : Operand} (ho : o.op = .nilCheck x) (hx : evo env x = some (.p i off)) : Does P o env (.p i off) [] :=
  .pure fun F g a w mem hr _ => by
    have h := hr x (by simp [ho, Op.operands]) _ hx
    refine ⟨a.eval x, ?_, h⟩
    generalize hy : a.eval x = y at h
    cases h
    simp [execOp, ho, hy]
theorem Does.nilCheckQ {x : Operand} {cs : List V} (ho : o.op = .nilCheck x) (hx : evo env x = some (.q cs)) : Does P o env (.q cs) [] :=
  .pure fun F g a w mem hr _ => by
    have h := hr x (by simp [ho, Op.operands]) _ hx
    refine ⟨a.eval x, ?_, h⟩
    generalize hy : a.eval x = y at h
    cases h
    simp [execOp, ho, hy]
theorem Does.nilCheckF {x : Operand} {fx : Nat} {fi ca : List V} (ho : o.op = .nilCheck x) (hx : evo env x = some (.f (.func fx) fi ca)) : Does P o env (.f (.func fx) fi ca) [] :=
  .pure fun F g a w mem hr _ => by
    have h := hr x (by simp [ho, Op.operands]) _ hx
    refine ⟨a.eval x, ?_, h⟩
    generalize hy : a.eval x = y at h
    cases h
    simp [execOp, ho, hy]
/-- A slice taken for an array. -/
theorem Does.arrAt {T n e : Nat} {x : Operand} {t : Option Nat} {es : List V} (X : TOk P) {ti : TI} (ho : o.op = .sliceToArrayPointer T x) (hx : evo env x = some (.s t es)) (hT : aget X.tab T = some ti) (hd : ti.d = .arr n e) (hn : n ≤ es.length) (h0 : Nat.blt 0 n = true) : Does P o env (.q (es.flatMap V.cells)) [] :=
  .pure fun F g a w mem hr _ => by
    have h := hr x (by simp [ho, Op.operands]) _ hx
    have h0' : 0 < n := Nat.le_of_ble_eq_true h0
    generalize hy : a.eval x = y at h
    cases h with
    | s0 => simp at hn; omega
    | se => simp at hn; omega
    | @s _ _ _ b off cap size xs h1 hm hp hs hx' hc ht =>
      have hnl : ¬ es.length < n := by omega
      refine ⟨.pointer (some ⟨b, off, none⟩), ?_, .q xs (fun u hu => ?_) hx' hc⟩
      · simp [execOp, ho, hy, Instr.arrayAt, run_underlying ((X.get hT).arr hd), hnl]
      · obtain ⟨e, he, hu⟩ := List.mem_flatMap.1 hu
        exact (hs e he).2 u hu
theorem Does.arrAtSb {T n e b off m cap : Nat} {x : Operand} (X : TOk P) {ti : TI} (ho : o.op = .sliceToArrayPointer T x) (hx : evo env x = some (.sb b off m cap)) (hT : aget X.tab T = some ti) (hd : ti.d = .arr n e) (hn : n ≤ m) : Does P o env (.p b off) [] :=
  .pure fun F g a w mem hr _ => by
    have h := hr x (by simp [ho, Op.operands]) _ hx
    generalize hy : a.eval x = y at h
    cases h with
    | @sb _ _ _ _ _ b' bo hp =>
      have hnl : ¬ m < n := by omega
      refine ⟨.pointer (some ⟨b', bo + off, none⟩), ?_, .p hp⟩
      simp [execOp, ho, hy, Instr.arrayAt, run_underlying ((X.get hT).arr hd), hnl]
end
end Lf
end Go.Proofs.YtgbgplijpomkeaaDoor

/- The call's own boxes: a list of blocks with what they hold, carried through allocations, stores and calls. -/
namespace Go.Proofs.YtgbgplijpomkeaaDoor
open Go.RowKit Rp Rg Ops
namespace Mm
abbrev Ent := Nat × TypeId × Array Value

/-- Since 'w0' nothing old has turned; the call's own blocks 'L' hold what is listed. -/
structure St (w0 w : World) (L : List Ent) : Prop where
  below : Below w0.heap.size w0 w
  mem : ∀ x ∈ L, w.heap[x.1]? = some (.cells x.2.2 x.2.1 (0, 0))
  base : ∀ x ∈ L, w0.heap.size ≤ x.1
  nodup : (L.map (·.1)).Nodup

theorem St.start (w : World) : St w w [] := ⟨Below.refl _ _, by simp, by simp, by simp⟩
theorem St.ext {w0 w w' : World} {L : List Ent} (h : St w0 w L) (hx : Ext w w') : St w0 w' L :=
  ⟨h.below.trans (Below.mono hx h.below.size), fun x hxm => by
    have hm := h.mem x hxm
    rw [hx.block x.1 (Array.getElem?_eq_some_iff.1 hm).1]; exact hm, h.base, h.nodup⟩
theorem St.drew {w0 w : World} {L : List Ent} (h : St w0 w L) : St w0 w.drew L := h.ext (Below.drew (Below.refl _ w))
theorem St.alloc {w0 w : World} {L : List Ent} (h : St w0 w L) (cs : Array Value) (T : TypeId) : St w0 (w.alloc (.cells cs T)) ((w.heap.size, T, cs) :: L) := by
  have hlt : ∀ x ∈ L, x.1 < w.heap.size := fun x hx => (Array.getElem?_eq_some_iff.1 (h.mem x hx)).1
  refine ⟨h.below.alloc h.below.size _, ?_, ?_, ?_⟩
  · intro x hx
    rcases List.mem_cons.1 hx with rfl | hx
    · exact heap_alloc_new w _
    · rw [heap_alloc_old w _ (hlt x hx)]; exact h.mem x hx
  · intro x hx
    rcases List.mem_cons.1 hx with rfl | hx
    · exact h.below.size
    · exact h.base x hx
  · simp only [List.map_cons, List.nodup_cons]
    refine ⟨fun hm => ?_, h.nodup⟩
    obtain ⟨x, hx, he⟩ := List.mem_map.1 hm
    have := hlt x hx
    omega
/-- The same, the new block's number spelled otherwise. -/
theorem St.alloc' {w0 w : World} {L : List Ent} (h : St w0 w L) (cs : Array Value) (T g : Nat) (hg : g = w.heap.size) : St w0 (w.alloc (.cells cs T)) ((g, T, cs) :: L) := by
  subst hg; exact h.alloc cs T

theorem St.at {w0 w : World} {L : List Ent} (h : St w0 w L) (i : Nat) {g T : Nat} {cs : Array Value} (hL : L[i]? = some (g, T, cs)) : w.heap[g]? = some (.cells cs T (0, 0)) :=
  h.mem _ (List.mem_of_getElem? hL)
theorem St.cell {w0 w : World} {L : List Ent} (h : St w0 w L) (i : Nat) {g T : Nat} {cs : Array Value} (hL : L[i]? = some (g, T, cs)) (j : Nat) {v : Value} (hv : cs[j]? = some v) : w.cell? ⟨g, j, none⟩ = some v := by
  rw [cell_of_row w g j cs T (0, 0) (h.at i hL)]; exact hv
theorem St.frozen {w0 w : World} {L : List Ent} (h : St w0 w L) (i : Nat) {g T : Nat} {cs : Array Value} (hL : L[i]? = some (g, T, cs)) (j : Nat) : w.frozen? ⟨g, j, none⟩ = false :=
  frozen_of_row w g j cs T (h.at i hL)
theorem St.lt {w0 w : World} {L : List Ent} (h : St w0 w L) (i : Nat) {g T : Nat} {cs : Array Value} (hL : L[i]? = some (g, T, cs)) : g < w.heap.size := (Array.getElem?_eq_some_iff.1 (h.at i hL)).1

theorem St.put {w0 w w' : World} {L : List Ent} (h : St w0 w L) (i : Nat) {g T : Nat} {cs : Array Value} (cs' : Array Value) (hL : L[i]? = some (g, T, cs))
    (h1 : w'.heap[g]? = some (.cells cs' T (0, 0))) (h2 : ∀ k, k ≠ g → w'.heap[k]? = w.heap[k]?) (h3 : w'.os = w.os ∧ w'.tape = w.tape ∧ w'.output = w.output ∧ w'.heap.size = w.heap.size) : St w0 w' (L.set i (g, T, cs')) := by
  have hb := h.base _ (List.mem_of_getElem? hL)
  obtain ⟨hi, hLi⟩ := List.getElem?_eq_some_iff.1 hL
  refine ⟨h.below.trans ⟨h3.1, h3.2.1, h3.2.2.1, by omega, fun k hk => h2 k (by simp only at hb; omega)⟩, ?_, ?_, ?_⟩
  · intro x hx
    obtain ⟨j, hj, rfl⟩ := List.getElem_of_mem hx
    rw [List.getElem_set]
    split
    · exact h1
    · rename_i hij
      have hj' : j < L.length := by simpa using hj
      have hne : L[j].1 ≠ g := by
        intro he
        have hn := h.nodup
        rw [List.nodup_iff_pairwise_ne, List.pairwise_iff_getElem] at hn
        have e1 : (L.map (·.1))[i]'(by simpa using hi) = g := by simp [hLi]
        have e2 : (L.map (·.1))[j]'(by simpa using hj') = g := by simp [he]
        rcases Nat.lt_or_gt_of_ne hij with hl | hl
        · exact hn i j (by simpa using hi) (by simpa using hj') hl (e1.trans e2.symm)
        · exact hn j i (by simpa using hj') (by simpa using hi) hl (e2.trans e1.symm)
      rw [h2 _ hne]
      exact h.mem _ (List.getElem_mem hj')
  · intro x hx
    rcases List.mem_or_eq_of_mem_set hx with hx | rfl
    · exact h.base x hx
    · exact hb
  · have e : (L.set i (g, T, cs')).map (·.1) = L.map (·.1) := by
      rw [List.map_set]
      apply List.ext_getElem
      · simp
      · intro k hk1 hk2
        rw [List.getElem_set]
        split
        · rename_i hik; subst hik; simp [hLi]
        · rfl
    rw [e]; exact h.nodup

theorem St.setCell {w0 w : World} {L : List Ent} (h : St w0 w L) (i : Nat) {g T : Nat} {cs : Array Value} (hL : L[i]? = some (g, T, cs)) (j : Nat) (v : Value) : St w0 (w.setCell ⟨g, j, none⟩ v) (L.set i (g, T, cs.setIfInBounds j v)) := by
  have hg := h.at i hL
  rw [setCell_eq_setRow w g j cs T (0, 0) v hg]
  exact h.put i _ hL (setRow_heap w g cs _ T _ hg) (fun k hk => setRow_other w g k _ hk) ⟨rfl, rfl, rfl, by simp⟩
theorem St.setRow {w0 w : World} {L : List Ent} (h : St w0 w L) (i : Nat) {g T : Nat} {cs : Array Value} (hL : L[i]? = some (g, T, cs)) (cs' : Array Value) : St w0 (w.setRow g cs') (L.set i (g, T, cs')) :=
  h.put i _ hL (setRow_heap w g cs _ T _ (h.at i hL)) (fun k hk => setRow_other w g k _ hk) ⟨rfl, rfl, rfl, by simp⟩

/-- A row written as it was. -/
theorem ext_setRow_same {w : World} {g T : Nat} {cs : Array Value} (hg : w.heap[g]? = some (.cells cs T (0, 0))) : Ext w (w.setRow g cs) :=
  ⟨rfl, rfl, rfl, by simp, fun k _ => by
    by_cases h : k = g
    · subst h; rw [setRow_heap w k cs cs T _ hg, hg]
    · exact setRow_other w g k cs h⟩

section
variable {P : Program}
/-- An array's or a struct's type of k cells. -/
def Agg (P : Program) (t k : Nat) : Prop := (∃ d, P.underlying t = some d ∧ (match d with | .struct _ | .array _ _ => true | _ => false) = true) ∧ (P.info? t).map (·.size) = some k

theorem run_ld {t k : Nat} (hA : Agg P t k) {w : World} {g off T : Nat} {cs : Array Value} (hg : w.heap[g]? = some (.cells cs T (0, 0))) (hk : off + k ≤ cs.size) :
    (loadVar t ⟨g, off, none⟩).run P w = .ok (.agg (cs.extract off (off + k))) w := by
  obtain ⟨⟨d, hu, hd⟩, hi⟩ := hA
  have hln : (cs.extract off (off + k)).toList.length = k := by simp; omega
  have hl : (loadCells ⟨g, off, none⟩ (cs.extract off (off + k)).toList.length).run P w = .ok (cs.extract off (off + k)).toList.toArray w :=
    run_loadCells_list (P := P) w ⟨g, off, none⟩ (cs.extract off (off + k)).toList (fun j v hv => by
      rw [Addr.add_lit, cell_of_row w g (off + j) cs T (0, 0) hg]
      rw [Array.getElem?_toList, Array.getElem?_extract] at hv
      split at hv
      · exact hv
      · cases hv)
  cases hq : P.info? t with
  | none => simp [hq] at hi
  | some i =>
    have hs : i.size = k := by simpa [hq] using hi
    have hagg : (isAgg t).run P w = .ok true w := by
      unfold isAgg
      rw [Sem.run_bind, run_underlying hu w]
      cases d <;> simp_all
    rw [hln] at hl
    simp only [Array.toArray_toList] at hl
    simp [loadVar, Sem.run_bind, hagg, sizeOf, typeInfo, hq, hs, hl]

theorem run_st {t k : Nat} (hA : (P.info? t).map (·.size) = some k) {w : World} {g off T : Nat} {cs vs : Array Value} (hg : w.heap[g]? = some (.cells cs T (0, 0))) (hk : off + k ≤ cs.size) (hv : vs.size = k) (h1 : ∀ v ∈ vs.toList, v.oneCell' = true) :
    (storeVar t ⟨g, off, none⟩ (.agg vs)).run P w = .ok () (w.setRow g (cs.toList.take off ++ vs.toList ++ cs.toList.drop (off + k)).toArray) := by
  have hst := run_storeCells_at P g off T vs.toList 0 cs w hg (by simp; omega) h1
  cases hq : P.info? t with
  | none => simp [hq] at hA
  | some i =>
    have hs : i.size = k := by simpa [hq] using hA
    simp only [Nat.add_zero, Array.length_toList, hv] at hst
    simp [storeVar, Value.cells, sizeOf, typeInfo, hq, hs, hv, hst]

variable {ops : Array Oper} {Q : Exit → Act → World → Prop} {a : Act} {rest : List Oper} {o : Oper} {w : World}

/-- A whole array, or a part of a struct's cells, is loaded. -/
theorem ld {t k : Nat} (hA : Agg P t k) (hgd : o.guard = none) (x : Operand) (ho : o.op = .load t x) {g off T : Nat} {cs : Array Value} (hx : a.eval x = .pointer (some ⟨g, off, none⟩)) (hg : w.heap[g]? = some (.cells cs T (0, 0))) (hk : off + k ≤ cs.size)
    (hK : wpList P ops Q rest (a.put o.dst (.agg (cs.extract off (off + k)))) w) : wpList P ops Q (o :: rest) a w := by
  refine wpList_plain hgd fun K hK' => ?_
  unfold Oper.wp execOp
  simp only [ho, hx, Instr.loadAt, Instr.sureAddr, Sem.run_bind, Sem.run_pure, Result.andThen_ok, run_ld hA hg hk]
  exact hK' _ _ hK
theorem ldAll {t k : Nat} (hA : Agg P t k) {cs : Array Value} (hgd : o.guard = none) (x : Operand) (ho : o.op = .load t x) {g T : Nat} (hx : a.eval x = .pointer (some ⟨g, 0, none⟩)) (hg : w.heap[g]? = some (.cells cs T (0, 0))) (hk : cs.size = k)
    (hK : wpList P ops Q rest (a.put o.dst (.agg cs)) w) : wpList P ops Q (o :: rest) a w :=
  ld hA hgd x ho hx hg (by omega) (by subst hk; simpa using hK)
/-- The same, of an operation that a guard lets through. -/
theorem wpList_wanted (hw : Region.wanted o (yielded ops a.tmps) = true) (h : ∀ K : Act → World → Prop, (∀ a w, wpList P ops Q rest a w → K a w) → o.wp P a w K Q) : wpList P ops Q (o :: rest) a w :=
  wpList_step fun K hK => by rw [if_pos hw]; exact h K hK
theorem ldAllW {t k : Nat} (hA : Agg P t k) {cs : Array Value} (hgd : Region.wanted o (yielded ops a.tmps) = true) (x : Operand) (ho : o.op = .load t x) {g T : Nat} (hx : a.eval x = .pointer (some ⟨g, 0, none⟩)) (hg : w.heap[g]? = some (.cells cs T (0, 0))) (hk : cs.size = k)
    (hK : wpList P ops Q rest (a.put o.dst (.agg cs)) w) : wpList P ops Q (o :: rest) a w := by
  refine wpList_wanted hgd fun K hK' => ?_
  unfold Oper.wp execOp
  subst hk
  have := run_ld hA (off := 0) hg (by omega)
  simp only [ho, hx, Instr.loadAt, Instr.sureAddr, Sem.run_bind, Sem.run_pure, Result.andThen_ok, this]
  exact hK' _ _ (by simpa using hK)
theorem st {t k : Nat} (hA : Agg P t k) (hgd : o.guard = none) (x y : Operand) (ho : o.op = .store t x y) {g off T : Nat} {cs vs : Array Value} (hx : a.eval x = .pointer (some ⟨g, off, none⟩)) (hy : a.eval y = .agg vs) (hg : w.heap[g]? = some (.cells cs T (0, 0)))
    (hk : off + k ≤ cs.size) (hv : vs.size = k) (h1 : ∀ v ∈ vs.toList, v.oneCell' = true)
    (hK : wpList P ops Q rest (a.put o.dst undef) (w.setRow g (cs.toList.take off ++ vs.toList ++ cs.toList.drop (off + k)).toArray)) : wpList P ops Q (o :: rest) a w := by
  refine wpList_plain hgd fun K hK' => ?_
  unfold Oper.wp execOp
  simp only [ho, hx, hy, Instr.storeAt, Instr.sureAddr, Sem.run_bind, Sem.run_pure, Result.andThen_ok, run_st hA.2 hg hk hv h1]
  exact hK' _ _ hK
theorem stAll {t k : Nat} (hA : Agg P t k) {cs vs : Array Value} (hgd : o.guard = none) (x y : Operand) (ho : o.op = .store t x y) {g T : Nat} (hx : a.eval x = .pointer (some ⟨g, 0, none⟩)) (hy : a.eval y = .agg vs) (hg : w.heap[g]? = some (.cells cs T (0, 0)))
    (hv : vs.size = k) (hc : cs.size = k) (h1 : ∀ v ∈ vs.toList, v.oneCell' = true) (hK : wpList P ops Q rest (a.put o.dst undef) (w.setRow g vs)) : wpList P ops Q (o :: rest) a w := by
  refine st hA hgd x y ho hx hy hg (by omega) hv h1 ?_
  rw [show cs.toList.drop (0 + k) = [] from by simp [hc]]
  simpa using hK

/-- In a piece that only reads: an operation whose value is known in every later world. -/
theorem qval {K : Act → Prop} {v : Value} (h : ∀ x : Lt w, (execOp a.eval o).run P x.v = .ok (.value v) x.v) (hK : K (a.put o.dst v)) : o.quiet P a (Cls w) K :=
  ⟨v, fun w' hw' => by obtain ⟨x, rfl⟩ := hw'; unfold Oper.quietAt; rw [h x]; exact ⟨rfl, rfl⟩, hK⟩
theorem qlist {C : World → Prop} {K : Act → Prop} (hg : o.guard = none) (h : ∀ K' : Act → Prop, (∀ a, wpQuiet P ops C K rest a → K' a) → o.quiet P a C K') : wpQuiet P ops C K (o :: rest) a :=
  wpQuiet_step fun K' hK' => by rw [if_pos (by simp [Region.wanted, hg])]; exact h K' hK'
theorem qld {K : Act → Prop} {t k : Nat} (hA : Agg P t k) (hgd : o.guard = none) (x : Operand) (ho : o.op = .load t x) {g off T : Nat} {cs : Array Value} (hx : a.eval x = .pointer (some ⟨g, off, none⟩)) (hg : w.heap[g]? = some (.cells cs T (0, 0))) (hk : off + k ≤ cs.size)
    (hK : wpQuiet P ops (Cls w) K rest (a.put o.dst (.agg (cs.extract off (off + k))))) : wpQuiet P ops (Cls w) K (o :: rest) a := by
  refine qlist hgd fun K' hK' => qval (fun y => ?_) (hK' _ hK)
  have hg' : y.v.heap[g]? = some (.cells cs T (0, 0)) := by rw [y.ext.block g (Array.getElem?_eq_some_iff.1 hg).1]; exact hg
  unfold execOp
  simp only [ho, hx, Instr.loadAt, Instr.sureAddr, Sem.run_bind, Sem.run_pure, Result.andThen_ok, run_ld hA hg' hk]
theorem qldAll {K : Act → Prop} {t k : Nat} (hA : Agg P t k) {cs : Array Value} (hgd : o.guard = none) (x : Operand) (ho : o.op = .load t x) {g T : Nat} (hx : a.eval x = .pointer (some ⟨g, 0, none⟩)) (hg : w.heap[g]? = some (.cells cs T (0, 0))) (hk : cs.size = k)
    (hK : wpQuiet P ops (Cls w) K rest (a.put o.dst (.agg cs))) : wpQuiet P ops (Cls w) K (o :: rest) a :=
  qld hA hgd x ho hx hg (by omega) (by subst hk; simpa using hK)

theorem qldAllW {K : Act → Prop} {t k : Nat} (hA : Agg P t k) {cs : Array Value} (hgd : Region.wanted o (yielded ops a.tmps) = true) (x : Operand) (ho : o.op = .load t x) {g T : Nat} (hx : a.eval x = .pointer (some ⟨g, 0, none⟩)) (hg : w.heap[g]? = some (.cells cs T (0, 0))) (hk : cs.size = k)
    (hK : wpQuiet P ops (Cls w) K rest (a.put o.dst (.agg cs))) : wpQuiet P ops (Cls w) K (o :: rest) a := by
  refine wpQuiet_step fun K' hK' => ?_
  rw [if_pos hgd]
  refine qval (fun y => ?_) (hK' _ hK)
  have hg' : y.v.heap[g]? = some (.cells cs T (0, 0)) := by rw [y.ext.block g (Array.getElem?_eq_some_iff.1 hg).1]; exact hg
  unfold execOp
  subst hk
  have := run_ld hA (off := 0) hg' (by omega)
  simp only [ho, hx, Instr.loadAt, Instr.sureAddr, Sem.run_bind, Sem.run_pure, Result.andThen_ok, this]
  simp

/-- A load in a piece that only reads, as if its value were moved (so the walk writes the frame out). -/
theorem qldM {K : Act → Prop} {dst : Option Tmp} {ty : TypeId} {pos : String} {after : Array Edge} {guard : Option (Nat × Bool)} {t k : Nat} (hA : Agg P t k) {x : Operand} {g T : Nat} {cs : Array Value} (hx : a.eval x = .pointer (some ⟨g, 0, none⟩)) (hg : w.heap[g]? = some (.cells cs T (0, 0))) (hk : cs.size = k)
    (h : (⟨dst, .move (.const (.agg cs)), ty, pos, after, guard⟩ : Oper).quiet P a (Cls w) K) : (⟨dst, .load t x, ty, pos, after, guard⟩ : Oper).quiet P a (Cls w) K := by
  obtain ⟨v, h1, h2⟩ := h
  have hv : v = .agg cs := by
    have h3 := h1 w (Cls.mk (Ext.refl w))
    unfold Oper.quietAt execOp at h3
    simp only [Act.eval, Sem.run_pure, Oper.quietUpon] at h3
    first | exact h3.2 | exact h3.2.symm | exact h3 | exact h3.symm
  subst hv
  refine qval (fun y => ?_) h2
  have hg' : y.v.heap[g]? = some (.cells cs T (0, 0)) := by rw [y.ext.block g (Array.getElem?_eq_some_iff.1 hg).1]; exact hg
  unfold execOp
  subst hk
  have := run_ld hA (off := 0) hg' (by omega)
  simp only [hx, Instr.loadAt, Instr.sureAddr, Sem.run_bind, Sem.run_pure, Result.andThen_ok, this]
  simp

/-- The result lies in a box. -/
theorem ret_cell {t k : Nat} (hA : Agg P t k) {fn : Func} {p : Tmp} (h : fn.results = #[.cell p t]) {tmps : Array Value} {g T : Nat} {cs : Array Value} (hp : tmps.getD p undef = .pointer (some ⟨g, 0, none⟩)) (hg : w.heap[g]? = some (.cells cs T (0, 0)))
    (hk : cs.size = k) : (results fn tmps).run P w = .ok (.agg cs) w := by
  have hp' : tmps[p]?.getD undef = .pointer (some ⟨g, 0, none⟩) := by simpa using hp
  have hl := run_ld (P := P) hA (off := 0) hg (by omega)
  subst hk
  simp [results, h, hp', asAddr, hl]
def isRow : TypeDesc → Bool | .struct _ | .array _ _ => true | _ => false
/-- An element of an array's value. -/
theorem run_idx {t e n : Nat} {d : TypeDesc} (hu : P.underlying t = some (.array n e)) (hd : P.underlying e = some d) (hna : isRow d = false) (hs : (P.info? e).map (·.size) = some 1)
    {cs : Array Value} {i : Nat} {v : Value} (hi : i < n) (hv : cs[i]? = some v) (k : IntKind) (w : World) : (Instr.index t (.agg cs) (.int k (i : Int))).run P w = .ok v w := by
  have hin : (0 : Int) ≤ (i : Int) ∧ (i : Int) < (n : Int) := by omega
  cases hq : P.info? e with
  | none => simp [hq] at hs
  | some inf =>
    have hsz : inf.size = 1 := by simpa [hq] using hs
    have hagg : (isAgg e).run P w = .ok false w := by
      unfold isAgg
      rw [Sem.run_bind, run_underlying hd w]
      cases d <;> simp_all [isRow]
    simp [Instr.index, part, hi, run_underlying hu, asIntOf, hin, sizeOf, typeInfo, hq, hsz, hagg, hv, Sem.run_bind]
/-- A slice turned into an array's address. -/
theorem run_arrayAt {t e n : Nat} (hu : P.underlying t = some (.array n e)) (g off len cap : Nat) (hn : n ≤ len) (w : World) : (Instr.arrayAt t (.slice (some ⟨g, off, none⟩) len cap)).run P w = .ok (.pointer (some ⟨g, off, none⟩)) w := by
  simp [Instr.arrayAt, run_underlying hu, Sem.run_bind, Nat.not_lt.2 hn]
/-- One result: a slot, or an array's box. -/
def slot (tmps : Array Value) : ResultVar → Sem Value
  | .tmp t => pure (tmps.getD t undef)
  | .cell a t => do loadVar t (← asAddr (tmps.getD a undef))
theorem slot_tmp {tmps : Array Value} {t : Tmp} {v : Value} (h : tmps.getD t undef = v) : (slot tmps (.tmp t)).run P w = .ok v w := by simp only [slot, h, Sem.run_pure]
theorem slot_cell {t k : Nat} (hA : Agg P t k) {p : Tmp} {tmps : Array Value} {g T : Nat} {cs : Array Value} (hp : tmps.getD p undef = .pointer (some ⟨g, 0, none⟩)) (hg : w.heap[g]? = some (.cells cs T (0, 0)))
    (hk : cs.size = k) : (slot tmps (.cell p t)).run P w = .ok (.agg cs) w := by
  have hp' : tmps[p]?.getD undef = .pointer (some ⟨g, 0, none⟩) := by simpa using hp
  have hl := run_ld (P := P) hA (off := 0) hg (by omega)
  subst hk
  simp [slot, hp', asAddr, hl]
theorem ret_two {fn : Func} {s1 s2 : ResultVar} (h : fn.results = #[s1, s2]) {tmps : Array Value} {v1 v2 : Value} (h1 : (slot tmps s1).run P w = .ok v1 w) (h2 : (slot tmps s2).run P w = .ok v2 w) :
    (results fn tmps).run P w = .ok (.tuple #[v1, v2]) w := by
  have e : results fn tmps = (do let vs ← fn.results.mapM (slot tmps); pure (if h : vs.size = 1 then vs[0] else .tuple vs)) := rfl
  rw [e, h]
  simp [h1, h2]
end
end Mm
end Go.Proofs.YtgbgplijpomkeaaDoor

/- Arrays given by a function; words as natural numbers. -/
namespace Go.Proofs.YtgbgplijpomkeaaDoor
open Go.RowKit Rp Rg Ops Mm
namespace Ar
/-- n cells by a function. -/
def arr (n : Nat) (f : Nat → Value) : Array Value := ((List.range n).map f).toArray
theorem arr_size (n : Nat) (f : Nat → Value) : (arr n f).size = n := by simp [arr]
theorem arr_get (n : Nat) (f : Nat → Value) (i : Nat) (h : i < n) : (arr n f)[i]? = some (f i) := by simp [arr, h]
theorem arr_ext {n : Nat} {f g : Nat → Value} (h : ∀ i, i < n → f i = g i) : arr n f = arr n g := by
  unfold arr
  congr 1
  exact List.map_congr_left fun i hi => h i (List.mem_range.1 hi)
theorem arr_set (n : Nat) (f : Nat → Value) (k : Nat) (v : Value) : (arr n f).setIfInBounds k v = arr n (fun i => if i = k then v else f i) := by
  apply Array.ext
  · simp [arr_size]
  · intro i h1 h2
    have hi : i < n := by simpa [arr_size] using h1
    simp only [arr, List.setIfInBounds_toArray, List.getElem_toArray, List.getElem_set, List.getElem_map, List.getElem_range]
    split
    · rename_i h; subst h; simp
    · rename_i h; rw [if_neg (fun e => h e.symm)]
theorem arr_mem {n : Nat} {f : Nat → Value} (h : ∀ i, i < n → (f i).oneCell' = true) : ∀ v ∈ (arr n f).toList, v.oneCell' = true := by
  intro v hv
  simp only [arr, List.mem_map, List.mem_range] at hv
  obtain ⟨i, hi, rfl⟩ := hv
  exact h i hi

theorem _root_.Go.Proofs.YtgbgplijpomkeaaDoor.Mm.St.setFn {w0 w : World} {L : List Ent} (h : St w0 w L) (i : Nat) {g T n : Nat} {f f' : Nat → Value} (hL : L[i]? = some (g, T, arr n f)) (j : Nat) (v : Value) (hf : ∀ k, k < n → f' k = if k = j then v else f k) {L' : List Ent} (hL' : L' = L.set i (g, T, arr n f')) : St w0 (w.setCell ⟨g, j, none⟩ v) L' := by
  have := h.setCell i hL j v
  rw [arr_set] at this
  rw [hL', arr_ext hf]
  exact this

def u64V (n : Nat) : Value := .int .u64 (n : Int)
def m64 : Nat := 18446744073709551616
theorem m64_pos : 0 < m64 := by unfold m64; omega
/-- Part i of a word. -/
def limb (x i : Nat) : Nat := x / m64 ^ i % m64
theorem limb_lt (x i : Nat) : limb x i < m64 := Nat.mod_lt _ m64_pos
def wordA (x : Nat) : Array Value := arr 4 fun i => u64V (limb x i)
def M256 : Nat := m64 ^ 4
theorem wordA_size (x : Nat) : (wordA x).size = 4 := arr_size _ _
theorem wordA_get (x i : Nat) (h : i < 4) : (wordA x)[i]? = some (.int .u64 (limb x i : Int)) := arr_get _ _ i h
theorem wordA_mem (x : Nat) : ∀ v ∈ (wordA x).toList, v.oneCell' = true := arr_mem fun _ _ => rfl

theorem pow_pos' (k : Nat) : 0 < m64 ^ k := Nat.pow_pos m64_pos

theorem limb_mod (x i k : Nat) (h : i < k) : limb (x % m64 ^ k) i = limb x i := by
  unfold limb
  obtain ⟨j, rfl⟩ : ∃ j, k = i + 1 + j := ⟨k - i - 1, by omega⟩
  rw [show m64 ^ (i + 1 + j) = m64 ^ i * (m64 * m64 ^ j) from by rw [Nat.pow_add, Nat.pow_add, Nat.pow_one, Nat.mul_assoc], Nat.mod_mul_right_div_self, Nat.mod_mul_right_mod]

theorem word_ext {x y : Nat} (hx : x < M256) (hy : y < M256) (h : ∀ i, i < 4 → limb x i = limb y i) : x = y := by
  have key : ∀ z, z < M256 → z = limb z 0 + m64 * (limb z 1 + m64 * (limb z 2 + m64 * limb z 3)) := by
    intro z hz
    unfold limb
    have h3 : z / m64 ^ 3 < m64 := Nat.div_lt_of_lt_mul (by rw [← Nat.pow_succ]; exact hz)
    rw [Nat.mod_eq_of_lt h3]
    have e3 : m64 ^ 3 = m64 ^ 2 * m64 := Nat.pow_succ ..
    have e2 : m64 ^ 2 = m64 ^ 1 * m64 := Nat.pow_succ ..
    rw [e3, ← Nat.div_div_eq_div_mul, Nat.mod_add_div, e2, ← Nat.div_div_eq_div_mul, Nat.mod_add_div, Nat.pow_one, Nat.pow_zero, Nat.div_one, Nat.mod_add_div]
  rw [key x hx, key y hy, h 0 (by omega), h 1 (by omega), h 2 (by omega), h 3 (by omega)]

/-- What has been carried behind k parts. -/
def carry (x y k : Nat) : Nat := (x % m64 ^ k + y % m64 ^ k) / m64 ^ k
theorem carry_le (x y k : Nat) : carry x y k ≤ 1 := by
  unfold carry
  have h1 := Nat.mod_lt x (pow_pos' k)
  have h2 := Nat.mod_lt y (pow_pos' k)
  have : (x % m64 ^ k + y % m64 ^ k) / m64 ^ k < 2 := Nat.div_lt_of_lt_mul (by omega)
  omega
theorem carry_zero (x y : Nat) : carry x y 0 = 0 := by simp [carry, Nat.mod_one]
theorem add_div' (x y D : Nat) (hD : 0 < D) : (x + y) / D = x / D + y / D + (x % D + y % D) / D := by
  have h1 := Nat.div_add_mod x D
  have h2 := Nat.div_add_mod y D
  have : x + y = x % D + y % D + D * (x / D + y / D) := by rw [Nat.mul_add]; omega
  rw [this, Nat.add_mul_div_left _ _ hD]
  omega
theorem sum_limb (x y k : Nat) : (limb x k + limb y k + carry x y k) % m64 = limb (x + y) k := by
  unfold limb carry
  rw [add_div' x y _ (pow_pos' k)]
  simp [Nat.add_mod]
theorem sum_carry (x y k : Nat) : (limb x k + limb y k + carry x y k) / m64 = carry x y (k + 1) := by
  unfold limb carry
  have e : ∀ z, z % m64 ^ (k + 1) = z % m64 ^ k + m64 ^ k * (z / m64 ^ k % m64) := fun z => by rw [Nat.pow_succ, Nat.mod_mul]
  rw [e x, e y, Nat.pow_succ, ← Nat.div_div_eq_div_mul]
  congr 1
  rw [show x % m64 ^ k + m64 ^ k * (x / m64 ^ k % m64) + (y % m64 ^ k + m64 ^ k * (y / m64 ^ k % m64)) = x % m64 ^ k + y % m64 ^ k + m64 ^ k * (x / m64 ^ k % m64 + y / m64 ^ k % m64) from by rw [Nat.mul_add]; omega,
    Nat.add_mul_div_left _ _ (pow_pos' k)]
  omega
end Ar
end Go.Proofs.YtgbgplijpomkeaaDoor

/- The arithmetic of words, no program in sight. -/
namespace Go.Proofs.YtgbgplijpomkeaaDoor
open Go.RowKit Rp Rg Ops Mm Ar
namespace Wm
/-- The number that n parts are. -/
def val (f : Nat → Nat) : Nat → Nat
  | 0 => 0
  | n + 1 => val f n + f n * m64 ^ n
theorem val_lt {f : Nat → Nat} {n : Nat} (h : ∀ k, k < n → f k < m64) : val f n < m64 ^ n := by
  induction n with
  | zero => simp [val]
  | succ n ih =>
    have h1 := ih fun k hk => h k (by omega)
    have h2 : (f n + 1) * m64 ^ n ≤ m64 * m64 ^ n := Nat.mul_le_mul_right _ (h n (by omega))
    rw [Nat.pow_succ, Nat.mul_comm (m64 ^ n), val]
    rw [Nat.add_mul] at h2
    omega
theorem val_congr {f g : Nat → Nat} {n : Nat} (h : ∀ k, k < n → f k = g k) : val f n = val g n := by
  induction n with
  | zero => rfl
  | succ n ih => rw [val, val, ih fun k hk => h k (by omega), h n (by omega)]
theorem val_limb (x n : Nat) : val (limb x) n = x % m64 ^ n := by
  induction n with
  | zero => simp [val, Nat.mod_one]
  | succ n ih => rw [val, ih, Nat.pow_succ, Nat.mod_mul, limb, Nat.mul_comm (m64 ^ n)]
theorem limb_val {f : Nat → Nat} {n k : Nat} (h : ∀ k, k < n → f k < m64) (hk : k < n) : limb (val f n) k = f k := by
  induction n with
  | zero => omega
  | succ n ih =>
    unfold limb
    rw [val]
    by_cases hkn : k = n
    · subst hkn
      have h1 := val_lt (f := f) (n := k) fun j hj => h j (by omega)
      rw [Nat.add_mul_div_right _ _ (pow_pos' k), Nat.div_eq_of_lt h1, Nat.zero_add, Nat.mod_eq_of_lt (h k hk)]
    · obtain ⟨j, rfl⟩ : ∃ j, n = k + 1 + j := ⟨n - k - 1, by omega⟩
      have e : m64 ^ (k + 1 + j) = m64 ^ k * (m64 * m64 ^ j) := by rw [Nat.pow_add, Nat.pow_add, Nat.pow_one, Nat.mul_assoc]
      rw [e, show f (k + 1 + j) * (m64 ^ k * (m64 * m64 ^ j)) = m64 ^ k * (m64 * (m64 ^ j * f (k + 1 + j))) from by ac_rfl, Nat.add_mul_div_left _ _ (pow_pos' k), Nat.add_mul_mod_self_left]
      exact ih (fun i hi => h i (by omega)) (by omega)
theorem val_set {f : Nat → Nat} {n k : Nat} (v : Nat) (hk : k < n) : val (fun i => if i = k then v else f i) n + f k * m64 ^ k = val f n + v * m64 ^ k := by
  induction n with
  | zero => omega
  | succ n ih =>
    rw [val, val]
    by_cases hkn : n = k
    · subst hkn
      rw [if_pos rfl, val_congr (g := f) fun i hi => if_neg (by omega)]
      omega
    · rw [if_neg hkn]
      have := ih (by omega)
      omega
theorem arr_val {n : Nat} {f : Nat → Nat} (h : ∀ k, k < n → f k < m64) : arr n (fun i => u64V (f i)) = arr n (fun i => u64V (limb (val f n) i)) :=
  arr_ext fun i hi => by rw [limb_val h hi]
theorem wordA_mod (x : Nat) : wordA (x % M256) = wordA x := arr_ext fun i hi => by rw [M256, limb_mod x i 4 hi]
theorem wordA_eq {x y : Nat} (h : x % M256 = y % M256) : wordA x = wordA y := by rw [← wordA_mod x, h, wordA_mod]
theorem u64V_inj {x y : Nat} (h : u64V x = u64V y) : x = y := by
  simp only [u64V, Value.int.injEq, true_and] at h; omega
theorem wordA_inj {x y : Nat} (h : wordA x = wordA y) : x % M256 = y % M256 := by
  refine word_ext (Nat.mod_lt _ (pow_pos' 4)) (Nat.mod_lt _ (pow_pos' 4)) fun i hi => ?_
  rw [M256, limb_mod x i 4 hi, limb_mod y i 4 hi]
  have h1 := arr_get 4 (fun i => u64V (limb x i)) i hi
  have h2 := arr_get 4 (fun i => u64V (limb y i)) i hi
  unfold wordA at h
  rw [h] at h1
  rw [h1] at h2
  exact u64V_inj (Option.some.inj h2)
theorem wordA_iff {x y : Nat} : wordA x = wordA y ↔ x % M256 = y % M256 := ⟨wordA_inj, wordA_eq⟩

/-! ### The difference -/
def borrow (x y k : Nat) : Nat := if x % m64 ^ k < y % m64 ^ k then 1 else 0
theorem borrow_le (x y k : Nat) : borrow x y k ≤ 1 := by unfold borrow; split <;> omega
theorem borrow_zero (x y : Nat) : borrow x y 0 = 0 := by simp [borrow, Nat.mod_one]
def dif (x y : Nat) : Nat := x + (M256 - y % M256)
theorem M256_pos : 0 < M256 := pow_pos' 4
theorem dif_mod (x y : Nat) : (dif x y + y) % M256 = x % M256 := by
  unfold dif
  have h := Nat.mod_lt y M256_pos
  have e := Nat.mod_add_div y M256
  have : x + (M256 - y % M256) + y = x + M256 * (1 + y / M256) := by rw [Nat.mul_add, Nat.mul_one]; omega
  rw [this, Nat.add_mul_mod_self_left]
theorem sub_borrow (x y k : Nat) : (if limb x k < limb y k + borrow x y k then 1 else 0) = borrow x y (k + 1) := by
  have e : ∀ z, z % m64 ^ (k + 1) = z % m64 ^ k + m64 ^ k * limb z k := fun z => by rw [Nat.pow_succ, Nat.mod_mul]; rfl
  have hx := Nat.mod_lt x (pow_pos' k)
  have hy := Nat.mod_lt y (pow_pos' k)
  unfold borrow
  rw [e x, e y]
  generalize m64 ^ k = D at *
  generalize x % D = a at *
  generalize y % D = b at *
  generalize limb x k = X
  generalize limb y k = Y
  have hm : ∀ A B : Nat, A < B → D * A + D ≤ D * B := fun A B h => by have := Nat.mul_le_mul_left D h; rw [Nat.mul_succ] at this; exact this
  rcases Nat.lt_trichotomy X Y with h | h | h
  · have := hm _ _ h
    rw [if_pos (by omega), if_pos (by omega)]
  · subst h
    by_cases hab : a < b
    · rw [if_pos hab, if_pos (by omega), if_pos (by omega)]
    · rw [if_neg hab, if_neg (by omega), if_neg (by omega)]
  · have := hm _ _ h
    have h2 : (if a < b then 1 else 0) ≤ 1 := by split <;> omega
    rw [if_neg (by omega), if_neg (by omega)]
theorem sub_limb (x y k : Nat) (hk : k < 4) : (limb x k + m64 - limb y k - borrow x y k) % m64 = limb (dif x y) k := by
  have hb := sub_borrow x y k
  have hle := borrow_le x y k
  have e : ∀ z, z % m64 ^ (k + 1) = z % m64 ^ k + m64 ^ k * limb z k := fun z => by rw [Nat.pow_succ, Nat.mod_mul]; rfl
  have hx := Nat.mod_lt x (pow_pos' k)
  have hy := Nat.mod_lt y (pow_pos' k)
  -- dif x y, below part k + 1
  have hd : dif x y % m64 ^ (k + 1) = (x % m64 ^ (k + 1) + (m64 ^ (k + 1) - y % m64 ^ (k + 1))) % m64 ^ (k + 1) := by
    obtain ⟨t, ht⟩ : ∃ t, M256 = m64 ^ (k + 1) * t := by
      obtain ⟨j, hj⟩ : ∃ j, 4 = k + 1 + j := ⟨4 - (k + 1), by omega⟩
      exact ⟨m64 ^ j, by rw [M256, hj, Nat.pow_add]⟩
    have hmod : y % M256 % m64 ^ (k + 1) = y % m64 ^ (k + 1) := by rw [ht, Nat.mod_mul_right_mod]
    have h1 := Nat.mod_lt y M256_pos
    have h2 := Nat.mod_add_div (y % M256) (m64 ^ (k + 1))
    rw [hmod] at h2
    have h3 := Nat.mod_lt y (pow_pos' (k + 1))
    unfold dif
    generalize y % M256 = z at *
    generalize y % m64 ^ (k + 1) = b at *
    generalize m64 ^ (k + 1) = D at *
    have hzt : z / D < t := Nat.div_lt_of_lt_mul (by omega)
    obtain ⟨s, hs⟩ : ∃ s, t = z / D + 1 + s := ⟨t - z / D - 1, by omega⟩
    have e2 : M256 - z = D - b + D * s := by
      rw [ht, hs, Nat.mul_add, Nat.mul_add, Nat.mul_one]; omega
    rw [e2, ← Nat.add_assoc, Nat.add_mul_mod_self_left, Nat.mod_add_mod]
  have hL : limb (dif x y) k = dif x y % m64 ^ (k + 1) / m64 ^ k := by
    rw [e (dif x y), Nat.add_mul_div_left _ _ (pow_pos' k), Nat.div_eq_of_lt (Nat.mod_lt _ (pow_pos' k)), Nat.zero_add]
  have hp : m64 ^ (k + 1) = m64 ^ k * m64 := Nat.pow_succ ..
  rw [hL, hd, e x, e y, hp]
  have hX := limb_lt x k
  have hY := limb_lt y k
  have hbv : borrow x y k = if x % m64 ^ k < y % m64 ^ k then 1 else 0 := rfl
  rw [hbv]
  have hD := pow_pos' k
  generalize m64 ^ k = D at *
  generalize x % D = a at *
  generalize y % D = b at *
  generalize limb x k = X at *
  generalize limb y k = Y at *
  have hDY : D * Y + D ≤ D * m64 := by have := Nat.mul_le_mul_left D hY; rw [Nat.mul_succ] at this; exact this
  rw [Nat.mod_mul_right_div_self]
  congr 1
  have hsum : a + D * X + (D * m64 - (b + D * Y)) = (if a < b then D else 0) + a - b + D * (X + m64 - Y - if a < b then 1 else 0) := by
    by_cases hab : a < b
    · rw [if_pos hab, if_pos hab, show X + m64 - Y - 1 = X + (m64 - Y - 1) from by omega, Nat.mul_add, Nat.mul_sub, Nat.mul_sub, Nat.mul_one]
      omega
    · rw [if_neg hab, if_neg hab, Nat.sub_zero, show X + m64 - Y = X + (m64 - Y) from by omega, Nat.mul_add, Nat.mul_sub]
      omega
  rw [hsum, Nat.add_mul_div_left _ _ hD, Nat.div_eq_of_lt (by split <;> omega), Nat.zero_add]

/-! ### The product's inner round -/
theorem step_lt {x y p c : Nat} (hx : x < m64) (hy : y < m64) (hp : p < m64) (hc : c < m64) : x * y + p + c < m64 * m64 := by
  have h := Nat.mul_le_mul (show x ≤ m64 - 1 by omega) (show y ≤ m64 - 1 by omega)
  have hm := m64_pos
  have e : (m64 - 1) * (m64 - 1) + (m64 - 1) + (m64 - 1) + 1 = m64 * m64 := by
    obtain ⟨j, hj⟩ : ∃ j, m64 = j + 1 := ⟨m64 - 1, by omega⟩
    rw [hj]; simp [Nat.add_mul, Nat.mul_add]; omega
  omega
theorem step_lo (x y p c : Nat) : ((x * y % m64 + p) % m64 + c) % m64 = (x * y + p + c) % m64 := by
  simp [Nat.add_mod]
theorem step_hi (x y p c : Nat) : x * y / m64 + (x * y % m64 + p) / m64 + ((x * y % m64 + p) % m64 + c) / m64 = (x * y + p + c) / m64 := by
  have h1 := Nat.mod_add_div (x * y) m64
  have h2 := Nat.mod_add_div (x * y % m64 + p) m64
  have hm := m64_pos
  generalize x * y = t at *
  obtain ⟨u, hu⟩ : ∃ u, u = t % m64 + p := ⟨_, rfl⟩
  rw [← hu] at h2 ⊢
  have : t + p + c = u % m64 + c + m64 * (t / m64 + u / m64) := by rw [Nat.mul_add]; omega
  rw [this, Nat.add_mul_div_left _ _ hm]
  omega

/-! ### One bit to the left -/
theorem limb_step (R b k : Nat) (hb : b < 2) (hk : 0 < k) : limb (2 * R + b) k = limb (2 * R) k := by
  obtain ⟨j, rfl⟩ : ∃ j, k = j + 1 := ⟨k - 1, by omega⟩
  unfold limb
  have e : m64 ^ (j + 1) = 2 * (m64 ^ j * 9223372036854775808) := by rw [Nat.pow_succ, show m64 = 2 * 9223372036854775808 from rfl]; ac_rfl
  have h1 : ∀ z D : Nat, z / (2 * D) = z / 2 / D := fun z D => (Nat.div_div_eq_div_mul z 2 D).symm
  rw [e, h1, h1, show (2 * R + b) / 2 = R from by omega, show 2 * R / 2 = R from by omega]
theorem shl_limb (R k : Nat) (hk : 0 < k) : (limb R k * 2 % m64) + limb R (k - 1) / 9223372036854775808 = limb (2 * R) k := by
  obtain ⟨j, rfl⟩ : ∃ j, k = j + 1 := ⟨k - 1, by omega⟩
  simp only [Nat.add_sub_cancel]
  unfold limb
  have e : m64 ^ (j + 1) = m64 ^ j * m64 := Nat.pow_succ ..
  rw [e, ← Nat.div_div_eq_div_mul, ← Nat.div_div_eq_div_mul]
  have h2 : 2 * R / m64 ^ j = 2 * (R / m64 ^ j) + 2 * (R % m64 ^ j) / m64 ^ j := by
    have h := Nat.mod_add_div R (m64 ^ j)
    have : 2 * R = 2 * (R % m64 ^ j) + m64 ^ j * (2 * (R / m64 ^ j)) := by
      rw [show m64 ^ j * (2 * (R / m64 ^ j)) = 2 * (m64 ^ j * (R / m64 ^ j)) from by ac_rfl]; omega
    rw [this, Nat.add_mul_div_left _ _ (pow_pos' j)]; omega
  have h3 : 2 * (R % m64 ^ j) / m64 ^ j < 2 := Nat.div_lt_of_lt_mul (by have := Nat.mod_lt R (pow_pos' j); omega)
  rw [h2]
  generalize R / m64 ^ j = A at *
  generalize 2 * (R % m64 ^ j) / m64 ^ j = c at *
  unfold m64
  omega
theorem shl_zero (R b : Nat) (hb : b < 2) : (limb R 0 * 2 % m64) + b = limb (2 * R + b) 0 := by
  unfold limb m64
  simp only [Nat.pow_zero, Nat.div_one]
  omega
theorem or_bit (a b : Nat) (hb : b < 2) : (a * 2 % m64) ||| b = (a * 2 % m64) + b := by
  have e : a * 2 % m64 = 2 ^ 1 * (a % 9223372036854775808) := by unfold m64; omega
  rw [e, ← Nat.two_pow_add_eq_or_of_lt (by omega)]
theorem top_bit {R : Nat} (hR : R < M256) : limb R 3 / 9223372036854775808 = 2 * R / M256 := by
  unfold limb M256
  have e : m64 ^ 4 = m64 ^ 3 * m64 := Nat.pow_succ ..
  rw [Nat.mod_eq_of_lt (Nat.div_lt_of_lt_mul (by rw [← e]; exact hR)), e, Nat.div_div_eq_div_mul]
  rw [show m64 ^ 3 * m64 = 2 * (m64 ^ 3 * 9223372036854775808) from by rw [Nat.mul_left_comm]; rfl, Nat.mul_div_mul_left _ _ (by omega)]

/-- Bit i, by parts. -/
theorem limb_bit (N i : Nat) : limb N (i / 64) / 2 ^ (i % 64) % 2 = N / 2 ^ i % 2 := by
  have h := Nat.div_add_mod i 64
  have e : N / 2 ^ i = N / m64 ^ (i / 64) / 2 ^ (i % 64) := by
    rw [Nat.div_div_eq_div_mul, show m64 = 2 ^ 64 from rfl, ← Nat.pow_mul, ← Nat.pow_add, h]
  rw [e]
  unfold limb
  generalize N / m64 ^ (i / 64) = A
  have hs : i % 64 < 64 := Nat.mod_lt _ (by omega)
  generalize i % 64 = s at *
  obtain ⟨j, hj⟩ : ∃ j, 64 = s + 1 + j := ⟨63 - s, by omega⟩
  rw [show m64 = 2 ^ s * (2 * 2 ^ j) from by rw [show m64 = 2 ^ 64 from rfl, hj]; rw [Nat.pow_add, Nat.pow_add, Nat.pow_one, Nat.mul_assoc], Nat.mod_mul_right_div_self, Nat.mod_mul_right_mod]

/-- Bit i of a number that has none at i or below. -/
theorem or_two_pow (A s : Nat) (hs : s < 64) : (A * 2 ^ (s + 1) % m64) ||| 2 ^ s = A * 2 ^ (s + 1) % m64 + 2 ^ s := by
  obtain ⟨j, hj⟩ : ∃ j, 64 = s + 1 + j := ⟨63 - s, by omega⟩
  have e : A * 2 ^ (s + 1) % m64 = 2 ^ (s + 1) * (A % 2 ^ j) := by
    rw [show m64 = 2 ^ (s + 1) * 2 ^ j from by rw [show m64 = 2 ^ 64 from rfl, hj, Nat.pow_add], Nat.mul_comm A, Nat.mul_mod_mul_left]
  rw [e, ← Nat.two_pow_add_eq_or_of_lt (Nat.pow_lt_pow_right (by omega) (by omega))]
theorem limb_shl_at (A i : Nat) : limb (A * 2 ^ i) (i / 64) = A * 2 ^ (i % 64) % m64 := by
  have h := Nat.div_add_mod i 64
  unfold limb
  have e : A * 2 ^ i = A * 2 ^ (i % 64) * m64 ^ (i / 64) := by
    rw [show m64 = 2 ^ 64 from rfl, ← Nat.pow_mul, Nat.mul_assoc, ← Nat.pow_add, Nat.add_comm, h]
  rw [e, Nat.mul_div_cancel _ (pow_pos' _)]
theorem limb_setbit (q i j : Nat) : limb ((2 * q + 1) * 2 ^ i) j = if j = i / 64 then limb (q * 2 ^ (i + 1)) j + 2 ^ (i % 64) else limb (q * 2 ^ (i + 1)) j := by
  have h := Nat.div_add_mod i 64
  have hs : i % 64 < 64 := Nat.mod_lt _ (by omega)
  have e : q * 2 ^ (i + 1) = (2 * q) * 2 ^ i := by rw [Nat.pow_succ]; ac_rfl
  rw [e]
  split
  · rename_i hj
    subst hj
    rw [limb_shl_at, limb_shl_at]
    generalize i % 64 = s at *
    obtain ⟨t, ht⟩ : ∃ t, 64 = s + 1 + t := ⟨63 - s, by omega⟩
    have hm : m64 = 2 ^ s * 2 ^ (t + 1) := by rw [show m64 = 2 ^ 64 from rfl, ht, ← Nat.pow_add]; congr 1; omega
    rw [hm, Nat.mul_comm _ (2 ^ s), Nat.mul_comm _ (2 ^ s), Nat.mul_mod_mul_left, Nat.mul_mod_mul_left, ← Nat.mul_succ]
    congr 1
    rw [Nat.pow_succ, Nat.mul_comm (2 ^ t) 2]
    have := Nat.two_pow_pos t
    rw [Nat.mul_mod_mul_left, Nat.mod_mul, show (2 * q + 1) / 2 = q from by omega]
    omega
  · rename_i hj
    unfold limb
    have e2 : ∀ B, B * 2 ^ i = B * 2 ^ (i % 64) * m64 ^ (i / 64) := fun B => by
      rw [show m64 = 2 ^ 64 from rfl, ← Nat.pow_mul, Nat.mul_assoc, ← Nat.pow_add, Nat.add_comm, h]
    rw [e2, e2]
    generalize i % 64 = s at *
    generalize i / 64 = c at *
    rcases Nat.lt_or_gt_of_ne hj with hl | hl
    · obtain ⟨d, rfl⟩ : ∃ d, c = j + (d + 1) := ⟨c - j - 1, by omega⟩
      have e3 : ∀ B, B * m64 ^ (j + (d + 1)) / m64 ^ j % m64 = 0 := fun B => by
        rw [Nat.pow_add, show B * (m64 ^ j * m64 ^ (d + 1)) = m64 ^ j * (B * m64 ^ (d + 1)) from by ac_rfl, Nat.mul_div_cancel_left _ (pow_pos' j), Nat.pow_succ, ← Nat.mul_assoc, Nat.mul_mod_left]
      rw [e3, e3]
    · obtain ⟨d, rfl⟩ : ∃ d, j = c + (d + 1) := ⟨j - c - 1, by omega⟩
      have e3 : ∀ B, B * m64 ^ c / m64 ^ (c + (d + 1)) = B / m64 ^ (d + 1) := fun B => by
        rw [Nat.pow_add, Nat.mul_comm B, Nat.mul_div_mul_left _ _ (pow_pos' c)]
      rw [e3, e3]
      congr 1
      obtain ⟨t, ht⟩ : ∃ t, 64 = s + 1 + t := ⟨63 - s, by omega⟩
      have hm : m64 ^ (d + 1) = 2 ^ s * (2 * (2 ^ t * m64 ^ d)) := by
        rw [Nat.pow_succ, show m64 ^ d * m64 = m64 * m64 ^ d from Nat.mul_comm _ _]
        conv => lhs; lhs; rw [show m64 = 2 ^ 64 from rfl, ht, Nat.pow_add, Nat.pow_add, Nat.pow_one]
        ac_rfl
      rw [hm, Nat.mul_comm _ (2 ^ s), Nat.mul_comm _ (2 ^ s), Nat.mul_div_mul_left _ _ (Nat.two_pow_pos s), Nat.mul_div_mul_left _ _ (Nat.two_pow_pos s), Nat.mul_div_mul_left _ _ (by omega : 0 < 2), ← Nat.div_div_eq_div_mul, show (2 * q + 1) / 2 = q from by omega]
/-- One round of the long division. -/
theorem round_lt {H m b : Nat} (hb : b < 2) (h : 2 * (H % m) + b < m) : (2 * H + b) / m = 2 * (H / m) ∧ (2 * H + b) % m = 2 * (H % m) + b := by
  have e := Nat.mod_add_div H m
  have e2 : 2 * H + b = 2 * (H % m) + b + m * (2 * (H / m)) := by rw [show m * (2 * (H / m)) = 2 * (m * (H / m)) from by ac_rfl]; omega
  have hm : 0 < m := by omega
  rw [e2, Nat.add_mul_div_left _ _ hm, Nat.add_mul_mod_self_left, Nat.div_eq_of_lt h, Nat.mod_eq_of_lt h]
  exact ⟨by omega, rfl⟩
theorem round_ge {H m b : Nat} (hb : b < 2) (hm : 0 < m) (h : m ≤ 2 * (H % m) + b) : (2 * H + b) / m = 2 * (H / m) + 1 ∧ (2 * H + b) % m = 2 * (H % m) + b - m := by
  have e := Nat.mod_add_div H m
  have hl := Nat.mod_lt H hm
  have e2 : 2 * H + b = (2 * (H % m) + b - m) + m * (2 * (H / m) + 1) := by rw [Nat.mul_add, show m * (2 * (H / m)) = 2 * (m * (H / m)) from by ac_rfl]; omega
  rw [e2, Nat.add_mul_div_left _ _ hm, Nat.add_mul_mod_self_left, Nat.div_eq_of_lt (by omega), Nat.mod_eq_of_lt (by omega)]
  exact ⟨by omega, rfl⟩
theorem half_step (N t : Nat) : N / 2 ^ t = 2 * (N / 2 ^ (t + 1)) + N / 2 ^ t % 2 := by
  rw [Nat.pow_succ, ← Nat.div_div_eq_div_mul]; omega
end Wm
namespace Wd
/-- -1, 0 or 1. -/
def cmp (x y : Nat) : Int := if x % M256 < y % M256 then -1 else if y % M256 < x % M256 then 1 else 0
end Wd
end Go.Proofs.YtgbgplijpomkeaaDoor

/- Arrays of integers compared. -/
namespace Go.Proofs.YtgbgplijpomkeaaDoor
open Go.RowKit Rp Rg Ops Mm Ar Wm
namespace Eq'
section
variable {P : Program}
theorem run_part {e : TypeId} {d : TypeDesc} (hd : P.underlying e = some d) (hna : isRow d = false) (hs : (P.info? e).map (·.size) = some 1) {cs : Array Value} {i : Nat} {v : Value} (hv : cs[i]? = some v) (w : World) :
    (part e cs i).run P w = .ok v w := by
  cases hq : P.info? e with
  | none => simp [hq] at hs
  | some inf =>
    have hsz : inf.size = 1 := by simpa [hq] using hs
    have hagg : (isAgg e).run P w = .ok false w := by
      unfold isAgg
      rw [Sem.run_bind, run_underlying hd w]
      cases d <;> simp_all [isRow]
    simp [part, sizeOf, typeInfo, hq, hsz, hagg, hv, Sem.run_bind]

theorem run_equalIn {t e n : Nat} {k : IntKind} (d : Nat) (hin : ∀ a b w, (Op.equalIn d e (.int k a) (.int k b)).run P w = .ok (a == b) w) (hu : P.underlying t = some (.array n e)) (he : P.underlying e = some (.int k)) (hs : (P.info? e).map (·.size) = some 1) {xs ys : Array Value} {f g : Nat → Int}
    (hx : ∀ i, i < n → xs[i]? = some (.int k (f i))) (hy : ∀ i, i < n → ys[i]? = some (.int k (g i))) (w : World) :
    (Op.equalIn (d + 1) t (.agg xs) (.agg ys)).run P w = .ok ((List.range n).all fun i => f i == g i) w := by
  have hsz : (sizeOf e).run P w = .ok 1 w := by
    cases hq : P.info? e with
    | none => simp [hq] at hs
    | some inf =>
      have hsz : inf.size = 1 := by simpa [hq] using hs
      simp [sizeOf, typeInfo, hq, hsz]
  simp only [Op.equalIn, Sem.run_bind, run_underlying hu, Result.andThen_ok, hsz, Nat.mul_one, Std.Legacy.Range.forIn_eq_forIn_range', Std.Legacy.Range.size]
  have hl : ∀ i ∈ List.range' 0 n 1, i < n := fun i hi => by simpa using hi
  rw [show (n - 0 + 1 - 1) / 1 = n from by simp, List.range_eq_range']
  generalize List.range' 0 n 1 = l at hl
  clear hsz
  induction l with
  | nil => simp
  | cons i l ih =>
    have hi := hl i (by simp)
    simp only [List.forIn_cons, Sem.run_bind, run_part he rfl hs (hx i hi), run_part he rfl hs (hy i hi), Result.andThen_ok, hin]
    by_cases h : (f i == g i) = true
    · simp only [h, Bool.not_true, Bool.false_eq_true, if_false, Sem.run_pure, Result.andThen_ok, List.all_cons, Bool.true_and]
      exact ih fun j hj => hl j (by simp [hj])
    · have h' : (f i == g i) = false := by simpa using h
      simp [h', List.all_cons]
/-- Two arrays of n integers. -/
theorem run_eql {t e n : Nat} {k : IntKind} (hu : P.underlying t = some (.array n e)) (he : P.underlying e = some (.int k)) (hs : (P.info? e).map (·.size) = some 1) {xs ys : Array Value} {f g : Nat → Int}
    (hx : ∀ i, i < n → xs[i]? = some (.int k (f i))) (hy : ∀ i, i < n → ys[i]? = some (.int k (g i))) (w : World) :
    (binOp .eql t (.agg xs) (.agg ys)).run P w = .ok (.bool ((List.range n).all fun i => f i == g i)) w := by
  rw [run_eql_struct]
  have h := run_equalIn 9999 (fun a b w => run_equalIn_int w 9998 e k k a b he) hu he hs hx hy w
  exact congrArg (fun r => Result.andThen r fun b w' => Result.ok (Value.bool b) w') h
theorem run_neq {t e n : Nat} {k : IntKind} (hu : P.underlying t = some (.array n e)) (he : P.underlying e = some (.int k)) (hs : (P.info? e).map (·.size) = some 1) {xs ys : Array Value} {f g : Nat → Int}
    (hx : ∀ i, i < n → xs[i]? = some (.int k (f i))) (hy : ∀ i, i < n → ys[i]? = some (.int k (g i))) (w : World) :
    (binOp .neq t (.agg xs) (.agg ys)).run P w = .ok (.bool (!((List.range n).all fun i => f i == g i))) w := by
  rw [run_neq_struct]
  have h := run_equalIn 9999 (fun a b w => run_equalIn_int w 9998 e k k a b he) hu he hs hx hy w
  exact congrArg (fun r => Result.andThen r fun b w' => Result.ok (Value.bool (!b)) w') h
end

/-- Words compared. -/
theorem wordEq (x y : Nat) : ((List.range 4).all fun i => ((limb x i : Nat) : Int) == ((limb y i : Nat) : Int)) = decide (x % M256 = y % M256) := by
  rw [Bool.eq_iff_iff, List.all_eq_true, decide_eq_true_iff]
  constructor
  · intro h
    refine word_ext (Nat.mod_lt _ M256_pos) (Nat.mod_lt _ M256_pos) fun i hi => ?_
    rw [M256, limb_mod x i 4 hi, limb_mod y i 4 hi]
    have := h i (List.mem_range.2 hi)
    rw [beq_iff_eq] at this
    omega
  · intro h i hi
    have hi := List.mem_range.1 hi
    rw [beq_iff_eq]
    congr 1
    rw [← limb_mod x i 4 hi, ← limb_mod y i 4 hi]
    rw [M256] at h
    rw [h]
/-- The empty word, as it is built. -/
theorem zeroW : (#[.int .u64 0, .int .u64 0, .int .u64 0, .int .u64 0] : Array Value) = wordA 0 := by
  have : wordA 0 = arr 4 fun _ => u64V 0 := arr_ext fun i hi => by simp [limb]
  rw [this]; rfl
end Eq'
end Go.Proofs.YtgbgplijpomkeaaDoor

/- Lifted calls that only look at what is lent to them; arrays of numbers by lists; arrays compared. -/
namespace Go.Proofs.YtgbgplijpomkeaaDoor
open Go.RowKit Rg
namespace Lf
/-- A value that names no memory at all. -/
def V.pure : V → Bool
  | .k _ => true
  | .a cs => go cs
  | .t cs => go cs
  | .nil => true
  | .i _ v => v.pure
  | _ => false
where go : List V → Bool
  | [] => true
  | v :: r => v.pure && go r
theorem pure_go {cs : List V} (h : V.pure.go cs = true) : ∀ u ∈ cs, u.pure = true := by
  induction cs with
  | nil => simp
  | cons x r ih =>
    simp only [V.pure.go, Bool.and_eq_true] at h
    intro u hu
    rcases List.mem_cons.1 hu with rfl | hu
    · exact h.1
    · exact ih h.2 u hu
theorem pure_of_all {cs : List V} (h : ∀ u ∈ cs, u.pure = true) : V.pure.go cs = true := by
  induction cs with
  | nil => rfl
  | cons x r ih => simp only [V.pure.go, Bool.and_eq_true]; exact ⟨h x (by simp), ih fun u hu => h u (by simp [hu])⟩
theorem Rep.pure {g : Gh} {w : World} {v : V} {x : Value} (h : Rep w g v x) : v.pure = true → ∀ (w' : World) (g' : Gh), Rep w' g' v x := by
  induction h with
  | k v => intro _ _ _; exact .k v
  | a hl h1 _ ih => intro hp w' g'; exact .a hl h1 fun j u x hj hx => ih j u x hj hx (pure_go (by simpa [V.pure] using hp) u (List.mem_of_getElem? hj)) w' g'
  | t hl _ ih => intro hp w' g'; exact .t hl fun j u x hj hx => ih j u x hj hx (pure_go (by simpa [V.pure] using hp) u (List.mem_of_getElem? hj)) w' g'
  | nil => intro _ _ _; exact .nil
  | i _ ih => intro hp w' g'; exact .i (ih (by simpa [V.pure] using hp) w' g')
  | _ => intro hp; simp [V.pure] at hp

/-- What stays while a call only looks at some of the memory. -/
def viewS (g : Gh) (L : Mem) (b o : Nat) : Prop := g.S b o ∨ ∃ i m, aget L i = some m ∧ fp g i m b o
def viewG (g : Gh) (L : Mem) : Gh := ⟨viewS g L, fun _ => none, fun _ => none⟩
/-- An argument, as a contract wants it, by what is looked at. -/
inductive View (L : Mem) : V → V → Prop
  | same {u v : V} (keep nn) (hv : u.cv keep nn = v) (hr : v.refs [] = true) : View L u v
  | sb {i off n cap size : Nat} {cs es : List V} (hi : aget L i = some (.b cs)) (hr : V.refs.go [] cs = true) (hc : (cs.drop off).take (n * size) = es.flatMap V.cells) (hl : es.length = n) (hs : ∀ e ∈ es, e.cells.length = size) (hp : 0 < size) (hn : n ≤ cap) (hm : cap ≤ maxLen) : View L (.sb i off n cap) (.s none es)
  | p {i off : Nat} {cs : List V} (hi : aget L i = some (.b cs)) (hr : V.refs.go [] cs = true) : View L (.p i off) (.q (cs.drop off))
  | w {i E gen sz off n : Nat} {es es' : List V} (hi : aget L i = some (.w E sz gen es)) (hn : off + n ≤ es.length) (h0 : 0 < n) (he : (es.drop off).take n = es') : View L (.w i gen sz off n) (.s none es')
inductive Views (L : Mem) : List V → List V → Prop
  | nil : Views L [] []
  | cons {u v us vs} (h : View L u v) (r : Views L us vs) : Views L (u :: us) (v :: vs)
theorem rep_toV {g : Gh} {w : World} {L : Mem} {u : V} {x : Value} (h : Rep w g u x) (hr : u.refs [] = true) : Rep w (viewG g L) u x := by
  have := h.only (mem := []) hr
  refine this.mono ⟨Nat.le_refl _, fun b o _ hs => ⟨.inl hs, rfl⟩, fun i z hz => ?_, fun r a l c hz => ?_⟩
  · simp [Gh.only, aget] at hz
  · simp [Gh.only, aget] at hz
theorem view_rep {F : Fr0} {g : Gh} {w : World} {mem L : Mem} (hm : RelM F g mem w) (hL : ∀ i m, aget L i = some m → aget mem i = some m) {u v : V} {x : Value} (h : View L u v) (hr : Rep w g u x) : Rep w (viewG g L) v x := by
  cases h with
  | same keep nn hv hr' => subst hv; exact rep_toV hr.cv hr'
  | @sb i off n cap size cs es hi hrf hc hl hs hp hn hmx =>
    obtain ⟨b, bo, hbx, hlt, hB⟩ := hm.box (hL i _ hi)
    cases hr with
    | sb hp' =>
      rw [hbx] at hp'; cases hp'
      obtain ⟨xs, hxl, hx, hrep⟩ := hB.vals
      have hin : ∀ (j : Nat) u, (es.flatMap V.cells)[j]? = some u → cs[off + j]? = some u := fun j u hj => by
        rw [← hc, List.getElem?_take] at hj
        split at hj
        · rw [List.getElem?_drop] at hj; exact hj
        · cases hj
      rw [← hl] at hn ⊢
      refine .s (size := size) (fun j => xs.getD (off + j) undef) hn hmx hp (fun e he => ⟨hs e he, fun u hu => ?_⟩) (fun j u hj => ?_) (fun j u hj => ?_) fun _ h => by cases h
      · obtain ⟨j, hj⟩ := List.getElem?_of_mem (List.mem_flatMap.2 ⟨e, he, hu⟩)
        exact hB.one u (List.mem_of_getElem? (hin j u hj))
      · have hjc := hin j u hj
        have hjl := (List.getElem?_eq_some_iff.1 hjc).1
        have hjx : xs[off + j]? = some xs[off + j] := List.getElem?_eq_getElem (by omega)
        refine ⟨hlt, .inr ⟨i, _, hi, bo, hbx, by omega, by omega⟩, ?_⟩
        rw [Nat.add_assoc, List.getD_eq_getElem?_getD, hjx]
        exact hx _ _ hjx
      · have hjc := hin j u hj
        have hjl := (List.getElem?_eq_some_iff.1 hjc).1
        have hjx : xs[off + j]? = some xs[off + j] := List.getElem?_eq_getElem (by omega)
        have := rep_toV (L := L) (hrep _ u _ hjc hjx) (refs_go hrf u (List.mem_of_getElem? hjc))
        rw [List.getD_eq_getElem?_getD, hjx]
        exact this
  | @p i off cs hi hrf =>
    obtain ⟨b, bo, hbx, hlt, hB⟩ := hm.box (hL i _ hi)
    cases hr with
    | p hp' =>
      rw [hbx] at hp'; cases hp'
      obtain ⟨xs, hxl, hx, hrep⟩ := hB.vals
      refine .q (fun j => xs.getD (off + j) undef) (fun u hu => hB.one u (List.mem_of_mem_drop hu)) (fun j u hj => ?_) (fun j u hj => ?_)
      · rw [List.getElem?_drop] at hj
        have hjl := (List.getElem?_eq_some_iff.1 hj).1
        have hjx : xs[off + j]? = some xs[off + j] := List.getElem?_eq_getElem (by omega)
        refine ⟨hlt, .inr ⟨i, _, hi, bo, hbx, by omega, by omega⟩, ?_⟩
        rw [Nat.add_assoc, List.getD_eq_getElem?_getD, hjx]
        exact hx _ _ hjx
      · rw [List.getElem?_drop] at hj
        have hjl := (List.getElem?_eq_some_iff.1 hj).1
        have hjx : xs[off + j]? = some xs[off + j] := List.getElem?_eq_getElem (by omega)
        have := rep_toV (L := L) (hrep _ u _ hj hjx) (refs_go hrf u (List.mem_of_getElem? hj))
        rw [List.getD_eq_getElem?_getD, hjx]
        exact this
  | @w i E gen sz off n es es' hi hn h0 he =>
    obtain ⟨a, c, hrw, hB⟩ := hm.buf (hL i _ hi)
    cases hr with
    | @w _ _ _ _ _ _ ad cap h =>
      obtain ⟨a', l, c', h1, h2, h3⟩ := h
      rw [hrw] at h1; cases h1
      obtain ⟨w1, w2, w3⟩ := h3 rfl
      obtain ⟨xs, hown, hrep⟩ := hB.own
      have hlen : es'.length = n := by rw [← he]; simp; omega
      have hes : ∀ e ∈ es', e ∈ es := fun e hm' => List.mem_of_mem_drop (List.mem_of_mem_take (he ▸ hm'))
      have hsz : ∀ e ∈ es, e.cells.length = sz := fun e he => (hB.cells e he).1
      obtain rfl := w3 (.inl (by omega))
      cases a with
      | none =>
        rcases hown.2 with ⟨hv, hz⟩ | ⟨q, cp, cur, _, hv, _⟩
        · omega
        · simp at hv
      | some b =>
        have hcm : c ≤ maxLen := by
          rcases hown.2 with ⟨hv, _⟩ | ⟨q, cp, cur, _, hv, _, _, _, hm1, _⟩
          · simp at hv
          · simp at hv; obtain ⟨_, rfl⟩ := hv; exact hm1
        have hin : ∀ (j : Nat) u, (es'.flatMap V.cells)[j]? = some u → (es.flatMap V.cells)[off * sz + j]? = some u := fun j u hj => by
          subst he
          refine flat_cut off (off + n) hsz ?_
          rw [Nat.add_sub_cancel_left]; exact hj
        rw [← hlen]
        simp only [Option.map_some]
        refine .s (size := sz) (fun j => xs.getD (off * sz + j) undef) (by omega) (by omega) hB.pos (fun e he => hB.cells e (hes e he)) (fun j u hj => ?_) (fun j u hj => ?_) fun _ h => by cases h
        · have hjc := hin j u hj
          have hjl := (List.getElem?_eq_some_iff.1 hjc).1
          rw [flat_len hsz, ← hown.1] at hjl
          have hjx : xs[off * sz + j]? = some xs[off * sz + j] := List.getElem?_eq_getElem hjl
          refine ⟨hB.lt rfl, .inr ⟨i, _, hi, _, _, hrw⟩, ?_⟩
          rw [own_cell hown hjl, List.getD_eq_getElem?_getD, hjx]
          rfl
        · have hjc := hin j u hj
          have hjl := (List.getElem?_eq_some_iff.1 hjc).1
          rw [flat_len hsz, ← hown.1] at hjl
          have hjx : xs[off * sz + j]? = some xs[off * sz + j] := List.getElem?_eq_getElem hjl
          rw [List.getD_eq_getElem?_getD, hjx]
          have h4 := hrep _ u _ hjc hjx
          exact h4.mono ⟨Nat.le_refl _, fun b o _ hs => ⟨.inl hs, rfl⟩, fun _ _ h => (by cases h), fun _ _ _ _ h => (by cases h)⟩
theorem views_rep {F : Fr0} {g : Gh} {w : World} {mem L : Mem} (hm : RelM F g mem w) (hL : ∀ i m, aget L i = some m → aget mem i = some m) {us vs : List V} (h : Views L us vs) : us.length = vs.length ∧ ∀ (j : Nat) v, vs[j]? = some v → ∃ u, us[j]? = some u ∧ ∀ x, Rep w g u x → Rep w (viewG g L) v x := by
  induction h with
  | nil => exact ⟨rfl, fun j v h => by simp at h⟩
  | cons h _ ih =>
    refine ⟨by simp [ih.1], fun j v hj => ?_⟩
    cases j with
    | zero => simp at hj; subst hj; exact ⟨_, rfl, fun x hx => view_rep hm hL h hx⟩
    | succ j => simp at hj; simpa using ih.2 j v hj
def readT (L : Mem) : Tch := L.map fun x => (x.1, some x.2, none)
theorem tset_read (L mem : Mem) : tset (readT L) mem = mem := by
  induction L with
  | nil => rfl
  | cons x r ih => simpa [readT, tset] using ih
theorem aget_map_mem {L : Mem} {i : Nat} {m : M} (h : aget L i = some m) : (i, some m, none) ∈ readT L := List.mem_map.2 ⟨(i, m), aget_mem h, rfl⟩
section
variable {P : Program} {o : Oper} {env : Env} {v : V}
/-- A call that only looks at what it is handed, and hands back a value that names no memory. -/
theorem Does.callV {fx : Nat} {xs : List Operand} {ts : Array Nat} {us args : List V} (L : Mem) (hc : LM P fx args [] fun o m => o = .ret v ∧ m = []) (ho : o.op = .call { callee := .value (.func fx), args := xs.toArray, argTypes := ts }) (hx : evs env xs = some us) (hu : Views L us args) (hp : v.pure = true) :
    Does P o env v (readT L) := by
  refine ⟨fun F g a w mem h1 h2 h3 h4 _ K Q hK => ?_⟩
  have hL : ∀ i m, aget L i = some m → aget mem i = some m := fun i m hi => h4 i _ none (aget_map_mem hi)
  obtain ⟨e1, e2⟩ := evs_get hx
  obtain ⟨f1, f2⟩ := views_rep h2 hL hu
  have hS : ∀ b o, w.heap.size ≤ b → viewS g L b o := fun b o hb => .inl (h2.fut b o hb)
  unfold Oper.wp
  rw [exec_call ho hc.ok]
  refine Calls.mono (hc.go (viewG g L) w _ ⟨fun _ _ h => (by cases h), fun _ _ _ _ h => (by cases h), fun _ _ _ _ _ _ _ h => (by cases h), fun _ _ => rfl, fun _ _ => rfl, hS, ⟨(h2.loc.tab.kept h3).sub fun _ _ h => .inl h, fun _ _ h => (by cases h), fun _ _ _ _ h => (by cases h)⟩⟩ (by simp; omega) fun j u x hj hxj => ?_) ?_
  · obtain ⟨u0, hu0, hb⟩ := f2 j u hj
    obtain ⟨y, hy, hev⟩ := e2 j u0 hu0
    have : x = a.eval y := by simp [hy] at hxj; exact hxj.symm
    subst this
    exact hb _ (h1 y (by simp [ho, Op.operands, Call.operands]; exact .inr (List.mem_of_getElem? hy)) u0 hev)
  · rintro e w' ⟨o', mo, g', ⟨rfl, rfl⟩, he, hm, hk, x, rfl, hrep⟩
    have hB : ∀ b o, ¬ (lentF (viewG g L) [] w).B b o := fun b o ⟨i, m, h, _⟩ => by cases h
    have hext : Ext w w' := ⟨hk.os, hk.tape, hk.output, hk.size, fun b hb => hk.blk b hb (hB b)⟩
    obtain ⟨k1, k2, k3⟩ := h2.ext (g' := ⟨fun b o => g'.S b o ∧ (b < w.heap.size → g.S b o), g.bx, g.rw⟩) h3 hext (fun b o hb => ⟨fun h => h.2 hb, fun h => ⟨hk.S2 b o hb (.inl h), fun _ => h⟩⟩) rfl rfl fun b o hb => ⟨hm.fut b o hb, fun hlt => by have := hk.size; simp only [lentF] at this; omega⟩
    exact hK x _ w' k1 (by rw [tset_read]; exact k2) k3 (hrep.pure hp _ _)
end
/-! ### Arrays of numbers, told by lists -/
theorem part_map {α : Type} [Inhabited α] {ti : TI} {l : List α} {f : α → V} {off k : Nat} (hd : ti.d.agg = false) (ho : off = k) (hk : k < l.length) : ti.part (l.map f) off = some (f (l.getD k default)) := by
  subst ho
  simp [TI.part, hd, hk]
theorem splice_map {α : Type} {l : List α} {f : α → V} {off k : Nat} {a : α} (ho : off = k) (hk : k < l.length) : splice (l.map f) off [f a] = (l.set k a).map f := by
  subst ho
  apply List.ext_getElem?
  intro j
  rw [splice_get (by simp; omega), List.getElem?_map, List.getElem?_map, List.getElem?_set]
  simp only [List.length_singleton]
  by_cases h : off = j
  · subst h; simp [hk]
  · rw [if_neg (by omega), if_neg h]
section
variable {P : Program} {o : Oper} {env : Env} {v : V}
theorem Does.idxArr1 {T i off n e k : Nat} {x ix : Operand} {kd : IntKind} {z : Int} (X : TOk P) {ti ei : TI} (ho : o.op = .indexAddr T x ix) (hx : evo env x = some (.p i off)) (hi : evo env ix = some (.k (.int kd z))) (hz : z = ((k : Nat) : Int)) (hT : aget X.tab T = some ti) (hd : ti.d = .arr n e) (hE : aget X.tab e = some ei) (hs : Nat.beq ei.size 1 = true) (hk : k < n) : Does P o env (.p i (off + k)) [] := by
  have := Does.idxArr X ho hx hi hz hT hd hE hk
  rwa [Nat.eq_of_beq_eq_true hs, Nat.mul_one] at this
theorem Does.idxArr0 {T i n e k : Nat} {x ix : Operand} {kd : IntKind} {z : Int} (X : TOk P) {ti ei : TI} (ho : o.op = .indexAddr T x ix) (hx : evo env x = some (.p i 0)) (hi : evo env ix = some (.k (.int kd z))) (hz : z = ((k : Nat) : Int)) (hT : aget X.tab T = some ti) (hd : ti.d = .arr n e) (hE : aget X.tab e = some ei) (hs : Nat.beq ei.size 1 = true) (hk : k < n) : Does P o env (.p i k) [] := by
  have := Does.idxArr1 X ho hx hi hz hT hd hE hs hk
  rwa [Nat.zero_add] at this
theorem Does.idxSb1 {T e k i off n cap : Nat} {x ix : Operand} {kd : IntKind} {z : Int} (X : TOk P) {ti ei : TI} (ho : o.op = .indexAddr T x ix) (hx : evo env x = some (.sb i off n cap)) (hi : evo env ix = some (.k (.int kd z))) (hz : z = ((k : Nat) : Int)) (hT : aget X.tab T = some ti) (hd : ti.d = .sl e) (hE : aget X.tab e = some ei) (hs : Nat.beq ei.size 1 = true) (hk : k < n) : Does P o env (.p i (off + k)) [] := by
  have := Does.idxSb X ho hx hi hz hT hd hE hk
  rwa [Nat.eq_of_beq_eq_true hs, Nat.mul_one] at this
theorem Does.cutA1 {T e l h i off n : Nat} {x : Operand} {lo hi : Option Operand} (X : TOk P) {ti ei : TI} (ho : o.op = .slice T x lo hi none) (hx : evo env x = some (.p i off)) (hT : aget X.tab T = some ti) (hd : ti.d = .arr n e) (hE : aget X.tab e = some ei) (hs : Nat.beq ei.size 1 = true) (hlo : Bd env 0 lo l) (hhi : Bd env n hi h)
    (h1 : l ≤ h) (h2 : h ≤ n) (h3 : l < n) : Does P o env (.sb i (off + l) (h - l) (n - l)) [] := by
  have := Does.cutA X ho hx hT hd hE hlo hhi h1 h2 h3
  rwa [Nat.eq_of_beq_eq_true hs, Nat.mul_one] at this
/-- Two arrays of integers held against each other. -/
theorem rep_ints {α : Type} {w : World} {g : Gh} {k : IntKind} {f : α → Int} {l : List α} {x : Value} (h : Rep w g (.a (l.map fun a => .k (.int k (f a)))) x) : ∃ xs : Array Value, x = .agg xs ∧ xs.size = l.length ∧ ∀ i (hi : i < l.length), xs[i]? = some (.int k (f l[i])) := by
  cases h with
  | @a _ _ vs hl h1 hc =>
    rw [List.length_map] at hl
    refine ⟨vs, rfl, hl.symm, fun i hi => ?_⟩
    have hv : vs[i]? = some vs[i] := Array.getElem?_eq_getElem (by omega)
    have := rep_k (hc i (.k (.int k (f l[i]))) vs[i] (by rw [List.getElem?_map, List.getElem?_eq_getElem hi]; rfl) hv)
    rw [hv, this]
theorem all_eq {α : Type} {f : α → Int} (inj : ∀ a b, f a = f b → a = b) {l m : List α} {n : Nat} (hl : l.length = n) (hm : m.length = n) (d : α) : ((List.range n).all fun i => f (l.getD i d) == f (m.getD i d)) = @decide (l = m) (Classical.propDecidable _) := by
  rw [Bool.eq_iff_iff, List.all_eq_true, @decide_eq_true_iff _ (Classical.propDecidable _)]
  constructor
  · intro h
    apply List.ext_getElem (by omega)
    intro i h1 h2
    have := h i (List.mem_range.2 (by omega))
    rw [beq_iff_eq] at this
    have := inj _ _ this
    simpa [List.getD_eq_getElem?_getD, List.getElem?_eq_getElem h1, List.getElem?_eq_getElem h2] using this
  · rintro rfl i _; simp
theorem run_eqInts {α : Type} {T n e : Nat} {k : IntKind} {f : α → Int} (inj : ∀ a b, f a = f b → a = b) (X : TOk P) {ti ei : TI} (hT : aget X.tab T = some ti) (hd : ti.d = .arr n e) (hE : aget X.tab e = some ei) (he : ei.d = .int k) (hs : Nat.beq ei.size 1 = true) {l m : List α} (hl : l.length = n) (hm : m.length = n)
    {xs ys : Array Value} (hx : ∀ i (hi : i < l.length), xs[i]? = some (.int k (f l[i]))) (hy : ∀ i (hi : i < m.length), ys[i]? = some (.int k (f m[i]))) (w : World) :
    (binOp .eql T (.agg xs) (.agg ys)).run P w = .ok (.bool (@decide (l = m) (Classical.propDecidable _))) w ∧ (binOp .neq T (.agg xs) (.agg ys)).run P w = .ok (.bool (!(@decide (l = m) (Classical.propDecidable _)))) w := by
  have hsz : (P.info? e).map (·.size) = some 1 := by rw [(X.get hE).size, Nat.eq_of_beq_eq_true hs]
  rcases Nat.eq_zero_or_pos n with h0 | h0
  · subst h0
    have e1 : l = [] := List.eq_nil_of_length_eq_zero hl
    have e2 : m = [] := List.eq_nil_of_length_eq_zero hm
    subst e1; subst e2
    have q1 := Eq'.run_eql (P := P) (t := T) (e := e) (n := 0) (k := k) ((X.get hT).arr hd) ((X.get hE).int he) hsz (f := fun _ => 0) (g := fun _ => 0) (xs := xs) (ys := ys) (fun i hi => by omega) (fun i hi => by omega) w
    have q2 := Eq'.run_neq (P := P) (t := T) (e := e) (n := 0) (k := k) ((X.get hT).arr hd) ((X.get hE).int he) hsz (f := fun _ => 0) (g := fun _ => 0) (xs := xs) (ys := ys) (fun i hi => by omega) (fun i hi => by omega) w
    rw [q1, q2]
    simp
  · obtain ⟨d⟩ : Nonempty α := ⟨l[0]⟩
    have hx' : ∀ i, i < n → xs[i]? = some (.int k (f (l.getD i d))) := fun i hi => by rw [hx i (by omega), List.getD_eq_getElem?_getD, List.getElem?_eq_getElem (by omega)]; rfl
    have hy' : ∀ i, i < n → ys[i]? = some (.int k (f (m.getD i d))) := fun i hi => by rw [hy i (by omega), List.getD_eq_getElem?_getD, List.getElem?_eq_getElem (by omega)]; rfl
    rw [Eq'.run_eql (P := P) (k := k) ((X.get hT).arr hd) ((X.get hE).int he) hsz hx' hy' w, Eq'.run_neq (P := P) (k := k) ((X.get hT).arr hd) ((X.get hE).int he) hsz hx' hy' w, all_eq inj hl hm d]
    exact ⟨rfl, rfl⟩
theorem eqGuard_arr {b : BinOp} {T n e : Nat} {k : IntKind} (X : TOk P) {ti ei : TI} (hT : aget X.tab T = some ti) (hd : ti.d = .arr n e) (hE : aget X.tab e = some ei) (he : ei.d = .int k) {x y : Operand} {xs ys : Array Value} (w : World) : (eqGuard b T x y (.agg xs) (.agg ys)).run P w = .ok () w := by
  have hdp : ∃ m, P.depth = m + 2 := ⟨2 * (P.types.size + Made.depth), rfl⟩
  obtain ⟨m, hm⟩ := hdp
  have : P.eqGuardType P.depth T = false := by
    rw [hm]
    simp [Program.eqGuardType, (X.get hT).arr hd, (X.get hE).int he]
  unfold eqGuard
  cases b <;> simp [this, program, Sem.run]
theorem Does.eqInts {α : Type} {T n e Y : Nat} {k : IntKind} {f : α → Int} {x y : Operand} {l m : List α} (inj : ∀ a b, f a = f b → a = b) (X : TOk P) {ti ei : TI} (ho : o.op = .binOp .eql T x y Y) (hx : evo env x = some (.a (l.map fun a => .k (.int k (f a))))) (hy : evo env y = some (.a (m.map fun a => .k (.int k (f a)))))
    (hT : aget X.tab T = some ti) (hd : ti.d = .arr n e) (hE : aget X.tab e = some ei) (he : ei.d = .int k) (hs : Nat.beq ei.size 1 = true) (hl : l.length = n) (hm : m.length = n) {r : Bool} (hr' : @decide (l = m) (Classical.propDecidable _) = r) : Does P o env (.k (.bool r)) [] :=
  .pure fun F g a w mem hr _ => by
    subst hr'
    obtain ⟨xs, e1, h1, h2⟩ := rep_ints (hr x (by simp [ho, Op.operands]) _ hx)
    obtain ⟨ys, e2, h3, h4⟩ := rep_ints (hr y (by simp [ho, Op.operands]) _ hy)
    obtain ⟨q1, q2⟩ := run_eqInts inj X hT hd hE he hs hl hm h2 h4 w
    exact ⟨_, by simp only [execOp, ho, e1, e2, Sem.run_bind, eqGuard_arr X hT hd hE he, Result.andThen_ok, q1]; rfl, .k _⟩
theorem Does.neInts {α : Type} {T n e Y : Nat} {k : IntKind} {f : α → Int} {x y : Operand} {l m : List α} (inj : ∀ a b, f a = f b → a = b) (X : TOk P) {ti ei : TI} (ho : o.op = .binOp .neq T x y Y) (hx : evo env x = some (.a (l.map fun a => .k (.int k (f a))))) (hy : evo env y = some (.a (m.map fun a => .k (.int k (f a)))))
    (hT : aget X.tab T = some ti) (hd : ti.d = .arr n e) (hE : aget X.tab e = some ei) (he : ei.d = .int k) (hs : Nat.beq ei.size 1 = true) (hl : l.length = n) (hm : m.length = n) {r : Bool} (hr' : @decide (¬ l = m) (Classical.propDecidable _) = r) : Does P o env (.k (.bool r)) [] :=
  .pure fun F g a w mem hr _ => by
    subst hr'
    obtain ⟨xs, e1, h1, h2⟩ := rep_ints (hr x (by simp [ho, Op.operands]) _ hx)
    obtain ⟨ys, e2, h3, h4⟩ := rep_ints (hr y (by simp [ho, Op.operands]) _ hy)
    obtain ⟨q1, q2⟩ := run_eqInts inj X hT hd hE he hs hl hm h2 h4 w
    refine ⟨_, by simp only [execOp, ho, e1, e2, Sem.run_bind, eqGuard_arr X hT hd hE he, Result.andThen_ok, q2]; rfl, ?_⟩
    have : (!(@decide (l = m) (Classical.propDecidable _))) = @decide (¬ l = m) (Classical.propDecidable _) := by
      rw [Bool.eq_iff_iff]; simp
    rw [this]
    exact .k _
theorem bK_inj (a b : UInt8) (h : (a.toNat : Int) = (b.toNat : Int)) : a = b := UInt8.toNat_inj.1 (by omega)
/-- A number of 64 bits. -/
def qK (x : UInt64) : V := .k (.int .u64 (x.toNat : Int))
def uK (n : Nat) : V := .k (.int .u64 ((n : Nat) : Int))
theorem uK_inj (a b : Nat) (h : ((a : Nat) : Int) = ((b : Nat) : Int)) : a = b := by omega
theorem qK_inj (a b : UInt64) (h : (a.toNat : Int) = (b.toNat : Int)) : a = b := UInt64.toNat_inj.1 (by omega)
end
/-! ### Numbers of 64 bits -/
theorem uadd {a b : UInt64} : IntKind.u64.wrap ((a.toNat : Int) + (b.toNat : Int)) = ((a + b).toNat : Int) := by
  rw [wrap_uns rfl, UInt64.toNat_add]; norm_cast
theorem usub {a b : UInt64} : IntKind.u64.wrap ((a.toNat : Int) - (b.toNat : Int)) = ((a - b).toNat : Int) := by
  have ha := a.toNat_lt
  have hb := b.toNat_lt
  rw [wrap_uns rfl, UInt64.toNat_sub]
  have e : (2 : Int) ^ IntKind.u64.bits = 18446744073709551616 := by decide
  have e2 : (2 : Nat) ^ 64 = 18446744073709551616 := by decide
  rw [e]
  rw [e2] at *
  omega
theorem uxor {a b : UInt64} : IntKind.u64.wrap (((BitVec.ofInt IntKind.u64.bits (a.toNat : Int) ^^^ BitVec.ofInt IntKind.u64.bits (b.toNat : Int)).toNat : Nat) : Int) = ((a ^^^ b).toNat : Int) := by
  rw [xor_u64 a.toNat_lt b.toNat_lt, UInt64.toNat_xor]
theorem uxorn {a : UInt64} {n : Nat} : IntKind.u64.wrap (((BitVec.ofInt IntKind.u64.bits (a.toNat : Int) ^^^ BitVec.ofInt IntKind.u64.bits (n : Int)).toNat : Nat) : Int) = ((a ^^^ UInt64.ofNat n).toNat : Int) := by
  rw [BitVec.toNat_xor, ofInt_nat, ofInt_nat, UInt64.toNat_xor, UInt64.toNat_ofNat']
  have e : (2 : Nat) ^ IntKind.u64.bits = 2 ^ 64 := rfl
  rw [e, Nat.mod_eq_of_lt a.toNat_lt]
  exact wrap_fit (k := .u64) rfl (Nat.xor_lt_two_pow a.toNat_lt (Nat.mod_lt _ (Nat.two_pow_pos 64)))
theorem mul_u64m {a b : Nat} : IntKind.u64.wrap ((a : Int) * OfNat.ofNat b) = ((a * OfNat.ofNat b % 2 ^ 64 : Nat) : Int) := by
  rw [wrap_uns rfl]
  exact (Int.natCast_emod _ _).symm.trans rfl
theorem beq_len {α : Type} {l : List α} {n : Nat} (h : l.length = n) : Nat.beq l.length n = true := by rw [h]; exact Nat.beq_refl n
theorem ble_len {a b : Nat} (h : a ≤ b) : Nat.ble a b = true := Nat.ble_eq_true_of_le h
theorem splice_all {cs us : List V} (h : us.length = cs.length) : splice cs 0 us = us := by simp [splice, h]
/-- Something done n times, the number of the time at hand. -/
def iter {σ : Type} (f : σ → Nat → σ) (s : σ) : Nat → σ
  | 0 => s
  | n + 1 => f (iter f s n) n
theorem iter_inv {σ : Type} {f : σ → Nat → σ} {p : σ → Prop} (hf : ∀ s i, p s → p (f s i)) {s : σ} (hs : p s) : ∀ n, p (iter f s n)
  | 0 => hs
  | n + 1 => hf _ _ (iter_inv hf hs n)
end Lf
end Go.Proofs.YtgbgplijpomkeaaDoor

/- The lifted walk's loops; what names no memory, in lists that are not told one by one. -/
namespace Go.Proofs.YtgbgplijpomkeaaDoor
open Go.RowKit Rg
namespace Lf
/-- At a round's end: the head's state, of a lower measure. -/
structure LNext {α : Type} (I : α → Env) (J : α → Mem) (ok : α → Prop) (μ : α → Nat) (x : α) (env : Env) (mem : Mem) : Prop where
  ex : ∃ y, ok y ∧ μ y < μ x ∧ Sub env mem (I y) (J y)
theorem LNext.go {α : Type} {I : α → Env} {J : α → Mem} {ok : α → Prop} {μ : α → Nat} {x : α} {env : Env} {mem : Mem} {y : α} (he : SubE env (I y)) (hm : SubM mem (J y)) (hk : (mem.all fun x => Nat.blt x.1 1000 || (aget (J y) x.1).isSome) = true)
    (hrE : refsE (J y) (I y) = true) (hrM : refsM (J y) (J y) = true) (hok : ok y) (hlt : μ y < μ x) : LNext I J ok μ x env mem := ⟨y, hok, hlt, he, hm, by rw [hk, hrE, hrM]; rfl⟩
/-- The same, by a number and what came of it so far. -/
structure LNext2 {β : Type} (I : Nat → β → Env) (J : Nat → β → Mem) (ok : Nat → β → Prop) (μ : Nat → Nat) (i : Nat) (env : Env) (mem : Mem) : Prop where
  ex : ∃ y z, ok y z ∧ μ y < μ i ∧ Sub env mem (I y z) (J y z)
theorem LNext2.go {β : Type} {I : Nat → β → Env} {J : Nat → β → Mem} {ok : Nat → β → Prop} {μ : Nat → Nat} {i : Nat} {env : Env} {mem : Mem} {y : Nat} {z : β} (he : SubE env (I y z)) (hm : SubM mem (J y z)) (hk : (mem.all fun x => Nat.blt x.1 1000 || (aget (J y z) x.1).isSome) = true)
    (hrE : refsE (J y z) (I y z) = true) (hrM : refsM (J y z) (J y z) = true) (hok : ok y z) (hlt : μ y < μ i) : LNext2 I J ok μ i env mem := ⟨y, z, hok, hlt, he, hm, by rw [hk, hrE, hrM]; rfl⟩
/-- Put away. -/
structure Away (C : Prop) : Prop where
  out : C
theorem ble_map1 {α : Type} {l : List α} {f : α → V} {k : Nat} (h : k < l.length) : Nat.ble (k + 1) (l.map f).length = true := Nat.ble_eq_true_of_le (by rw [List.length_map]; exact h)
section
variable {P : Program} {F : Fr0} {N : Nat} {Q : LQ} {env : Env} {mem : Mem}
theorem LC.loopN {α : Type} {c : Code} (I : α → Env) (J : α → Mem) (ok : α → Prop) (μ : α → Nat) (x0 : α) (h0 : ok x0) (he : SubE env (I x0)) (hm : SubM mem (J x0)) (hk : (mem.all fun x => Nat.blt x.1 1000 || (aget (J x0) x.1).isSome) = true)
    (hrE : refsE (J x0) (I x0) = true) (hrM : refsM (J x0) (J x0) = true)
    (round : ∀ x, ok x → LC P F N c (LThen (LNext I J ok μ x) Q) (I x) (J x)) : LC P F N (.loop c) Q env mem :=
  LC.loop I J ok μ x0 h0 ⟨he, hm, by rw [hk, hrE, hrM]; rfl⟩ fun x hx => (round x hx).mono fun e env' mem' h => by
    cases e with
    | normal => exact h.ex
    | _ => exact h
theorem LC.loop2 {β : Type} {c : Code} (I : Nat → β → Env) (J : Nat → β → Mem) (ok : Nat → β → Prop) (μ : Nat → Nat) (i0 : Nat) (b0 : β) (h0 : ok i0 b0) (he : SubE env (I i0 b0)) (hm : SubM mem (J i0 b0)) (hk : (mem.all fun x => Nat.blt x.1 1000 || (aget (J i0 b0) x.1).isSome) = true)
    (hrE : refsE (J i0 b0) (I i0 b0) = true) (hrM : refsM (J i0 b0) (J i0 b0) = true)
    (round : ∀ i b, ok i b → LC P F N c (LThen (LNext2 I J ok μ i) Q) (I i b) (J i b)) : LC P F N (.loop c) Q env mem :=
  LC.loop (fun x : Nat × β => I x.1 x.2) (fun x => J x.1 x.2) (fun x => ok x.1 x.2) (fun x => μ x.1) (i0, b0) h0 ⟨he, hm, by rw [hk, hrE, hrM]; rfl⟩ fun x hx => (round x.1 x.2 hx).mono fun e env' mem' h => by
    cases e with
    | normal => obtain ⟨y, z, h1, h2, h3⟩ := h.ex; exact ⟨(y, z), h1, h2, h3⟩
    | _ => exact h
/-- Only some slots are looked at from here on. -/
theorem LC.less {c : Code} (env' : Env) (mem' : Mem) (he : SubE env env') (hm : SubM mem mem') (hk : (mem.all fun x => Nat.blt x.1 1000 || (aget mem' x.1).isSome) = true) (hrE : refsE mem' env' = true) (hrM : refsM mem' mem' = true) (h : LC P F N c Q env' mem') : LC P F N c Q env mem :=
  LC.weak ⟨he, hm, by rw [hk, hrE, hrM]; rfl⟩ h
end
theorem res1_cell {tab : Tab} {env : Env} {mem : Mem} {t T i off : Nat} {ti : TI} {cs : List V} {v : V} (h1 : aget env t = some (.p i off)) (h2 : aget tab T = some ti) (h3 : aget mem i = some (.b cs)) (h4 : ti.part cs off = some v) : res1 tab env mem (.cell t T) = some v := by
  simp [res1, h1, h2, h3, h4]
theorem resV_1 {tab : Tab} {env : Env} {mem : Mem} {r : ResultVar} {v : V} (h : res1 tab env mem r = some v) : resV tab env mem [r] = some v := h
theorem resV_2 {tab : Tab} {env : Env} {mem : Mem} {r s : ResultVar} {v u : V} (h : res1 tab env mem r = some v) (k : res1 tab env mem s = some u) : resV tab env mem [r, s] = some (.t [v, u]) := by simp [resV, resL, h, k]
theorem resV_3 {tab : Tab} {env : Env} {mem : Mem} {r s t : ResultVar} {v u z : V} (h : res1 tab env mem r = some v) (k : res1 tab env mem s = some u) (l : res1 tab env mem t = some z) : resV tab env mem [r, s, t] = some (.t [v, u, z]) := by simp [resV, resL, h, k, l]
theorem refs_mapq (mem : Mem) (l : List UInt64) : V.refs.go mem (l.map qK) = true := refs_of_all fun u hu => by obtain ⟨_, _, rfl⟩ := List.mem_map.1 hu; rfl
theorem refs_mapu (mem : Mem) (l : List Nat) : V.refs.go mem (l.map uK) = true := refs_of_all fun u hu => by obtain ⟨_, _, rfl⟩ := List.mem_map.1 hu; rfl
theorem refs_mapb (mem : Mem) (l : List UInt8) : V.refs.go mem (l.map bK) = true := refs_of_all fun u hu => by obtain ⟨_, _, rfl⟩ := List.mem_map.1 hu; rfl
theorem refs_append (mem : Mem) (a b : List V) : V.refs.go mem (a ++ b) = (V.refs.go mem a && V.refs.go mem b) := by
  induction a with
  | nil => rfl
  | cons v r ih => simp only [List.cons_append, V.refs.go, ih, Bool.and_assoc]
theorem pure_mapq (l : List UInt64) : V.pure.go (l.map qK) = true := pure_of_all fun u hu => by obtain ⟨_, _, rfl⟩ := List.mem_map.1 hu; rfl
theorem pure_mapu (l : List Nat) : V.pure.go (l.map uK) = true := pure_of_all fun u hu => by obtain ⟨_, _, rfl⟩ := List.mem_map.1 hu; rfl
theorem pure_mapb (l : List UInt8) : V.pure.go (l.map bK) = true := pure_of_all fun u hu => by obtain ⟨_, _, rfl⟩ := List.mem_map.1 hu; rfl
end Lf
end Go.Proofs.YtgbgplijpomkeaaDoor

/- What the one walker of the seat leans on: plain regions walked like drawn ones; tests that stay open; parts of joined cells; cuts of lists that are told as images. -/
namespace Go.Proofs.YtgbgplijpomkeaaDoor
open Go.RowKit Rg
namespace Lf
section
variable {P : Program} {F : Fr0} {N : Nat} {Q : LQ} {env : Env} {mem : Mem}
theorem DR.plain {ops : Array Oper} {chk : List (Nat × Tch) → Bool} {l : List (Nat × Oper)} {acc : List (Nat × Tch)} (h : DR P N ops chk (fun env mem => Q .normal env mem) l acc env mem) : ∀ {k : Nat} {os : List Oper}, l = enumI k os → LS P F N ops os Q env mem := by
  induction h with
  | nl _ h =>
    intro k os hl
    cases os with
    | nil => exact LS.nil h
    | cons o r => cases hl
  | run hd hg h ht _ ih =>
    intro k os hl
    cases os with
    | nil => cases hl
    | cons o' r => cases hl; exact LS.step hg h ht hd (ih rfl)
  | pass hd hg _ ih =>
    intro k os hl
    cases os with
    | nil => cases hl
    | cons o' r => cases hl; exact LS.pass hg hd (ih rfl)
theorem LC.regionD {id : Nat} {l : List Oper} (h : DR P N l.toArray (fun _ => true) (fun env mem => Q .normal env mem) (enumI 0 l) [] env mem) : LC P F N (.region id l.toArray false) Q env mem := LC.region (h.plain rfl)
theorem LC.iteD {c : Operand} {x y : Code} {p : Prop} {dp : Decidable p} (hc : evo env c = some (.k (.bool (decide p)))) (h : (p → LC P F N x Q env mem) ∧ (¬ p → LC P F N y Q env mem)) : LC P F N (.cond c x y) Q env mem :=
  .cond hc (fun e => h.1 (of_decide_eq_true e)) fun e => h.2 (of_decide_eq_false e)
theorem LC.iteN {c : Operand} {x y : Code} {b : Bool} (hc : evo env c = some (.k (.bool (!b)))) (h : (b = false → LC P F N x Q env mem) ∧ (b = true → LC P F N y Q env mem)) : LC P F N (.cond c x y) Q env mem :=
  .cond hc (fun e => h.1 (by simpa using e)) fun e => h.2 (by simpa using e)
theorem LC.iteB {c : Operand} {x y : Code} {b : Bool} (hc : evo env c = some (.k (.bool b))) (h : (b = true → LC P F N x Q env mem) ∧ (b = false → LC P F N y Q env mem)) : LC P F N (.cond c x y) Q env mem := .cond hc h.1 h.2
theorem LC.iteT {c : Operand} {x y : Code} {b : Bool} (hc : evo env c = some (.k (.bool b))) (hb : b = true) (h : LC P F N x Q env mem) : LC P F N (.cond c x y) Q env mem := .cond hc (fun _ => h) fun e => by rw [hb] at e; cases e
theorem LC.iteF {c : Operand} {x y : Code} {b : Bool} (hc : evo env c = some (.k (.bool b))) (hb : b = false) (h : LC P F N y Q env mem) : LC P F N (.cond c x y) Q env mem := .cond hc (fun e => by rw [hb] at e; cases e) fun _ => h
end
/-- At the end: what comes out, told as the contract tells it. -/
def LFU (R : Out → Mem → Prop) (mem : Mem) (u : V) : Prop := ∃ v' mo, Tells mem u v' mo ∧ R (.ret v') mo
theorem LFin.by_ {P : Program} {X : TOk P} {rs : List ResultVar} {R : Out → Mem → Prop} {env : Env} {mem : Mem} {u : V} (h : resV X.tab env mem rs = some u) (k : LFU R mem u) : LFin X rs R env mem :=
  let ⟨v', mo, a, b⟩ := k
  ⟨u, v', mo, h, a, b⟩
theorem LRet.ret_ {P : Program} {X : TOk P} {rs : List ResultVar} {R : Out → Mem → Prop} {env : Env} {mem : Mem} {u : V} (h : resV X.tab env mem rs = some u) (k : LFU R mem u) : LRet X rs R .ret env mem := LFin.by_ h k
theorem LRet.nrm {P : Program} {X : TOk P} {rs : List ResultVar} {R : Out → Mem → Prop} {env : Env} {mem : Mem} {u : V} (h : resV X.tab env mem rs = some u) (k : LFU R mem u) : LRet X rs R .normal env mem := LFin.by_ h k
theorem LFU.eqV {mem : Mem} {u v : V} (hr : u.refs [] = true) (hv : u = v) : LFU (fun o m => o = .ret v ∧ m = []) mem u := by
  subst hv; exact ⟨u, [], ⟨⟨_, _, cv_same u⟩, trivial, by rw [hr]; rfl⟩, rfl, rfl⟩
theorem LFU.cvV {mem : Mem} {u v : V} (nn : Bool) (hr : (u.cv (fun _ => false) nn).refs [] = true) (hv : u.cv (fun _ => false) nn = v) : LFU (fun o m => o = .ret v ∧ m = []) mem u := by
  subst hv; exact ⟨_, [], ⟨⟨_, nn, rfl⟩, trivial, by rw [hr]; rfl⟩, rfl, rfl⟩
theorem LFU.memV {mem mo : Mem} {u v : V} (hm : SubM mem mo) (hr : (u.refs mo && refsM mo mo) = true) (hv : u = v) : LFU (fun o m => o = .ret v ∧ m = mo) mem u := by
  subst hv; exact ⟨u, mo, ⟨⟨_, _, cv_same u⟩, hm, hr⟩, rfl, rfl⟩
theorem LFU.memC {mem mo : Mem} {u v : V} (keep : Nat → Bool) (nn : Bool) (hm : SubM mem mo) (hr : ((u.cv keep nn).refs mo && refsM mo mo) = true) (hv : u.cv keep nn = v) : LFU (fun o m => o = .ret v ∧ m = mo) mem u := by
  subst hv; exact ⟨_, mo, ⟨⟨keep, nn, rfl⟩, hm, hr⟩, rfl, rfl⟩
theorem thR {next : Env → Mem → Prop} {Q : LQ} {env : Env} {mem : Mem} (h : Q .ret env mem) : LThen next Q .ret env mem := h
theorem thE {next : Env → Mem → Prop} {Q : LQ} {i : Nat} {env : Env} {mem : Mem} (h : Q (.exit i) env mem) : LThen next Q (.exit i) env mem := h
theorem blkR {i : Nat} {Q : LQ} {env : Env} {mem : Mem} (h : Q .ret env mem) : LBlk i Q .ret env mem := h
theorem blkN {i : Nat} {Q : LQ} {env : Env} {mem : Mem} (h : Q .normal env mem) : LBlk i Q .normal env mem := h
theorem blkE {i : Nat} {Q : LQ} {env : Env} {mem : Mem} (h : Q .normal env mem) : LBlk i Q (.exit i) env mem := by simp only [LBlk, Nat.beq_refl, cond_true]; exact h
theorem ngR {Q : LQ} {env : Env} {mem : Mem} (h : Q .ret env mem) : LNoGoto Q .ret env mem := h
/-- Is the slot some operation's guard? -/
def usedG (ops : Array Oper) (d : Nat) : Bool := ops.toList.any fun o => match o.guard with
  | some (j, _) => (match ops[j]? with | some o' => (match o'.dst with | some e => Nat.beq e d | none => false) | none => false)
  | none => false
theorem litN (n : Nat) : (OfNat.ofNat n : Int) = ((OfNat.ofNat n : Nat) : Int) := rfl
/-- Numbers that are told as they are. -/
theorem natZ {z : Int} (h : 0 ≤ z) : z = ((z.toNat : Nat) : Int) := (Int.toNat_of_nonneg h).symm
theorem evo_ki {env : Env} {k : IntKind} {z : Int} : evo env (.const (.int k z)) = some (.k (.int k z)) := rfl
theorem evo_kb {env : Env} {b : Bool} : evo env (.const (.bool b)) = some (.k (.bool b)) := rfl
/-! ### Parts of joined cells -/
theorem part_mk {ti : TI} {cs : List V} {off : Nat} (hd : ti.d.agg = true) (h : off + ti.size ≤ cs.length) : ti.part cs off = some (.a ((cs.drop off).take ti.size)) := by
  unfold TI.part
  rw [hd]
  simp only [cond_true]
  cases h1 : (off.beq 0 && cs.length.beq ti.size) with
  | true =>
    simp only [Bool.and_eq_true] at h1
    have e1 := Nat.eq_of_beq_eq_true h1.1
    have e2 := Nat.eq_of_beq_eq_true h1.2
    subst e1
    rw [List.drop_zero, List.take_of_length_le (by omega)]
    rfl
  | false =>
    rw [Nat.ble_eq_true_of_le h]
    rfl
theorem part_l {ti : TI} {a b : List V} {off : Nat} {v : V} (h : ti.part a off = some v) : ti.part (a ++ b) off = some v := by
  cases hd : ti.d.agg with
  | true =>
    obtain ⟨h1, rfl⟩ := part_agg hd h
    rw [part_mk hd (by simp only [List.length_append]; omega), List.drop_append_of_le_length (by omega), List.take_append_of_le_length (by rw [List.length_drop]; omega)]
  | false =>
    have h1 := part_one hd h
    unfold TI.part
    rw [hd]
    simp only [cond_false]
    rw [List.getElem?_append_left (List.getElem?_eq_some_iff.1 h1).1]
    exact h1
theorem part_r {ti : TI} {a b : List V} {off n k : Nat} {v : V} (hl : a.length = n) (hk : off = n + k) (h : ti.part b k = some v) : ti.part (a ++ b) off = some v := by
  subst hl; subst hk
  cases hd : ti.d.agg with
  | true =>
    obtain ⟨h1, rfl⟩ := part_agg hd h
    rw [part_mk hd (by simp only [List.length_append]; omega), List.drop_append, List.drop_of_length_le (by omega), List.nil_append, Nat.add_sub_cancel_left]
  | false =>
    have h1 := part_one hd h
    unfold TI.part
    rw [hd]
    simp only [cond_false]
    rw [List.getElem?_append_right (by omega), Nat.add_sub_cancel_left]
    exact h1
theorem splice_l {a b us cs : List V} {off : Nat} (h : splice a off us = cs) (hl : off + us.length ≤ a.length) : splice (a ++ b) off us = cs ++ b := by
  subst h
  unfold splice
  rw [List.take_append_of_le_length (by omega), List.drop_append_of_le_length hl]
  simp
theorem splice_r {a b us cs : List V} {off n k : Nat} (hl : a.length = n) (hk : off = n + k) (h : splice b k us = cs) : splice (a ++ b) off us = a ++ cs := by
  subst hl; subst hk; subst h
  unfold splice
  rw [List.take_append, List.drop_append, List.take_of_length_le (by omega), Nat.add_sub_cancel_left, List.drop_of_length_le (by omega), Nat.add_assoc, Nat.add_sub_cancel_left]
  simp
theorem splice_one {a b : V} {off : Nat} (ho : off = 0) : splice [a] off [b] = [b] := by subst ho; rfl
theorem off_r {off n : Nat} (h : n ≤ off) : off = n + (off - n) := by omega
theorem off_s {n k : Nat} : n + k = n + k := rfl
theorem ble_r {a b : List V} {n k m : Nat} (hl : a.length = n) (h : k + m ≤ b.length) : Nat.ble (n + k + m) (a ++ b).length = true := Nat.ble_eq_true_of_le (by rw [List.length_append]; omega)
/-! ### Cuts -/
theorem cut_map {α : Type} {f : α → V} {l0 : List α} {l h : Nat} : ((l0.map f).drop l).take (h - l) = ((l0.drop l).take (h - l)).map f := by rw [List.map_take, List.map_drop]
theorem cut_lo {α : Type} {f : α → V} {l0 : List α} {l : Nat} : ((l0.map f).drop l).take ((l0.map f).length - l) = (l0.drop l).map f := by
  rw [List.take_of_length_le (by simp), List.map_drop]
theorem cut_hi {α : Type} {f : α → V} {l0 : List α} {h : Nat} : ((l0.map f).drop 0).take (h - 0) = (l0.take h).map f := by rw [List.drop_zero, Nat.sub_zero, List.map_take]
theorem cut_all {α : Type} {f : α → V} {l0 : List α} : ((l0.map f).drop 0).take ((l0.map f).length - 0) = l0.map f := by rw [List.drop_zero, Nat.sub_zero, List.take_length]
/-- Images of joined lists. -/
theorem app_map {α : Type} {f : α → V} {a b : List α} : a.map f ++ b.map f = (a ++ b).map f := List.map_append.symm
theorem app_nilmap {α : Type} {f : α → V} {b : List α} : [] ++ b.map f = b.map f := rfl
theorem app_one1 {α : Type} {f : α → V} {a : List α} {x : α} : a.map f ++ [f x] = (a ++ [x]).map f := by rw [List.map_append]; rfl
theorem app_bl {a : List UInt8} {n : Nat} (h : (UInt8.ofNat n).toNat = n) : a.map bK ++ [.k (.int .u8 (n : Int))] = (a ++ [UInt8.ofNat n]).map bK := by
  rw [List.map_append]
  simp only [List.map_cons, List.map_nil, bK, h]
theorem sizes_map {α : Type} {f : α → V} {n : Nat} (hf : ∀ a, (f a).cells.length = n) (l : List α) : ∀ e ∈ l.map f, e.cells.length = n := fun e he => by
  obtain ⟨a, _, rfl⟩ := List.mem_map.1 he; exact hf a
theorem sizes_app {a b : List V} {n : Nat} (ha : ∀ e ∈ a, e.cells.length = n) (hb : ∀ e ∈ b, e.cells.length = n) : ∀ e ∈ a ++ b, e.cells.length = n := fun e he => (List.mem_append.1 he).elim (ha e) (hb e)
theorem sizes_nil {n : Nat} : ∀ e ∈ ([] : List V), e.cells.length = n := fun e he => by cases he
theorem sizes_cons {a : V} {b : List V} {n : Nat} (ha : a.cells.length = n) (hb : ∀ e ∈ b, e.cells.length = n) : ∀ e ∈ a :: b, e.cells.length = n := fun e he => (List.mem_cons.1 he).elim (fun h => h ▸ ha) (hb e)
theorem sizes_drop {a : List V} {n k : Nat} (ha : ∀ e ∈ a, e.cells.length = n) : ∀ e ∈ a.drop k, e.cells.length = n := fun e he => ha e (List.mem_of_mem_drop he)
theorem sizes_take {a : List V} {n k : Nat} (ha : ∀ e ∈ a, e.cells.length = n) : ∀ e ∈ a.take k, e.cells.length = n := fun e he => ha e (List.mem_of_mem_take he)
section
variable {P : Program} {N : Nat} {ops : Array Oper} {chk : List (Nat × Tch) → Bool} {K : Env → Mem → Prop} {acc : List (Nat × Tch)} {env : Env} {mem : Mem} {i d : Nat} {o : Oper} {rs : List (Nat × Oper)} {v : V}
/-- A guard by a fact; a guard of which nothing is known parts the walk. -/
theorem gd_y {j e : Nat} {want b : Bool} (h1 : o.guard = some (j, want)) (h2 : (ops[j]?).bind (·.dst) = some e) (h3 : aget env e = some (.k (.bool b))) (hb : b = want) : gd ops env o = some true := by
  unfold gd; rw [h1]; simp only [h2, h3, hb, BEq.rfl]
theorem gd_n {j e : Nat} {want b : Bool} (h1 : o.guard = some (j, want)) (h2 : (ops[j]?).bind (·.dst) = some e) (h3 : aget env e = some (.k (.bool b))) (hb : b = !want) : gd ops env o = some false := by
  unfold gd; rw [h1]; simp only [h2, h3, hb]; cases want <;> rfl
def Fresh (_ : Bool) : Prop := True
theorem fr1 {b : Bool} (_ : b = true) : Fresh b := trivial
theorem fr2 {b : Bool} (_ : b = false) : Fresh b := trivial
theorem DR.gs {j e : Nat} {want b : Bool} (_h1 : o.guard = some (j, want)) (_h2 : (ops[j]?).bind (·.dst) = some e) (_h3 : aget env e = some (.k (.bool b))) (_hn : Fresh b) (ht : b = true → DR P N ops chk K ((i, o) :: rs) acc env mem) (hf : b = false → DR P N ops chk K ((i, o) :: rs) acc env mem) : DR P N ops chk K ((i, o) :: rs) acc env mem := by
  cases hb : b
  · exact hf hb
  · exact ht hb
/-- append, the result told otherwise. -/
theorem DR.aq {T Tx E Ex sz j : Nat} {x y : Operand} {s : Option Nat} {es ys zs : List V} (X : TOk P) {ti xi ei : TI} (ho : o.op = .call { callee := .builtin .append, args := #[x, y], argTypes := #[T, Tx] }) (hg : gd ops env o = some true) (hds : o.dst = some d) (hx : evo env x = some (.s (some j) es)) (hy : evo env y = some (.s s ys))
    {n0 : Nat} (hm : aget mem j = some (.r E sz n0)) (hn0 : es.length = n0) (hT : aget X.tab T = some ti) (hdt : ti.d = .sl E) (hE : aget X.tab E = some ei) (hsz : ei.size = sz) (hX : aget X.tab Tx = some xi) (hdx : xi.d = .sl Ex)
    (hes : ∀ e ∈ es, e.cells.length = sz) (hys : ∀ e ∈ ys, e.cells.length = sz) (hz : es ++ ys = zs) {n : Nat} (hn : zs.length = n) (hmax : n ≤ 140737488355328) (hb : n * ei.bytes ≤ 140737488355328) (hd : Nat.blt d N = true)
    (hK : DR P N ops chk K rs ((i, [(j, some (.r E sz es.length), some (.r E sz n))]) :: acc) ((d, .s (some j) zs) :: env) ((j, .r E sz n) :: mem)) : DR P N ops chk K ((i, o) :: rs) acc env mem := by
  subst hz
  exact DR.ap X hg hds ho hx hy hm hn0 hT hdt hE hsz hX hdx hes hys (by rw [← List.length_append]; exact hn) hmax hb hd hK
/-- A test that guards others parts the walk. -/
theorem DR.gD {p : Prop} {dp : Decidable p} (hg : gd ops env o = some true) (hds : o.dst = some d) (_hu : usedG ops d = true) (h : Does P o env (.k (.bool (decide p))) []) (hd : Nat.blt d N = true) (h1 : p → DR P N ops chk K rs ((i, []) :: acc) ((d, .k (.bool true)) :: env) mem) (h2 : ¬ p → DR P N ops chk K rs ((i, []) :: acc) ((d, .k (.bool false)) :: env) mem) : DR P N ops chk K ((i, o) :: rs) acc env mem := DR.ppD hg hds h hd h1 h2
theorem DR.gB {b : Bool} (hg : gd ops env o = some true) (hds : o.dst = some d) (_hu : usedG ops d = true) (h : Does P o env (.k (.bool b)) []) (hd : Nat.blt d N = true) (h1 : b = true → DR P N ops chk K rs ((i, []) :: acc) ((d, .k (.bool true)) :: env) mem) (h2 : b = false → DR P N ops chk K rs ((i, []) :: acc) ((d, .k (.bool false)) :: env) mem) : DR P N ops chk K ((i, o) :: rs) acc env mem := DR.ppB hg hds h hd h1 h2
end
/-! ### Bytes, numbers of 64 bits -/
theorem to_u8b {a : Nat} : IntKind.u8.wrap ((a : Nat) : Int) = ((UInt8.ofNat a).toNat : Int) := by rw [to_u8, UInt8.toNat_ofNat']
theorem quo_u8r {a b : Nat} (h : a ≤ 255) : IntKind.u8.wrap (((a : Nat) : Int).tdiv (OfNat.ofNat b)) = ((a / OfNat.ofNat b : Nat) : Int) := by
  have := Nat.div_le_self a (OfNat.ofNat b)
  show IntKind.u8.wrap (((a / OfNat.ofNat b : Nat) : Nat) : Int) = _
  generalize a / OfNat.ofNat b = c at this ⊢
  exact wrap_u8 (by omega)
theorem shl_u8l {a n : Nat} (h : n ≤ 8) : IntKind.u8.wrap ((OfNat.ofNat a : Int) * 2 ^ (min ((n : Nat) : Int).toNat IntKind.u8.bits)) = ((UInt8.ofNat (OfNat.ofNat a * 2 ^ n)).toNat : Int) := by
  rw [Int.toNat_natCast, show IntKind.u8.bits = 8 from rfl, Nat.min_eq_left h, UInt8.toNat_ofNat']
  have : (OfNat.ofNat a : Int) * 2 ^ n = ((OfNat.ofNat a * 2 ^ n : Nat) : Int) := by rw [Int.natCast_mul, Int.natCast_pow]; rfl
  rw [this]
  exact wrap_unsN (k := .u8) rfl _
theorem uor {a b : UInt64} : IntKind.u64.wrap (((BitVec.ofInt IntKind.u64.bits (a.toNat : Int) ||| BitVec.ofInt IntKind.u64.bits (b.toNat : Int)).toNat : Nat) : Int) = ((a ||| b).toNat : Int) := by
  rw [or_u64 a.toNat_lt b.toNat_lt, UInt64.toNat_or]
theorem uorn {a : UInt64} {n : Nat} : IntKind.u64.wrap (((BitVec.ofInt IntKind.u64.bits (a.toNat : Int) ||| BitVec.ofInt IntKind.u64.bits (n : Int)).toNat : Nat) : Int) = ((a ||| UInt64.ofNat n).toNat : Int) := by
  rw [BitVec.toNat_or, ofInt_nat, ofInt_nat, UInt64.toNat_or, UInt64.toNat_ofNat']
  have e : (2 : Nat) ^ IntKind.u64.bits = 2 ^ 64 := rfl
  rw [e, Nat.mod_eq_of_lt a.toNat_lt]
  exact wrap_fit (k := .u64) rfl (Nat.or_lt_two_pow a.toNat_lt (Nat.mod_lt _ (Nat.two_pow_pos 64)))
theorem bor {a b : UInt8} : IntKind.u8.wrap (((BitVec.ofInt IntKind.u8.bits (a.toNat : Int) ||| BitVec.ofInt IntKind.u8.bits (b.toNat : Int)).toNat : Nat) : Int) = ((a ||| b).toNat : Int) := by
  rw [or_nat (k := .u8) rfl a.toNat_lt b.toNat_lt, UInt8.toNat_or]
/-! ### A slice of a box, looked at -/
theorem sub_map {α : Type} {f : α → V} {l : List α} {m n : Nat} : ((l.map f).drop m).take n = ((l.drop m).take n).map f := by rw [List.map_take, List.map_drop]
theorem sub_l {a b r : List V} {m n : Nat} (hs : (a.drop m).take n = r) (h : m + n ≤ a.length) : ((a ++ b).drop m).take n = r := by
  rw [List.drop_append_of_le_length (by omega), List.take_append_of_le_length (by rw [List.length_drop]; omega), hs]
theorem sub_r {a b r : List V} {off k m n : Nat} (hl : a.length = k) (hk : off = k + m) (hs : (b.drop m).take n = r) : ((a ++ b).drop off).take n = r := by
  subst hl; subst hk
  rw [List.drop_append, List.drop_of_length_le (by omega), List.nil_append, Nat.add_sub_cancel_left, hs]
section
variable {P : Program} {o : Oper} {env : Env} {v : V}
theorem Does.pickT {c x y : Operand} {b : Bool} (ho : o.op = .pick c x y) (hc : evo env c = some (.k (.bool b))) (hb : b = true) (hx : evo env x = some v) : Does P o env v [] := Does.pick ho hc (by rw [hb]; exact hx)
theorem Does.pickF {c x y : Operand} {b : Bool} (ho : o.op = .pick c x y) (hc : evo env c = some (.k (.bool b))) (hb : b = false) (hx : evo env y = some v) : Does P o env v [] := Does.pick ho hc (by rw [hb]; exact hx)
theorem Does.pickB {c x y : Operand} {b p q : Bool} (ho : o.op = .pick c x y) (hc : evo env c = some (.k (.bool b))) (hx : evo env x = some (.k (.bool p))) (hy : evo env y = some (.k (.bool q))) : Does P o env (.k (.bool (cond b p q))) [] := Does.pick ho hc (by cases b; exact hy; exact hx)
theorem Does.index1 {T e n k : Nat} {x ix : Operand} {kd : IntKind} {z : Int} {cs : List V} (X : TOk P) {ti ei : TI} (ho : o.op = .index T x ix) (hx : evo env x = some (.a cs)) (hi : evo env ix = some (.k (.int kd z))) (hz : z = ((k : Nat) : Int)) (hT : aget X.tab T = some ti) (hd : ti.d = .arr n e) (hE : aget X.tab e = some ei) (hs : Nat.beq ei.size 1 = true) (hk : k < n) (hv : ei.part cs k = some v) : Does P o env v [] :=
  Does.index X ho hx hi hz hT hd hE hk (by rw [Nat.eq_of_beq_eq_true hs, Nat.mul_one]; exact hv)
/-- A constant text's bytes: the row is marked beyond its end. -/
theorem Does.markS {T i E sz e : Nat} {x : Operand} {es : List V} (X : TOk P) {ti ei : TI} (ho : o.op = .convert T T x) (hx : evo env x = some (.s (some i) es)) (hT : aget X.tab T = some ti) (hd : ti.d = .sl e) (hE : aget X.tab e = some ei) (hdE : ei.d = .int .u8) (hne : Nat.blt 0 es.length = true) (hs : ∀ e ∈ es, e.cells.length = sz) :
    Does P o env (.s (some i) es) [(i, some (.r E sz es.length), some (.r E sz es.length))] := by
  refine ⟨fun F g a w mem h1 h2 h3 h4 _ K Q hK => ?_⟩
  have hi := h4 _ _ _ mem_one
  have hpos : 0 < es.length := Nat.le_of_ble_eq_true hne
  have hrx := h1 x (by simp [ho, Op.operands]) _ hx
  rcases rep_tip h2 hrx hi hs with ⟨ao, c, zs, e1, e2, hown, hp, hone, hrep⟩ | ⟨rfl, _⟩
  case inr => simp at hpos
  cases ao with
  | none =>
    rcases hown.2 with ⟨_, h0⟩ | ⟨q, cp, cur, fz, hv, _⟩
    · omega
    · simp at hv
  | some b =>
    rcases hown.2 with ⟨hv, _⟩ | ⟨q, cp, cur, fz, hv, hb0, hq, hnc, hcm, hcs, htk, hfz⟩
    · simp at hv
    · simp only [Option.map_some, Value.slice.injEq, Option.some.injEq, Addr.mk.injEq, and_true, true_and] at hv
      obtain ⟨rfl, rfl⟩ := hv
      obtain ⟨fz', hq', hfz'⟩ : ∃ fz' : Nat × Nat, (w.freeze ⟨b, cur.size, none⟩ 1).heap[b]? = some (.cells cur E fz') ∧ cur.size ≤ fz'.1 := by
        obtain ⟨lo, hi'⟩ := fz
        simp only at hfz
        by_cases hlh : lo = hi'
        · exact ⟨(cur.size, cur.size + 1), by simp [World.freeze, Array.getElem?_modify, hq, hlh], Nat.le_refl _⟩
        · have : cur.size ≤ lo := hfz.resolve_left fun e => hlh e.symm
          exact ⟨(Min.min lo cur.size, Max.max hi' (cur.size + 1)), by simp [World.freeze, Array.getElem?_modify, hq, hlh], by simp; omega⟩
      have hoth : ∀ k, k ≠ b → (w.freeze ⟨b, cur.size, none⟩ 1).heap[k]? = w.heap[k]? := fun k hk => by
        simp [World.freeze, Array.getElem?_modify, Ne.symm hk]
      have hsz : (w.freeze ⟨b, cur.size, none⟩ 1).heap.size = w.heap.size := by simp [World.freeze]
      have hcell : ∀ b0 o0, (w.freeze ⟨b, cur.size, none⟩ 1).cell? ⟨b0, o0, none⟩ = w.cell? ⟨b0, o0, none⟩ := fun b0 o0 => by
        by_cases h : b0 = b
        · subst h; simp [World.cell?, hq, hq']
        · exact World.cell?_of_block (hoth b0 h)
      have he : Ev g w g (w.freeze ⟨b, cur.size, none⟩ 1) := ⟨by omega, fun b0 o0 _ hs => ⟨hs, hcell b0 o0⟩, fun _ _ hz => hz, fun r a l c h => ⟨a, l, c, h, Nat.le_refl _, fun _ => ⟨rfl, rfl⟩⟩⟩
      obtain ⟨a0, c0, f1, hR⟩ := h2.row hi
      rw [e1] at f1; cases f1
      have hat : ∀ o0, at0 g mem i b o0 := fun o0 => ⟨_, hi, _, _, e1⟩
      have hown' : (w.freeze ⟨b, cur.size, none⟩ 1).oRow 0 E sz (.slice (Option.map (fun b => (⟨b, 0, none⟩ : Addr)) (some b)) es.length c) es.length zs := ⟨hown.1, .inr ⟨b, c, cur, fz', rfl, hb0, hq', hnc, hcm, hcs, htk, .inr hfz'⟩⟩
      obtain ⟨k1, k2⟩ := h2.step h3 (i := i) (m' := .r E sz es.length) he rfl rfl rfl (fun b0 o0 _ hn => ⟨hcell b0 o0, World.frozen?_of_block (hoth b0 fun e => hn (e ▸ hat o0)), fun hs => hs⟩) (fun b0 _ hn => hoth b0 fun e => hn 0 (e ▸ hat 0)) (fun _ _ => rfl) (fun _ _ => rfl) (.r e1 ⟨hp, ⟨zs, hown'⟩, hR.free⟩) (fun b0 o0 hp => .inl ⟨_, hi, hp⟩) fun b0 o0 hb => h2.fut b0 o0 (by omega)
      unfold Oper.wp
      have hrun : (execOp a.eval o).run P w = .ok (.value (a.eval x)) (w.freeze ⟨b, cur.size, none⟩ 1) := by
        simp [execOp, ho, e2, convert, run_underlying ((X.get hT).sl hd), run_underlying ((X.get hE).int hdE), markStringish, World.shape?, hq]
      rw [hrun]
      exact hK _ g _ he k1 k2 (hrx.mono he)
theorem Does.cutA0 {T e l h i n : Nat} {x : Operand} {lo hi : Option Operand} (X : TOk P) {ti ei : TI} (ho : o.op = .slice T x lo hi none) (hx : evo env x = some (.p i 0)) (hT : aget X.tab T = some ti) (hd : ti.d = .arr n e) (hE : aget X.tab e = some ei) (hs : Nat.beq ei.size 1 = true) (hlo : Bd env 0 lo l) (hhi : Bd env n hi h)
    (h1 : l ≤ h) (h2 : h ≤ n) (h3 : l < n) : Does P o env (.sb i l (h - l) (n - l)) [] := by
  have := Does.cutA1 X ho hx hT hd hE hs hlo hhi h1 h2 h3
  rwa [Nat.zero_add] at this
theorem Does.callSb {α : Type} {f : α → V} {fx i off n cap : Nat} {xs : List Operand} {ts : Array Nat} {cs : List V} {l : List α} {mem : Mem} (hc : LM P fx [.s none (l.map f)] [] fun o m => o = .ret v ∧ m = []) (ho : o.op = .call { callee := .value (.func fx), args := xs.toArray, argTypes := ts }) (hx : evs env xs = some [.sb i off n cap]) (_hm : aget mem i = some (.b cs))
    (hcs : (cs.drop off).take n = l.map f) (hf : ∀ a, (f a).cells = [f a]) (hl : l.length = n) (hr : V.refs.go [] cs = true) (hn : n ≤ cap) (hmx : cap ≤ maxLen) (hp : v.pure = true) : Does P o env v [(i, some (.b cs), none)] :=
  Does.callV [(i, .b cs)] hc ho hx (.cons (.sb (size := 1) (aget_self ..) hr (by
    rw [Nat.mul_one, hcs, List.flatMap_map]
    clear hc hcs hl
    induction l with
    | nil => rfl
    | cons a l ih => rw [List.flatMap_cons, hf, List.map_cons, ← ih]; rfl) (by rw [List.length_map]; exact hl) (fun e he => by obtain ⟨a, _, rfl⟩ := List.mem_map.1 he; rw [hf]; rfl) (by decide) hn hmx) .nil) hp
end
section
variable {P : Program} {N : Nat} {ops : Array Oper} {chk : List (Nat × Tch) → Bool} {K : Env → Mem → Prop} {acc : List (Nat × Tch)} {env : Env} {mem : Mem} {i d j : Nat} {o : Oper} {rs : List (Nat × Oper)} {v : V} {m : M}
theorem DR.mk {T E sz e j : Nat} {x : Operand} {es : List V} (X : TOk P) {ti ei : TI} (ho : o.op = .convert T T x) (hg : gd ops env o = some true) (hds : o.dst = some d) (hx : evo env x = some (.s (some j) es)) {n : Nat} (hm : aget mem j = some (.r E sz n)) (hn : es.length = n) (hT : aget X.tab T = some ti) (hdt : ti.d = .sl e) (hE : aget X.tab e = some ei) (hdE : ei.d = .int .u8) (hne : Nat.blt 0 es.length = true) (hs : ∀ e ∈ es, e.cells.length = sz) (hd : Nat.blt d N = true)
    (hK : DR P N ops chk K rs ((i, [(j, some (.r E sz es.length), some (.r E sz es.length))]) :: acc) ((d, .s (some j) es) :: env) ((j, .r E sz es.length) :: mem)) : DR P N ops chk K ((i, o) :: rs) acc env mem :=
  DR.ww hg hds (Does.markS X ho hx hT hdt hE hdE hne hs) (by rw [hn]; exact hm) hd hK
theorem DR.sb {α : Type} {f : α → V} {fx off n cap : Nat} {xs : List Operand} {ts : Array Nat} {cs : List V} {l : List α} (hg : gd ops env o = some true) (hds : o.dst = some d) (ho : o.op = .call { callee := .value (.func fx), args := xs.toArray, argTypes := ts }) (hx : evs env xs = some [.sb j off n cap]) (hm : aget mem j = some (.b cs))
    (hcs : (cs.drop off).take n = l.map f) (hc : LM P fx [.s none (l.map f)] [] fun o m => o = .ret v ∧ m = []) (hf : ∀ a, (f a).cells = [f a]) (hl : l.length = n) (hr : V.refs.go [] cs = true) (hn : n ≤ cap) (hmx : cap ≤ maxLen) (hp : v.pure = true) (hd : Nat.blt d N = true)
    (hK : DR P N ops chk K rs ((i, [(j, some (.b cs), none)]) :: acc) ((d, v) :: env) mem) : DR P N ops chk K ((i, o) :: rs) acc env mem := DR.rr hg hds (Does.callSb hc ho hx hm hcs hf hl hr hn hmx hp) hm hd hK
end
/-! ### One box that is lent -/
theorem ren_refs {ρ : Nat → Nat} (v : V) : v.refs [] = true → v.ren ρ = v := by
  induction v using V.rec (motive_2 := fun l => V.refs.go [] l = true → V.ren.go ρ l = l) with
  | k v => intro _; rfl
  | a cs ih => intro h; simp only [V.ren, ih (by simpa [V.refs] using h)]
  | t cs ih => intro h; simp only [V.ren, ih (by simpa [V.refs] using h)]
  | s o es => cases o with
    | none => intro _; rfl
    | some r => intro h; simp [V.refs, aget] at h
  | nil => intro _; rfl
  | p b off => intro h; simp [V.refs, aget] at h
  | sb b off n cap => intro h; simp [V.refs, aget] at h
  | q cs => intro _; rfl
  | f fn fi ca h1 h2 => intro h; simp only [V.refs, Bool.and_eq_true] at h; simp only [V.ren, h1 h.1, h2 h.2]
  | i T v ih => intro h; simp only [V.ren, ih (by simpa [V.refs] using h)]
  | w b gen sz off n => intro h; simp [V.refs, aget] at h
  | pw b gen off => intro h; simp [V.refs, aget] at h
  | mp b => intro h; simp [V.refs, aget] at h
  | y b => intro h; simp [V.refs, aget] at h
  | cons v l h1 h2 =>
    rename_i h
    simp only [V.refs.go, Bool.and_eq_true] at h
    simp only [V.ren.go, h1 h.1, h2 h.2]
  | _ => intro _; rfl
theorem ren_cells {ρ : Nat → Nat} {cs : List V} (h : V.refs.go [] cs = true) : cs.map (V.ren ρ) = cs := (List.map_congr_left fun u hu => ren_refs u (refs_go h u hu)).trans (List.map_id cs)
theorem LM.box1 {P : Program} {f : Nat} (A : Nat → List V) {cs cs' : List V} {v : V} (hA : ∀ (ρ : Nat → Nat) k, (A k).map (V.ren ρ) = A (ρ k)) (h1 : V.refs.go [] cs = true) (h2 : V.refs.go [] cs' = true) (hv : v.refs [] = true)
    (h : LM P f (A 1000) [(1000, .b cs)] fun o m => o = .ret v ∧ m = [(1000, .b cs')]) (i : Nat) : LM P f (A i) [(i, .b cs)] fun o m => o = .ret v ∧ m = [(i, .b cs')] :=
  LM.gen [1000] [i] (by simp) (by simp) rfl h fun ρ hρ => by
    simp at hρ
    refine ⟨by rw [hA, hρ], ?_, ?_, ?_⟩
    · simp [Mem.ren, M.ren, hρ, ren_cells h1]
    · simp [Out.ren, ren_refs v hv]
    · simp [Mem.ren, M.ren, hρ, ren_cells h2]
theorem cv_mapb (keep : Nat → Bool) (nn : Bool) (l : List UInt8) : V.cv.go keep nn (l.map bK) = l.map bK := by
  induction l with
  | nil => rfl
  | cons a l ih => simp only [List.map_cons, V.cv.go, ih]; rfl
theorem cv_mapu (keep : Nat → Bool) (nn : Bool) (l : List Nat) : V.cv.go keep nn (l.map uK) = l.map uK := by
  induction l with
  | nil => rfl
  | cons a l ih => simp only [List.map_cons, V.cv.go, ih]; rfl
theorem cv_mapq (keep : Nat → Bool) (nn : Bool) (l : List UInt64) : V.cv.go keep nn (l.map qK) = l.map qK := by
  induction l with
  | nil => rfl
  | cons a l ih => simp only [List.map_cons, V.cv.go, ih]; rfl
theorem ft1 {us args : List V} (h : V.cv.go (fun _ => false) false us = args) : Fits us args := Fits.cv _ _ h
theorem ft2 {us args : List V} (h : V.cv.go (fun _ => false) true us = args) : Fits us args := Fits.cv _ _ h
/-- Small facts that a walk asks for. -/
theorem lz {p : Prop} (h : p := by first | assumption | with_reducible rfl | omega | decide | (simp only [maxLen]; omega) | (simp only [V.cells, bK, qK, List.length_map, List.length_set, List.length_append, List.length_take, List.length_drop, List.length_cons, List.length_nil, List.length_replicate, List.length_reverse] <;> first | assumption | omega)) : p := h
theorem evp0 {env : Env} : evp env [] = some [] := rfl
theorem evp1 {env : Env} {i : Nat} {x : Operand} {v : V} (h : evo env x = some v) : evp env [(i, x)] = some [(i, v)] := by simp [evp, h]
theorem evp2 {env : Env} {i j : Nat} {x y : Operand} {v u : V} (h : evo env x = some v) (k : evo env y = some u) : evp env [(i, x), (j, y)] = some [(i, v), (j, u)] := by simp [evp, h, k]
theorem evp3 {env : Env} {i j k : Nat} {x y z : Operand} {v u t : V} (h : evo env x = some v) (h2 : evo env y = some u) (h3 : evo env z = some t) : evp env [(i, x), (j, y), (k, z)] = some [(i, v), (j, u), (k, t)] := by simp [evp, h, h2, h3]
theorem dense0 {n : Nat} : dense n [] = some [] := rfl
theorem dense1 {v v' : V} (h : v.bare = some v') : dense 0 [(0, v)] = some [v'] := by simp [dense, h]
theorem dense2 {v v' u u' : V} (h : v.bare = some v') (k : u.bare = some u') : dense 0 [(0, v), (1, u)] = some [v', u'] := by simp [dense, h, k]
theorem dense3 {v v' u u' t t' : V} (h : v.bare = some v') (k : u.bare = some u') (l : t.bare = some t') : dense 0 [(0, v), (1, u), (2, t)] = some [v', u', t'] := by simp [dense, h, k, l]
theorem bare_k {x : Value} : (V.k x).bare = some (.k x) := rfl
theorem bare_s {o : Option Nat} {es : List V} : (V.s o es).bare = some (.s none es) := rfl
theorem bare_map {α : Type} {f : α → V} (hf : ∀ a, (f a).bare = some (f a)) (l : List α) : V.bare.go (l.map f) = some (l.map f) := by
  induction l with
  | nil => rfl
  | cons a l ih => simp only [List.map_cons, V.bare.go, hf, ih]
theorem bare_am {α : Type} {f : α → V} {l : List α} (hf : ∀ a, (f a).bare = some (f a)) : (V.a (l.map f)).bare = some (.a (l.map f)) := by simp only [V.bare, bare_map hf, Option.map_some]
theorem all_sizes {n : Nat} {es : List V} (h : (es.all fun e => Nat.beq e.cells.length n) = true) : ∀ e ∈ es, e.cells.length = n := fun e he => Nat.eq_of_beq_eq_true (List.all_eq_true.1 h e he)
/-- Sizes of elements. -/
theorem sz' {n : Nat} {es : List V} (h : ∀ e ∈ es, e.cells.length = n := by repeat' (first | with_reducible assumption | with_reducible exact Eq.refl _ | with_reducible exact sizes_nil | with_reducible refine sizes_cons ?_ ?_ | with_reducible refine sizes_app ?_ ?_ | with_reducible refine sizes_drop ?_ | with_reducible refine sizes_take ?_ | ((with_reducible refine sizes_map ?_ _); intro _; rfl) | exact lz | assumption | exact Eq.refl _)) : ∀ e ∈ es, e.cells.length = n := h
theorem dT {p : Prop} {i : Decidable p} (h : p) : @decide p i = true := @decide_eq_true p i h
theorem dF {p : Prop} {i : Decidable p} (h : ¬ p) : @decide p i = false := @decide_eq_false p i h
theorem bz {p q : Bool} (h : p = q := by first | assumption | rfl | (simp_all; done)) : V.k (.bool p) = V.k (.bool q) := by rw [h]
theorem trueW : True := trivial
end Lf
end Go.Proofs.YtgbgplijpomkeaaDoor

/- Panics inside regions: a plain region up to the operation that panics; a region that draws its order, one of whose operations panics, while those that may come ahead of it only read. -/
namespace Go.Proofs.YtgbgplijpomkeaaDoor
open Go.RowKit Rg
namespace Lf
section
variable {P : Program} {F : Fr0} {N : Nat} {Q : LQ} {env : Env} {mem : Mem}
theorem DR.plain2 {ops : Array Oper} {chk : List (Nat × Tch) → Bool} {post : List Oper} {l : List (Nat × Oper)} {acc : List (Nat × Tch)} (h : DR P N ops chk (fun env mem => LS P F N ops post Q env mem) l acc env mem) : ∀ {k : Nat} {os : List Oper}, l = enumI k os → LS P F N ops (os ++ post) Q env mem := by
  induction h with
  | nl _ h =>
    intro k os hl
    cases os with
    | nil => exact h
    | cons o r => cases hl
  | run hd hg h ht _ ih =>
    intro k os hl
    cases os with
    | nil => cases hl
    | cons o' r => cases hl; exact LS.step hg h ht hd (ih rfl)
  | pass hd hg _ ih =>
    intro k os hl
    cases os with
    | nil => cases hl
    | cons o' r => cases hl; exact LS.pass hg hd (ih rfl)
/-- A plain region up to its k-th operation. -/
theorem LC.upTo (k : Nat) {id : Nat} {l : List Oper} (h : DR P N l.toArray (fun _ => true) (fun env mem => LS P F N l.toArray (l.drop k) Q env mem) (enumI 0 (l.take k)) [] env mem) : LC P F N (.region id l.toArray false) Q env mem := by
  refine LC.region ?_
  have := h.plain2 rfl
  rwa [List.take_append_drop] at this
theorem LS.panic {ops : Array Oper} {o : Oper} {r : List Oper} {x : Operand} {T : TypeId} {v : V} (ho : o.op = .panic x) (hg : gd ops env o = some true) (hx : evo env x = some (.i T v)) (hQ : Q (.pan (.i T v)) env mem) : LS P F N ops (o :: r) Q env mem := LS.pan hg (Pans.panic ho hx) tpre_nil hQ
theorem LS.panC {ops : Array Oper} {o : Oper} {r : List Oper} {fx : Nat} {xs : List Operand} {ts : Array Nat} {us args : List V} {mi mo : Mem} {v : V} (hc : LM P fx args mi fun o m => o = .pan v ∧ m = mo) (ho : o.op = .call { callee := .value (.func fx), args := xs.toArray, argTypes := ts }) (hg : gd ops env o = some true) (hx : evs env xs = some us) (hu : Fits us args) (hr : (V.refs.go mi args && (refsM mi mi && keysOk mi mo)) = true) (ht : TPre mi mo mem) (hQ : Q (.pan v) env (mo ++ mem)) : LS P F N ops (o :: r) Q env mem :=
  LS.pc hg (Pans.callM hc ho hx hu hr) ht hQ
theorem thP {next : Env → Mem → Prop} {Q : LQ} {v : V} {env : Env} {mem : Mem} (h : Q (.pan v) env mem) : LThen next Q (.pan v) env mem := h
theorem blkP {i : Nat} {Q : LQ} {v : V} {env : Env} {mem : Mem} (h : Q (.pan v) env mem) : LBlk i Q (.pan v) env mem := h
theorem ngP {Q : LQ} {v : V} {env : Env} {mem : Mem} (h : Q (.pan v) env mem) : LNoGoto Q (.pan v) env mem := h
theorem LRet.pan {X : TOk P} {rs : List ResultVar} {R : Out → Mem → Prop} {v : V} {env : Env} {mem : Mem} (mo : Mem) (hm : SubM mem mo) (hr : (v.refs mo && refsM mo mo) = true) (hR : R (.pan v) mo) : LRet X rs R (.pan v) env mem := ⟨v, mo, ⟨⟨_, _, cv_same v⟩, hm, hr⟩, hR⟩
/-- A loop by two states; the first one's measure falls. -/
structure LNext3 {β γ : Type} (I : β → γ → Env) (J : β → γ → Mem) (ok : β → γ → Prop) (μ : β → Nat) (b : β) (env : Env) (mem : Mem) : Prop where
  ex : ∃ y z, ok y z ∧ μ y < μ b ∧ Sub env mem (I y z) (J y z)
theorem LNext3.go {β γ : Type} {I : β → γ → Env} {J : β → γ → Mem} {ok : β → γ → Prop} {μ : β → Nat} {b : β} {y : β} {z : γ} (he : SubE env (I y z)) (hm : SubM mem (J y z)) (hk : (mem.all fun x => Nat.blt x.1 1000 || (aget (J y z) x.1).isSome) = true)
    (hrE : refsE (J y z) (I y z) = true) (hrM : refsM (J y z) (J y z) = true) (hok : ok y z) (hlt : μ y < μ b) : LNext3 I J ok μ b env mem := ⟨y, z, hok, hlt, he, hm, by rw [hk, hrE, hrM]; rfl⟩
theorem LC.loop3 {β γ : Type} {c : Code} (I : β → γ → Env) (J : β → γ → Mem) (ok : β → γ → Prop) (μ : β → Nat) (b0 : β) (c0 : γ) (h0 : ok b0 c0) (he : SubE env (I b0 c0)) (hm : SubM mem (J b0 c0)) (hk : (mem.all fun x => Nat.blt x.1 1000 || (aget (J b0 c0) x.1).isSome) = true)
    (hrE : refsE (J b0 c0) (I b0 c0) = true) (hrM : refsM (J b0 c0) (J b0 c0) = true)
    (round : ∀ b z, ok b z → LC P F N c (LThen (LNext3 I J ok μ b) Q) (I b z) (J b z)) : LC P F N (.loop c) Q env mem :=
  LC.loop (fun x : β × γ => I x.1 x.2) (fun x => J x.1 x.2) (fun x => ok x.1 x.2) (fun x => μ x.1) (b0, c0) h0 ⟨he, hm, by rw [hk, hrE, hrM]; rfl⟩ fun x hx => (round x.1 x.2 hx).mono fun e env' mem' h => by
    cases e with
    | normal => obtain ⟨y, z, h1, h2, h3⟩ := h.ex; exact ⟨(y, z), h1, h2, h3⟩
    | _ => exact h
/-- A nil slice in a cell of a box is taken for the beginning of a row. -/
theorem LC.nilcell {c : Code} {cs : List V} (i j r E sz : Nat) (hi : aget mem i = some (.b cs)) (hj : cs[j]? = some .nil) (hr : aget mem r = none) (hne : r ≠ i) (hp : Nat.blt 0 sz = true) (h : LC P F N c Q env ((i, .b (cs.set j (.s (some r) []))) :: (r, .r E sz 0) :: mem)) : LC P F N c Q env mem := ⟨fun F0 hx g a w hrel => by
  have hown0 : w.oRow 0 E sz (.slice (Option.map (fun b => (⟨b, 0, none⟩ : Addr)) none) 0 0) 0 [] := oRow_nil w 0 E sz
  have hgi : (g.addRow r (none, 0, 0)).rw r = some (none, 0, 0) := by simp [Gh.addRow]
  obtain ⟨he, h2, h3⟩ := hrel.mem.nilRow hrel.kept (m := .r E sz 0) hr (.r hgi ⟨Nat.le_of_ble_eq_true hp, ⟨_, hown0⟩, fun _ h => by cases h⟩) fun b o ⟨l, c, hp⟩ => by rw [hgi] at hp; cases hp
  have hi2 : aget ((r, M.r E sz 0) :: mem) i = some (.b cs) := by rw [aget_ne hne]; exact hi
  obtain ⟨b, off, hb, hlt, hB⟩ := h2.box hi2
  have hjl := (List.getElem?_eq_some_iff.1 hj).1
  have hob : ObjAt (g.addRow r (none, 0, 0)) w i (.b (cs.set j (.s (some r) []))) := .b hb hlt ⟨fun u hu => by
    obtain ⟨k, hk⟩ := List.getElem?_of_mem hu
    rw [List.getElem?_set] at hk
    split at hk
    · first
      | (cases hk; rfl)
      | (split at hk
         · cases hk; rfl
         · cases hk)
    · exact hB.one u (List.mem_of_getElem? hk), fun k u hk => by
    rw [List.getElem?_set] at hk
    split at hk
    · rename_i e
      subst e
      (try rw [if_pos hjl] at hk)
      cases hk
      obtain ⟨a1, a2, x, a3, a4⟩ := hB.at_ j .nil hj
      cases a4
      exact ⟨a1, a2, _, a3, .s0 fun r' hr' => by cases hr'; exact ⟨none, 0, 0, hgi, Nat.le_refl _, fun _ => .inl rfl⟩⟩
    · exact hB.at_ k u hk⟩
  obtain ⟨k1, k2⟩ := h2.step h3 (i := i) (Ev.refl _ w) rfl rfl rfl (fun _ _ _ _ => ⟨rfl, rfl, fun hs => hs⟩) (fun _ _ _ => rfl) (fun _ _ => rfl) (fun _ _ => rfl) hob (fun b' o hp' => .inl ⟨_, hi2, by
    obtain ⟨off', q1, q2, q3⟩ := hp'
    exact ⟨off', q1, q2, by simpa using q3⟩⟩) h2.fut
  exact h.go F0 hx _ a w ⟨fun t' v hv => by obtain ⟨x, h1, h4⟩ := hrel.env t' v hv; exact ⟨x, h1, h4.mono he⟩, k1, k2, hrel.defers, hrel.size, hrel.big⟩⟩
/-! ### Regions that draw -/
theorem Pans.congr {o : Oper} {env env' : Env} {v : V} {t : Tch} (h : Pans P o env v t) (he : ∀ x ∈ o.op.operands.toList, evo env x = evo env' x) : Pans P o env' v t :=
  ⟨h.nd, fun F g a w mem h1 => h.ex F g a w mem fun x hx u hu => h1 x hx u (by rw [← he x hx]; exact hu)⟩
def quiet (t : Tch) : Bool := t.all fun x => x.2.2.isNone
theorem tset_quiet {t : Tch} (h : quiet t = true) (mem : Mem) : tset t mem = mem := by
  induction t with
  | nil => rfl
  | cons x r ih =>
    obtain ⟨i, m, m'⟩ := x
    simp only [quiet, List.all_cons, Bool.and_eq_true] at h
    cases m' with
    | none => exact ih h.2
    | some m' => simp at h
theorem compat_quiet {s t : Tch} (hs : quiet s = true) (ht : quiet t = true) : compat s t = true := by
  unfold compat
  rw [List.all_eq_true]
  intro x hx
  rw [List.all_eq_true]
  intro y hy
  have h1 := List.all_eq_true.1 hs x hx
  have h2 := List.all_eq_true.1 ht y hy
  simp only [h1, h2, Bool.and_self, Bool.or_true]
theorem fin_quiet : ∀ {l : List It} {_env : Env} {mem : Mem}, (∀ x ∈ l, quiet x.tt = true) → finM l mem = mem
  | [], _, _, _ => rfl
  | x :: r, env, mem, h => by
    have h1 := tset_quiet (h x (by simp)) mem
    show finM r (tset x.tt mem) = mem
    rw [h1]
    exact fin_quiet (_env := env) fun y hy => h y (by simp [hy])
theorem finE_keep {t : Nat} : ∀ {l : List It} {env : Env}, (∀ x ∈ l, x.o.dst ≠ some t) → aget (finE l env) t = aget env t
  | [], _, _ => rfl
  | x :: r, env, h => by
    show aget (finE r (appE x env)) t = _
    rw [finE_keep fun y hy => h y (by simp [hy]), aget_appE (h x (by simp))]
/-- What is left ahead of the operation that panics. -/
structure PlanP (ops : Array Oper) (W : Array Nat) (k : Nat) (ok : Oper) (listed : Array Bool) (its : List It) : Prop where
  cov : ∀ i, i < ops.size → listed.getD i true = false → (∃ x ∈ its, x.i = i) ∨ i = k ∨ waits W i k = true
  un : ∀ x ∈ its, listed.getD x.i true = false
  lt : ∀ x ∈ its, x.i < ops.size
  nodup : its.Pairwise fun x y => x.i ≠ y.i
  ne : ∀ x ∈ its, x.i ≠ k
  ind : its.Pairwise fun x y => waits W y.i x.i = true ∨ Indep ops x y
  indk : ∀ x ∈ its, waits W k x.i = true ∨ x.o.apart ops ok = true
  q : ∀ x ∈ its, quiet x.tt = true
  back : ∀ (i : Nat) (o : Oper), ops[i]? = some o → ∀ e ∈ o.after, Region.binds .any e = true → e.on < i
  kk : listed.getD k true = false
  klt : k < ops.size
  at_ : ops[k]? = some ok
  size : listed.size = ops.size
theorem getD_tf {listed : Array Bool} {i : Nat} (h : i < listed.size) : (listed.getD i true = false ↔ ¬ listed.getD i false = true) := by
  simp only [Array.getD, h, dif_pos]
  cases listed.getInternal i h <;> simp
theorem any_pan {F : Fr0} {Q : Exit → Act → World → Prop} {ops : Array Oper} {W : Array Nat} (hW : waitsB .any ops W = true) {k : Nat} {ok : Oper} {v : V} {t : Tch} : ∀ (n : Nat) (its : List It) (env : Env) (mem : Mem) (listed : Array Bool) (g : Gh) (a : Act) (w : World), its.length < n → SR P N ops its env mem → PlanP ops W k ok listed its → Closed .any ops listed → Rel F N g env mem a w →
    gd ops (finE its env) ok = some true → Pans P ok (finE its env) v t → tpre t mem →
    (∀ g a w env' x, Rel F N g env' (tset t mem) a w → Rep w g v x → Q (.panic [{ v := x, recovered := false }]) a w) → wpAnyIn F.fz 0 P .any ops Q n listed a w
  | 0, its, env, mem, listed, g, a, w, hl, _, _, _, _, _, _, _, _ => by omega
  | n + 1, its, env, mem, listed, g, a, w, hl, hs, hp, hc, hr, hgk, hpk, htk, hQ => by
    constructor
    · -- the least one that is not listed is ready
      intro h0
      have key : ∀ m, ∀ i, i ≤ m → i < ops.size → listed.getD i true = false → False := by
        intro m
        induction m with
        | zero =>
          intro i him hi hun
          have ho := Array.getElem?_eq_getElem hi
          have : i ∈ Region.ready .any ops listed := mem_ready.2 ⟨by simpa using hun, _, ho, fun e he hb => by have := hp.back i _ ho e he hb; omega⟩
          rw [h0] at this; cases this
        | succ m ih =>
          intro i him hi hun
          have ho := Array.getElem?_eq_getElem hi
          have : i ∈ Region.ready .any ops listed := mem_ready.2 ⟨by simpa using hun, _, ho, fun e he hb => by
            have hlt := hp.back i _ ho e he hb
            have hes : e.on < listed.size := by rw [hp.size]; omega
            refine Classical.byContradiction fun hn => ih e.on (by omega) (by omega) ((getD_tf hes).2 hn)⟩
          rw [h0] at this; cases this
      exact (key k k (Nat.le_refl _) hp.klt hp.kk).elim
    · intro j hj
      obtain ⟨hun, o, ho, hall⟩ := mem_ready.1 hj
      have hjlt := (Array.getElem?_eq_some_iff.1 ho).1
      have hunl : ∀ i, i < ops.size → listed.getD i true = false → ¬ waits W j i = true := fun i hi hu hw => by
        have hxl := waits_listed hW hc hi j j o (Nat.le_refl _) ho hall hw
        have hsz : i < listed.size := by rw [hp.size]; exact hi
        exact (getD_tf hsz).1 hu hxl
      rcases hp.cov j hjlt (by simpa using hun) with ⟨y, hy, hyj⟩ | hjk | hjw
      · subst hyj
        obtain ⟨pre, post, hits⟩ := List.append_of_mem hy
        subst hits
        have hind : ∀ x ∈ pre, Indep ops x y := fun x hx => by
          rcases (List.pairwise_append.1 hp.ind).2.2 x hx y (by simp) with h1 | h1
          · exact absurd h1 (hunl x.i (hp.lt x (by simp [hx])) (hp.un x (by simp [hx])))
          · exact h1
        obtain ⟨k1, k2⟩ := hs.first hind
        obtain ⟨hv, hrest⟩ := k1
        have hov : y.o = o := by have := hv.at_; rw [ho] at this; exact (Option.some.inj this).symm
        subst hov
        have hnd := List.pairwise_append.1 hp.nodup
        have hnd2 := List.pairwise_cons.1 hnd.2.1
        have hne : ∀ z ∈ pre ++ post, z.i ≠ y.i := fun z hz => by
          rcases List.mem_append.1 hz with hz | hz
          · exact hnd.2.2 z hz y (by simp)
          · exact (hnd2.1 z hz).symm
        have hsub : ∀ z ∈ pre ++ post, z ∈ pre ++ y :: post := fun z hz => by rcases List.mem_append.1 hz with h | h <;> simp [h]
        have hysz : y.i < listed.size := by rw [hp.size]; exact hjlt
        have hp' : PlanP ops W k ok (listed.setIfInBounds y.i true) (pre ++ post) := by
          have hpi := List.pairwise_append.1 hp.ind
          refine ⟨fun i hi hu => ?_, fun x hx => ?_, fun x hx => hp.lt x (hsub x hx), List.pairwise_append.2 ⟨hnd.1, hnd2.2, fun a ha b hb => hnd.2.2 a ha b (by simp [hb])⟩, fun x hx => hp.ne x (hsub x hx),
            List.pairwise_append.2 ⟨hpi.1, (List.pairwise_cons.1 hpi.2.1).2, fun a ha b hb => hpi.2.2 a ha b (by simp [hb])⟩, fun x hx => hp.indk x (hsub x hx), fun x hx => hp.q x (hsub x hx), hp.back, ?_, hp.klt, hp.at_, by simp [hp.size]⟩
          · by_cases hiy : y.i = i
            · subst hiy
              simp [Array.getD, hysz] at hu
            · rw [getD_set_ne true hiy] at hu
              rcases hp.cov i hi hu with ⟨x, hx, hxi⟩ | h | h
              · refine .inl ⟨x, ?_, hxi⟩
                rcases List.mem_append.1 hx with h | h
                · simp [h]
                · rcases List.mem_cons.1 h with rfl | h
                  · exact absurd hxi hiy
                  · simp [h]
              · exact .inr (.inl h)
              · exact .inr (.inr h)
          · rw [getD_set_ne true (hne x hx).symm]; exact hp.un x (hsub x hx)
          · rw [getD_set_ne true (hp.ne y (by simp))]; exact hp.kk
        have hq2 : finM (pre ++ post) (appM y mem) = appM y mem := fin_quiet (_env := env) fun x hx => hp.q x (hsub x hx)
        have hym : appM y mem = mem := tset_quiet (hp.q y (by simp)) mem
        have next : ∀ g' a' w', Rel F N g' (appE y env) (appM y mem) a' w' → wpAnyIn F.fz 0 P .any ops Q n (listed.setIfInBounds y.i true) a' w' := fun g' a' w' hr' => by
          rw [hym] at hr' hrest
          have ee : ∀ t', aget (finE (pre ++ y :: post) env) t' = aget (finE (pre ++ post) (appE y env)) t' := fun t' => k2.e t'
          exact any_pan hW n (pre ++ post) _ _ _ g' a' w' (by simp at hl ⊢; omega) hrest hp' (hc.step hj) hr' (by rw [← hgk]; exact (gd_congr fun _ _ d _ _ => (ee d).symm)) (hpk.congr fun x _ => evo_congr fun t' _ => ee t') htk hQ
        unfold wpOpIn
        rw [ho]
        simp only
        have hwant := gd_wanted hr hv.gdd
        rw [hwant]
        cases hsk : y.skip
        · simp only [Bool.not_false, if_true]
          refine ((hv.does hsk).1.run hr (hv.does hsk).2 hv.dst fun g' a' w' hr' => next g' a' w' ?_)
          simpa [appE, appM, It.vv, It.tt, hsk] using hr'
        · simp only [Bool.not_true, Bool.false_eq_true, if_false]
          refine ⟨fun _ _ => trivial, next g _ w ?_⟩
          have := hr.put (d := y.o.dst) (v := .k undef) (x := undef) (Ev.refl g w) hr.mem hr.kept (.k undef) hv.dst
          simpa [appE, appM, It.vv, It.tt, hsk, tset] using this
      · subst hjk
        have hok : ok = o := by have := hp.at_; rw [ho] at this; exact (Option.some.inj this).symm
        subst hok
        have hap : ∀ x ∈ its, x.o.apart ops ok = true := fun x hx => by
          rcases hp.indk x hx with h1 | h1
          · exact absurd h1 (hunl x.i (hp.lt x hx) (hp.un x hx))
          · exact h1
        have ee : ∀ d, d ∈ ok.looksAt ops → aget (finE its env) d = aget env d := fun d hd => finE_keep fun x hx e => (Oper.apart_spec (hap x hx)).1 d e hd
        have hg' : gd ops env ok = some true := by
          rw [← hgk]
          exact gd_congr fun jj want d hgd hd => (ee d (by simp only [Oper.looksAt, hgd, hd, List.mem_append]; exact .inr (by simp))).symm
        have hp2 : Pans P ok env v t := hpk.congr fun z hz => evo_congr fun t' ht' => ee t' (by
          subst ht'
          simp only [Oper.looksAt, List.mem_append, List.mem_filterMap]
          exact .inl ⟨_, hz, rfl⟩)
        unfold wpOpIn
        rw [ho]
        simp only
        rw [gd_wanted hr hg', if_pos rfl]
        refine op_in (hp2.ex F g a w mem (fun _ _ _ hu => hr.evo hu) hr.mem hr.kept htk hr.defers _ _ fun x g' w' he hm hk hx => hQ g' a w' env x ⟨fun t u hu => by obtain ⟨y, h1, h2⟩ := hr.env t u hu; exact ⟨y, h1, h2.mono he⟩, hm, hk, hr.defers, hr.size, hr.big⟩ hx) hp2.nd
      · exact absurd hjw (hunl k hp.klt hp.kk)
def backOk (ops : Array Oper) : Bool := (List.range ops.size).all fun i => match ops[i]? with | some o => o.after.toList.all fun e => !Region.binds .any e || Nat.blt e.on i | none => true
def panOk (ops : Array Oper) (W : Array Nat) (k : Nat) (plan : List Nat) : Bool :=
  Nat.blt k ops.size && (plan.all (fun i => Nat.blt i ops.size && !Nat.beq i k && (waits W k i || (match ops[i]?, ops[k]? with | some a, some b => a.apart ops b | _, _ => false))) &&
    ((List.range ops.size).all (fun i => plan.contains i || Nat.beq i k || waits W i k) && (apOk ops W plan && backOk ops)))
/-- What a region that draws comes to, if its k-th operation panics: those of the plan may come ahead of it. -/
structure PanAt (P : Program) (F : Fr0) (N : Nat) (ops : Array Oper) (k : Nat) (Q : LQ) (env : Env) (mem : Mem) : Prop where
  ex : ∃ (o : Oper) (v : V) (t : Tch), ops[k]? = some o ∧ gd ops env o = some true ∧ Pans P o env v t ∧ tpre t mem ∧ ∀ env', Q (.pan v) env' (tset t mem)
theorem PanAt.call {ops : Array Oper} {k : Nat} {o : Oper} {fx : Nat} {xs : List Operand} {ts : Array Nat} {us args : List V} {mi mo : Mem} {v : V} (hk : ops[k]? = some o) (hc : LM P fx args mi fun o m => o = .pan v ∧ m = mo) (ho : o.op = .call { callee := .value (.func fx), args := xs.toArray, argTypes := ts }) (hg : gd ops env o = some true) (hx : evs env xs = some us) (hu : Fits us args) (hr : (V.refs.go mi args && (refsM mi mi && keysOk mi mo)) = true) (ht : TPre mi mo mem) (hQ : ∀ env', Q (.pan v) env' (mo ++ mem)) : PanAt P F N ops k Q env mem :=
  ⟨o, v, callT mi mo, hk, hg, Pans.callM hc ho hx hu hr, tpre_callT ht, fun env' => by rw [tset_call]; exact hQ env'⟩
theorem nodup_le : ∀ {n : Nat} {l : List Nat}, l.Nodup → (∀ i ∈ l, i < n) → l.length ≤ n
  | 0, l, _, h => by cases l with | nil => simp | cons a r => have := h a (by simp); omega
  | n + 1, l, hn, h => by
    by_cases hm : n ∈ l
    · have h1 := nodup_le (n := n) (hn.erase n) fun i hi => by
        have h2 := (hn.mem_erase_iff.1 hi)
        have := h i h2.2
        omega
      rw [List.length_erase_of_mem hm] at h1
      omega
    · have := nodup_le (n := n) hn fun i hi => by
        have := h i hi
        have : i ≠ n := fun e => hm (e ▸ hi)
        omega
      omega
theorem LC.drawPan {id : Nat} {l : List Oper} (k : Nat) (plan : List Nat) (hm : P.follows .mixedOrders = true) (hB : (waitsB .any l.toArray (Region.before l.toArray) && panOk l.toArray (Region.before l.toArray) k plan) = true)
    (h : DR P N l.toArray (fun acc => acc.all fun x => quiet x.2) (fun env mem => PanAt P F N l.toArray k Q env mem) (pickI l plan) [] env mem) : LC P F N (.region id l.toArray true) Q env mem := by
  refine ⟨fun F0 hx g a w hr => ?_⟩
  simp only [panOk, Bool.and_eq_true] at hB
  obtain ⟨hW, hkl, hpl, hcov, hap, hbk⟩ := hB
  have hkl' : k < l.toArray.size := Nat.le_of_ble_eq_true hkl
  have hlt' : ∀ i ∈ plan, i < l.length := fun i hi => by
    have h1 := List.all_eq_true.1 hpl i hi
    simp only [Bool.and_eq_true] at h1
    have := Nat.le_of_ble_eq_true h1.1.1
    simp at this
    omega
  obtain ⟨its, k1, k2, k3, k4⟩ := DR.script h (pickI_mem hlt')
  rw [pickI_fst] at k2
  have hat : ∀ (l' : List It) (env : Env) (mem : Mem), SR P N l.toArray l' env mem → ∀ x ∈ l', l.toArray[x.i]? = some x.o := by
    intro l'
    induction l' with
    | nil => intro _ _ _ x hx; cases hx
    | cons y r ih =>
      intro env mem hs x hx
      rcases List.mem_cons.1 hx with rfl | hx
      · exact hs.1.at_
      · exact ih _ _ hs.2 x hx
  have hato := hat its env mem k1
  have hq : ∀ x ∈ its, quiet x.tt = true := fun x hx => by
    simp only [List.reverse_nil, List.nil_append] at k3
    exact List.all_eq_true.1 k3 (x.i, x.tt) (List.mem_map.2 ⟨x, hx, rfl⟩)
  have hfm : finM its mem = mem := fin_quiet (_env := env) hq
  obtain ⟨o, v, t, hk, hg, hpan, htp, hQ⟩ := k4.ex
  rw [hfm] at htp hQ
  have hmem : ∀ x ∈ its, x.i ∈ plan := fun x hx => by rw [← k2]; exact List.mem_map_of_mem hx
  have hplan : PlanP l.toArray (Region.before l.toArray) k o (Array.replicate l.length false) its := by
    refine ⟨fun i hi _ => ?_, fun x hx => ?_, fun x hx => by have := hlt' x.i (hmem x hx); simpa using this, ?_, fun x hx => ?_, ?_, fun x hx => ?_, hq, fun i o' ho' e he hb => ?_, ?_, hkl', hk, by simp⟩
    · have h1 := List.all_eq_true.1 hcov i (by simpa using hi)
      simp only [Bool.or_eq_true] at h1
      rcases h1 with (h1 | h1) | h1
      · have h2 : i ∈ plan := by simpa using h1
        rw [← k2] at h2
        obtain ⟨x, hx, hxi⟩ := List.mem_map.1 h2
        exact .inl ⟨x, hx, hxi⟩
      · exact .inr (.inl (Nat.eq_of_beq_eq_true h1))
      · exact .inr (.inr h1)
    · have := hlt' x.i (hmem x hx)
      simp [Array.getD, this]
    · have := (apOk_spec hap).imp fun h => h.1
      rw [← k2, List.pairwise_map] at this
      exact this
    · have h1 := List.all_eq_true.1 hpl x.i (hmem x hx)
      simp only [Bool.and_eq_true, Bool.not_eq_true'] at h1
      intro e
      rw [e, Nat.beq_refl] at h1
      exact Bool.noConfusion h1.1.2
    · have h1 := apOk_spec hap
      rw [← k2, List.pairwise_map] at h1
      refine h1.imp_of_mem fun {x y} hx hy h => ?_
      rcases h.2 with h3 | ⟨p, q, hp, hq', h3⟩
      · exact .inl h3
      · have e1 := hato x hx
        have e2 := hato y hy
        rw [hp] at e1; cases e1
        rw [hq'] at e2; cases e2
        exact .inr ⟨h3, compat_quiet (hq x hx) (hq y hy)⟩
    · have h1 := List.all_eq_true.1 hpl x.i (hmem x hx)
      simp only [Bool.and_eq_true, Bool.or_eq_true] at h1
      rcases h1.2 with h2 | h2
      · exact .inl h2
      · rw [hato x hx, hk] at h2
        exact .inr h2
    · have hi := (Array.getElem?_eq_some_iff.1 ho').1
      unfold backOk at hbk
      have h1 := List.all_eq_true.1 hbk i (by simpa using hi)
      rw [ho'] at h1
      have h2 := List.all_eq_true.1 h1 e (by simpa using he)
      rw [hb] at h2
      simpa using h2
    · have : k < l.length := by simpa using hkl'
      simp [Array.getD, this]
  have hclosed : Closed .any l.toArray (Array.replicate l.length false) := by
    intro j o _ hl
    exfalso
    simp [Array.getElem?_replicate] at hl
    split at hl <;> simp_all
  have hr' : Rel F0 N g env mem a { w with drawn := w.drawn + 1 } := by
    have hx : Ext w { w with drawn := w.drawn + 1 } := Below.drew (Below.refl _ w)
    obtain ⟨e1, e2, e3⟩ := hr.mem.ext (g' := g) hr.kept hx (fun _ _ _ => Iff.rfl) rfl rfl hr.mem.fut
    exact ⟨fun t v ht => by obtain ⟨x, h1, h2⟩ := hr.env t v ht; exact ⟨x, h1, h2.mono e1⟩, e2, e3, hr.defers, hr.size, hr.big⟩
  have hlen : its.length < l.toArray.size := by
    have hnd := (apOk_spec hap).imp fun h => h.1
    have hnd2 : (k :: plan).Nodup := by
      refine List.nodup_cons.2 ⟨fun hkp => ?_, hnd⟩
      have h1 := List.all_eq_true.1 hpl k hkp
      simp [Nat.beq_refl] at h1
    have hsub : ∀ i ∈ k :: plan, i < l.toArray.size := fun i hi => by
      rcases List.mem_cons.1 hi with rfl | hi
      · exact hkl'
      · have := hlt' i hi; simpa using this
    have h3 := nodup_le hnd2 hsub
    have h4 : its.length = plan.length := by rw [← k2, List.length_map]
    simp only [List.length_cons] at h3
    omega
  refine wpIn_region_any hm ?_
  exact any_pan (P := P) (N := N) (F := F0) (Q := liftQ F0 N Q) hW l.toArray.size its env mem (Array.replicate l.length false) g a _ hlen k1 hplan hclosed hr' hg hpan htp fun g2 a2 w2 env2 x hr2 hx => ⟨F0, .refl _, env2, _, g2, .pan v, hr2, ⟨x, rfl, hx⟩, hQ env2⟩
/-- Where the walk is to expect a panic: the region, the operation; those that may come ahead of it. -/
structure PanIn (id k : Nat) : Prop where
  t : True
structure PanInD (id k : Nat) (plan : List Nat) : Prop where
  t : True
theorem LC.upToM {id k : Nat} {l : List Oper} (_ : PanIn id k) (h : DR P N l.toArray (fun _ => true) (fun env mem => LS P F N l.toArray (l.drop k) Q env mem) (enumI 0 (l.take k)) [] env mem) : LC P F N (.region id l.toArray false) Q env mem := LC.upTo k h
theorem LC.drawPanM {id k : Nat} {l : List Oper} {plan : List Nat} (_ : PanInD id k plan) (hm : P.follows .mixedOrders = true) (hB : (waitsB .any l.toArray (Region.before l.toArray) && panOk l.toArray (Region.before l.toArray) k plan) = true)
    (h : DR P N l.toArray (fun acc => acc.all fun x => quiet x.2) (fun env mem => PanAt P F N l.toArray k Q env mem) (pickI l plan) [] env mem) : LC P F N (.region id l.toArray true) Q env mem := LC.drawPan k plan hm hB h
theorem LC.pan1 {id : Nat} {o : Oper} {x : Operand} (_ho : o.op = .panic x) (h : LS P F N #[o] [o] Q env mem) : LC P F N (.region id #[o] false) Q env mem := LC.region (l := [o]) h
theorem LC.pan3 {id : Nat} {a b o : Oper} {x : Operand} (_ho : o.op = .panic x) (h : DR P N #[a, b, o] (fun _ => true) (fun env mem => LS P F N #[a, b, o] [o] Q env mem) (enumI 0 [a, b]) [] env mem) : LC P F N (.region id #[a, b, o] false) Q env mem := LC.upTo (l := [a, b, o]) 2 h
theorem LRet.panE {X : TOk P} {rs : List ResultVar} {v v' : V} {mo : Mem} (hm : SubM mem mo) (hr : (v.refs mo && refsM mo mo) = true) (hv : v = v') : LRet X rs (fun o m => o = .pan v' ∧ m = mo) (.pan v) env mem := by
  subst hv; exact LRet.pan mo hm hr ⟨rfl, rfl⟩
theorem LRet.panX {X : TOk P} {rs : List ResultVar} {v v' : V} {m : List V → Mem} {cs : List V} (hm : SubM mem (m cs)) (hr : (v.refs (m cs) && refsM (m cs) (m cs)) = true) (hv : v = v') : LRet X rs (fun o mo => o = .pan v' ∧ ∃ cs, mo = m cs) (.pan v) env mem := by
  subst hv; exact LRet.pan _ hm hr ⟨rfl, cs, rfl⟩
end
end Lf
end Go.Proofs.YtgbgplijpomkeaaDoor

/- append from a slice over a box, or from a string. -/
namespace Go.Proofs.YtgbgplijpomkeaaDoor
open Go.RowKit Rg
namespace Lf
section
variable {P : Program} {o : Oper} {env : Env}
theorem res1_tmp {tab : Tab} {mem : Mem} {t : Nat} {v : V} (h : aget env t = some v) : res1 tab env mem (.tmp t) = some v := h
theorem app_one2 {x : UInt8} {b : List UInt8} : [bK x] ++ b.map bK = (x :: b).map bK := rfl
/-- What is appended, wherever it lies. -/
def SrcOk (P : Program) (sz Tx : Nat) (y : Operand) (env : Env) (ys : List V) (t : Tch) : Prop :=
  ∀ (F : Fr0) (g : Gh) (a : Act) (w : World) (mem : Mem), (∀ u, evo env y = some u → Rep w g u (a.eval y)) → RelM F g mem w → tpre t mem →
    ∃ news, Src P sz Tx (a.eval y) ys.length news w ∧ (∀ y ∈ ys, ∀ u ∈ y.cells, u.one = true) ∧ (ys.flatMap V.cells).length = news.length ∧ ∀ (j : Nat) u z, (ys.flatMap V.cells)[j]? = some u → news[j]? = some z → Rep w g.bare u z
/-! ### Interface values -/
theorem TIok.ifc {T : Nat} {ti : TI} (h : TIok P T ti) (hd : ti.d = .ifc) : ∃ ms, P.underlying T = some (.interface ms) := by
  obtain ⟨d, hu, hc⟩ := h.und
  rw [hd] at hc
  cases d <;> simp [TD.chk] at hc
  exact ⟨_, hu⟩
theorem run_ifcNil {T Y : Nat} {b : BinOp} {x : Operand} {v : Value} {r rr : Bool} {ms : Array (String × TypeId)} {w : World} (hu : P.underlying T = some (.interface ms)) (hv : (v = .nilIface ∧ r = true) ∨ (∃ S u, v = .iface S u) ∧ r = false) (hb : (b = .eql ∧ rr = r) ∨ (b = .neq ∧ rr = !r)) {a : Act} (ho : o.op = .binOp b T x (.const .nilIface) Y) (hx : a.eval x = v) :
    (execOp a.eval o).run P w = .ok (.value (.bool rr)) w := by
  have hx2 : a.eval (.const .nilIface) = .nilIface := rfl
  have q1 : (eqGuard b T x (.const .nilIface) v .nilIface).run P w = .ok () w := by
    unfold eqGuard
    rcases hb with ⟨rfl, _⟩ | ⟨rfl, _⟩ <;> rcases hv with ⟨rfl, _⟩ | ⟨⟨S, u, rfl⟩, _⟩ <;> first | rfl | (cases x <;> rfl)
  have e : Op.equal T v .nilIface = Op.equalIn (9999 + 1) T v .nilIface := rfl
  have q3 : (Op.equalIn (9999 + 1) T v .nilIface).run P w = .ok r w := by
    rw [Op.equalIn, Sem.run_bind, run_underlying hu w]
    rcases hv with ⟨rfl, rfl⟩ | ⟨⟨S, u, rfl⟩, rfl⟩ <;> rfl
  have q2 : (binOp b T v .nilIface).run P w = .ok (.bool rr) w := by
    rcases hb with ⟨rfl, rfl⟩ | ⟨rfl, rfl⟩
    · simp only [binOp, e, Sem.run_bind, q3, Result.andThen_ok]; rfl
    · simp only [binOp, e, Sem.run_bind, q3, Result.andThen_ok]; rfl
  simp only [execOp, ho, hx, hx2, Sem.run_bind, q1, Result.andThen_ok, q2]
  rfl
theorem Does.neNil0 {T Y : Nat} {x : Operand} (X : TOk P) {ti : TI} (ho : o.op = .binOp .neq T x (.const .nilIface) Y) (hx : evo env x = some (.k .nilIface)) (hT : aget X.tab T = some ti) (hd : ti.d = .ifc) : Does P o env (.k (.bool false)) [] :=
  .pure fun F g a w mem hr _ => by
    have h1 := rep_k (hr x (by simp [ho, Op.operands]) _ hx)
    obtain ⟨ms, hu⟩ := (X.get hT).ifc hd
    exact ⟨_, run_ifcNil hu (.inl ⟨h1, rfl⟩) (.inr ⟨rfl, rfl⟩) ho rfl, .k _⟩
theorem Does.neNilI {T Y S : Nat} {u : V} {x : Operand} (X : TOk P) {ti : TI} (ho : o.op = .binOp .neq T x (.const .nilIface) Y) (hx : evo env x = some (.i S u)) (hT : aget X.tab T = some ti) (hd : ti.d = .ifc) : Does P o env (.k (.bool true)) [] :=
  .pure fun F g a w mem hr _ => by
    have h1 := hr x (by simp [ho, Op.operands]) _ hx
    obtain ⟨ms, hu⟩ := (X.get hT).ifc hd
    obtain ⟨y, hy⟩ : ∃ y, a.eval x = .iface S y := by generalize a.eval x = z at h1; cases h1; exact ⟨_, rfl⟩
    exact ⟨_, run_ifcNil hu (.inr ⟨⟨S, y, hy⟩, rfl⟩) (.inr ⟨rfl, rfl⟩) ho rfl, .k _⟩
theorem Does.eqNil0 {T Y : Nat} {x : Operand} (X : TOk P) {ti : TI} (ho : o.op = .binOp .eql T x (.const .nilIface) Y) (hx : evo env x = some (.k .nilIface)) (hT : aget X.tab T = some ti) (hd : ti.d = .ifc) : Does P o env (.k (.bool true)) [] :=
  .pure fun F g a w mem hr _ => by
    have h1 := rep_k (hr x (by simp [ho, Op.operands]) _ hx)
    obtain ⟨ms, hu⟩ := (X.get hT).ifc hd
    exact ⟨_, run_ifcNil hu (.inl ⟨h1, rfl⟩) (.inl ⟨rfl, rfl⟩) ho rfl, .k _⟩
theorem Does.eqNilI {T Y S : Nat} {u : V} {x : Operand} (X : TOk P) {ti : TI} (ho : o.op = .binOp .eql T x (.const .nilIface) Y) (hx : evo env x = some (.i S u)) (hT : aget X.tab T = some ti) (hd : ti.d = .ifc) : Does P o env (.k (.bool false)) [] :=
  .pure fun F g a w mem hr _ => by
    have h1 := hr x (by simp [ho, Op.operands]) _ hx
    obtain ⟨ms, hu⟩ := (X.get hT).ifc hd
    obtain ⟨y, hy⟩ : ∃ y, a.eval x = .iface S y := by generalize a.eval x = z at h1; cases h1; exact ⟨_, rfl⟩
    exact ⟨_, run_ifcNil hu (.inr ⟨⟨S, y, hy⟩, rfl⟩) (.inl ⟨rfl, rfl⟩) ho rfl, .k _⟩
def TD.isIfc : TD → Bool
  | .ifc => true
  | _ => false
/-- A type assertion with ok, to a type that is no interface: it holds. -/
theorem Does.asrtOk {xT T : Nat} {u : V} {x : Operand} (X : TOk P) {ti : TI} (ho : o.op = .typeAssert x xT T true) (hx : evo env x = some (.i T u)) (hT : aget X.tab T = some ti) (hd : ti.d.isIfc = false) : Does P o env (.t [u, .k (.bool true)]) [] :=
  .pure fun F g a w mem hr _ => by
    have h1 := hr x (by simp [ho, Op.operands]) _ hx
    obtain ⟨d, hu, hc⟩ := (X.get hT).und
    generalize hy : a.eval x = y at h1
    cases h1 with
    | @i _ _ _ z h =>
      refine ⟨.tuple #[z, .bool true], ?_, .t rfl fun j v q hj hq => ?_⟩
      · have hni : ∀ ms, d ≠ .interface ms := fun ms e => by
          subst e
          cases hd' : ti.d <;> rw [hd'] at hc hd <;> simp [TD.chk, TD.isIfc] at hc hd
        have : (Instr.typeAssert (.iface T z) xT T true).run P w = .ok (.tuple #[z, .bool true]) w := by
          unfold Instr.typeAssert
          rw [Sem.run_bind, run_underlying hu w]
          cases d <;> first | (exact absurd rfl (hni _)) | simp
        simp [execOp, ho, hy, this]
      · match j with
        | 0 => simp at hj hq; subst hj; subst hq; exact h
        | 1 => simp at hj hq; subst hj; subst hq; exact .k _
        | j + 2 => simp at hj
/-- A slice over a box, cut to nothing at its end. -/
theorem Does.cutSbE {T e l h i off n cap : Nat} {x : Operand} {lo hi : Option Operand} (X : TOk P) {ti ei : TI} (ho : o.op = .slice T x lo hi none) (hx : evo env x = some (.sb i off n cap)) (hT : aget X.tab T = some ti) (hd : ti.d = .sl e) (hE : aget X.tab e = some ei) (hlo : Bd env 0 lo l) (hhi : Bd env n hi h)
    (h1 : l = h) (h2 : l = cap) : Does P o env (.s none []) [] :=
  .pure fun F g a w mem hr _ => by
    subst h1; subst h2
    have hr0 := hr x (by simp [ho, Op.operands]) _ hx
    have b1 := hlo.val (a := a) (fun y hy u hu => hr y (by subst hy; simp [ho, Op.operands]) u hu)
    have b2 := hhi.val (a := a) (fun y hy u hu => hr y (by subst hy; simp [ho, Op.operands]) u hu)
    generalize hy : a.eval x = y at hr0
    cases hr0 with
    | @sb _ _ _ _ _ b bo hp =>
      have := run_cutG (P := P) (a := some ⟨b, bo + off, none⟩) ((X.get hT).sl hd) (X.get hE).run_size b1 b2 (Nat.le_refl _) (Nat.le_refl _) w
      refine ⟨.slice (some ⟨b, bo + off, none⟩) 0 0, ?_, .se _ fun _ h => by cases h⟩
      simp [execOp, ho, hy, this]
theorem tset_head {i : Nat} {m : Option M} {m' : M} {t : Tch} {mem : Mem} (hq : quiet t = true) : tset ((i, m, some m') :: t) mem = (i, m') :: mem := by
  show (i, m') :: tset t mem = _
  rw [tset_quiet hq]
theorem Does.appG {T Tx E i sz : Nat} {x y : Operand} {es ys : List V} {t : Tch} (X : TOk P) {ti ei : TI} (ho : o.op = .call { callee := .builtin .append, args := #[x, y], argTypes := #[T, Tx] }) (hx : evo env x = some (.s (some i) es)) (hS : SrcOk P sz Tx y env ys t) (hq : quiet t = true)
    (hT : aget X.tab T = some ti) (hd : ti.d = .sl E) (hE : aget X.tab E = some ei) (hsz : ei.size = sz)
    (hes : ∀ e ∈ es, e.cells.length = sz) (hys : ∀ e ∈ ys, e.cells.length = sz) {n : Nat} (hn : es.length + ys.length = n) (hmax : n ≤ 140737488355328) (hb : n * ei.bytes ≤ 140737488355328) :
    Does P o env (.s (some i) (es ++ ys)) ((i, some (.r E sz es.length), some (.r E sz n)) :: t) := by
  refine ⟨fun F g a w mem h1 h2 h3 h4 _ K Q hK => ?_⟩
  subst hn
  have hi := h4 _ _ _ (List.mem_cons_self ..)
  have hrx := h1 x (by simp [ho, Op.operands, Call.operands]) _ hx
  obtain ⟨news, hsrc, hone2, hfl, hrep2⟩ := hS F g a w mem (fun u hu => h1 y (by simp [ho, Op.operands, Call.operands]) _ hu) h2 (fun j m m' hj => h4 j m m' (List.mem_cons_of_mem _ hj))
  subst hsz
  rcases rep_tip h2 hrx hi hes with ⟨ao, c, zs, e1, e2, hown, hp, hone, hrep⟩ | ⟨rfl, e1, hp, ad, e2⟩
  case inr =>
    simp only [List.length_nil, Nat.zero_add, List.nil_append] at hmax hb hi hK ⊢
    obtain ⟨v', w', hrun, hres⟩ := run_app0 (P := P) (ty := o.type) (ad := ad) ((X.get hT).sl hd) (X.get hE) hp hsrc hmax hb
    have hrun' : (execOp a.eval o).run P w = .ok (.value v') w' := by
      simp [execOp, ho, resolve, invoke, builtin, e2, hrun]
    unfold Oper.wp
    rw [hrun']
    rcases hres with ⟨hm0, rfl, rfl⟩ | ⟨hm0, hown', hg, hv⟩
    · have : ys = [] := List.eq_nil_of_length_eq_zero hm0
      subst this
      refine hK _ g _ (Ev.refl g _) (h2.congr fun j => ?_) h3 ?_
      · rw [tset_head hq]; simp only [aget_cons]
        split
        · rename_i e; subst e; exact hi
        · rfl
      · rw [← e2]; exact hrx
    · have hg0 : Value.ownBlock (.slice (Option.map (fun b => (⟨b, 0, none⟩ : Addr)) none) 0 0) = none := rfl
      obtain ⟨g', a', c', rfl, k1, k2, k3, k4, k5⟩ := h2.grow (n := 0) (m := ys.length) (a := none) (c := 0) (xs := []) h3 hi e1 (oRow_nil w 0 E ei.size) hown' (by rw [hg0]; exact hg) (.inr ⟨hm0, hv⟩)
      rw [Nat.zero_add] at k1 k3 k5
      refine hK _ g' w' k2 (by rw [tset_head hq]; simpa using k3) k4 ?_
      rw [Nat.zero_add] at hown' ⊢
      exact Rep.row rfl hp k1 hown' k5 (fun e he => ⟨hys e he, hone2 e he⟩) (fun j u z hj hz => (hrep2 j u z hj (by simpa using hz)).mono k2.bare)
  obtain ⟨v', w', hrun, hown', hg, hv⟩ := run_app (P := P) (ty := o.type) ((X.get hT).sl hd) (X.get hE) hp hown hsrc hmax hb
  obtain ⟨g', a', c', rfl, k1, k2, k3, k4, k5⟩ := h2.grow h3 hi e1 hown hown' hg hv
  unfold Oper.wp
  have hrun' : (execOp a.eval o).run P w = .ok (.value (.slice (Option.map (fun b => ⟨b, 0, none⟩) a') (es.length + ys.length) c')) w' := by
    rw [← e2] at hrun
    simp [execOp, ho, resolve, invoke, builtin, hrun]
  rw [hrun']
  refine hK _ g' w' k2 (by rw [tset_head hq]; exact k3) k4 (Rep.row (by simp) hp k1 hown' k5 (fun e he => ?_) (fun j u z hj hz => ?_))
  · rcases List.mem_append.1 he with he | he
    · exact ⟨hes e he, hone e he⟩
    · exact ⟨hys e he, hone2 e he⟩
  · have hfe : (es.flatMap V.cells).length = zs.length := by rw [flat_len hes, hown.1]
    rw [List.flatMap_append] at hj
    rcases Nat.lt_or_ge j zs.length with hlt | hge
    · rw [List.getElem?_append_left (by omega)] at hj
      rw [List.getElem?_append_left hlt] at hz
      exact (hrep j u z hj hz).mono k2.bare
    · rw [List.getElem?_append_right (by omega)] at hj
      rw [List.getElem?_append_right hge, ← hfe] at hz
      exact (hrep2 _ u z hj hz).mono k2.bare

theorem SrcOk.box {sz Tx e j off n cap : Nat} {y : Operand} {cs ys : List V} (X : TOk P) {xi : TI} (hy : evo env y = some (.sb j off n cap)) (hX : aget X.tab Tx = some xi) (hdx : xi.d = .sl e) (hsz : sz = 1) (hcs : (cs.drop off).take n = ys) (hl : off + n ≤ cs.length) (hc : ∀ u ∈ ys, u.cells = [u]) (hr : ∀ u ∈ ys, u.bare = some u) : SrcOk P sz Tx y env ys [(j, some (.b cs), none)] := by
  intro F g a w mem h1 h2 h4
  subst hsz
  have hm := h4 _ _ _ mem_one
  have hrep := h1 _ hy
  obtain ⟨b, o, hb, _, hB⟩ := h2.box hm
  have hfl : ys.flatMap V.cells = ys := by
    clear hcs hr
    induction ys with
    | nil => rfl
    | cons u r ih => rw [List.flatMap_cons, hc u (by simp), ih fun v hv => hc v (by simp [hv])]; rfl
  have hlen : ys.length = n := by rw [← hcs, List.length_take, List.length_drop]; omega
  have hget : ∀ k, k < n → ∃ u x, ys[k]? = some u ∧ u.one = true ∧ w.cell? ⟨b, o + (off + k), none⟩ = some x ∧ Rep w g.bare u x := fun k hk => by
    have hlt : off + k < cs.length := by omega
    obtain ⟨_, _, x, h5, h6⟩ := hB.at_ (off + k) cs[off + k] (List.getElem?_eq_getElem hlt)
    have hu : ys[k]? = some cs[off + k] := by rw [← hcs, List.getElem?_take, if_pos hk, List.getElem?_drop, List.getElem?_eq_getElem hlt]
    have hbare : cs[off + k].bare = some cs[off + k] := hr _ (List.mem_of_getElem? hu)
    exact ⟨_, x, hu, hB.one _ (List.getElem_mem hlt), h5, h6.to_bare hbare⟩
  generalize hv : a.eval y = v at hrep
  cases hrep with
  | @sb _ _ _ _ _ b' o' hb' =>
    rw [hb] at hb'; cases hb'
    let f : Nat → Value := fun k => (w.cell? ⟨b, o + (off + k), none⟩).getD undef
    have hf : ∀ k, k < n → ((List.range n).map f)[k]? = some (f k) := fun k hk => by rw [List.getElem?_map, List.getElem?_range hk]; rfl
    rw [hlen]
    refine ⟨(List.range n).map f, Src.ofSlice w ((X.get hX).sl hdx) _ n cap _ (by simp) (fun k u hk => ?_) (fun u hu => ?_), fun u hu v hv => ?_, by rw [hfl]; simp [hlen], fun k u z hk hz => ?_⟩
    · have hkn : k < n := by have := (List.getElem?_eq_some_iff.1 hk).1; simpa using this
      rw [hf k hkn] at hk; cases hk
      obtain ⟨u, x, _, _, h5, _⟩ := hget k hkn
      rw [Addr.add_lit, Nat.add_assoc, h5]
      simp only [f, h5]; rfl
    · obtain ⟨k, hk, rfl⟩ := List.mem_map.1 hu
      obtain ⟨u, x, _, h7, h5, h6⟩ := hget k (List.mem_range.1 hk)
      simp only [f, h5]
      exact h6.oneCell h7
    · obtain ⟨k, hk⟩ := List.getElem?_of_mem hu
      have hkn : k < n := by have := (List.getElem?_eq_some_iff.1 hk).1; omega
      obtain ⟨u', x, h8, h7, _, _⟩ := hget k hkn
      rw [hk] at h8; cases h8
      rw [hc u hu] at hv
      simp at hv; subst hv; exact h7
    · rw [hfl] at hk
      have hkn : k < n := by have := (List.getElem?_eq_some_iff.1 hk).1; omega
      rw [hf k hkn] at hz; cases hz
      obtain ⟨u', x, h8, _, h5, h6⟩ := hget k hkn
      rw [hk] at h8; cases h8
      simp only [f, h5]
      exact h6
end
section
variable {P : Program} {N : Nat} {ops : Array Oper} {chk : List (Nat × Tch) → Bool} {K : Env → Mem → Prop} {acc : List (Nat × Tch)} {env : Env} {mem : Mem} {i d j : Nat} {o : Oper} {rs : List (Nat × Oper)}
theorem cells1_map {α : Type} {f : α → V} (hf : ∀ a, (f a).cells = [f a]) (l : List α) : ∀ u ∈ l.map f, u.cells = [u] := fun u hu => by obtain ⟨a, _, rfl⟩ := List.mem_map.1 hu; exact hf a
/-- append from a slice over a box. -/
theorem DR.ab {α : Type} {f : α → V} {T Tx E e sz off m cap jb : Nat} {x y : Operand} {es zs cs : List V} {l : List α} (X : TOk P) {ti xi ei : TI} (ho : o.op = .call { callee := .builtin .append, args := #[x, y], argTypes := #[T, Tx] }) (hg : gd ops env o = some true) (hds : o.dst = some d) (hx : evo env x = some (.s (some j) es)) (hy : evo env y = some (.sb jb off m cap))
    {n0 : Nat} (hm : aget mem j = some (.r E sz n0)) (hb2 : aget mem jb = some (.b cs)) (hn0 : es.length = n0) (hT : aget X.tab T = some ti) (hdt : ti.d = .sl E) (hE : aget X.tab E = some ei) (hsz : ei.size = sz) (hs1 : Nat.beq sz 1 = true) (hX : aget X.tab Tx = some xi) (hdx : xi.d = .sl e) (hcs : (cs.drop off).take m = l.map f) (hf : ∀ a, (f a).cells = [f a]) (hl : l.length = m) (hr : ∀ a, (f a).bare = some (f a))
    (hes : ∀ e ∈ es, e.cells.length = sz) (hz : es ++ l.map f = zs) {n : Nat} (hn : zs.length = n) (hmax : n ≤ 140737488355328) (hb : n * ei.bytes ≤ 140737488355328) (hd : Nat.blt d N = true)
    (hK : DR P N ops chk K rs ((i, [(j, some (.r E sz es.length), some (.r E sz n)), (jb, some (.b cs), none)]) :: acc) ((d, .s (some j) zs) :: env) ((j, .r E sz n) :: mem)) : DR P N ops chk K ((i, o) :: rs) acc env mem := by
  subst hz
  have e1 := Nat.eq_of_beq_eq_true hs1
  have hlen : (l.map f).length = m := by rw [List.length_map]; exact hl
  have hle : off + m ≤ cs.length ∨ m = 0 := by
    have h1 := congrArg List.length hcs
    rw [List.length_take, List.length_drop, hlen] at h1
    omega
  have hS : SrcOk P sz Tx y env (l.map f) [(jb, some (.b cs), none)] := by
    rcases hle with h | h
    · exact SrcOk.box X hy hX hdx e1 hcs h (cells1_map hf l) fun u hu => by obtain ⟨a, _, rfl⟩ := List.mem_map.1 hu; exact hr a
    · subst h
      have hl0 : l = [] := List.eq_nil_of_length_eq_zero hl
      subst hl0
      intro F g a w mem h1 h2 h4
      have hrep := h1 _ hy
      generalize hv : a.eval y = v at hrep
      cases hrep with
      | sb h => exact ⟨[], Src.ofSlice w ((X.get hX).sl hdx) _ 0 cap [] (by simp) (by simp) (by simp), by simp, by simp, by simp⟩
  refine DR.step hg (Does.appG X ho hx hS rfl hT hdt hE hsz hes (fun e he => ?_) (by rw [← List.length_append]; exact hn) hmax hb) (tpre_two (by rw [hn0]; exact hm) hb2) (by rw [hds]; exact hd) (by rw [hds]; exact hK)
  obtain ⟨a, _, rfl⟩ := List.mem_map.1 he
  rw [hf, e1]; rfl
end
end Lf
end Go.Proofs.YtgbgplijpomkeaaDoor

/- Ranges over strings. -/
namespace Go.Proofs.YtgbgplijpomkeaaDoor
open Go.RowKit Rg
namespace Lf
section
variable {P : Program} {o : Oper} {env : Env}
theorem RelM.newO {F : Fr0} {g : Gh} {w : World} {mem : Mem} (h : RelM F g mem w) (hk : Kept F g w) {i : Nat} {ob : Obj} (hi : aget mem i = none) :
    ∃ g', g'.bx i = some (w.heap.size, 0) ∧ Ev g w g' (w.alloc ob) ∧ RelM F g' ((i, .o ob) :: mem) (w.alloc ob) ∧ Kept F g' (w.alloc ob) := by
  have hb : (g.newB i w.heap.size 0).bx i = some (w.heap.size, 0) := by simp [Gh.newB]
  obtain ⟨e1, e2, e3⟩ := h.newB hk (i := i) (n := 0) (m' := .o ob) (o := ob) hi (.o hb (heap_alloc_new w ob) fun o' hS => by have := hS.2 rfl; omega) fun b o' ⟨off, hp⟩ => by rw [hb] at hp; cases hp; rfl
  exact ⟨_, hb, e1, e2, e3⟩
/-- A range over a string begins. -/
theorem Does.rangeS {T i : Nat} {x : Operand} {s : ByteArray} (X : TOk P) {ti : TI} (ho : o.op = .range T x) (hx : evo env x = some (.k (.string s))) (hT : aget X.tab T = some ti) (hd : ti.d = .str) : Does P o env (.p i 0) [(i, none, some (.o (.stringIter s 0)))] := by
  refine ⟨fun F g a w mem h1 h2 h3 h4 _ K Q hK => ?_⟩
  have hv := rep_k (h1 x (by simp [ho, Op.operands]) _ hx)
  obtain ⟨g', k1, k2, k3, k4⟩ := h2.newO h3 (ob := .stringIter s 0) (h4 _ _ _ mem_one)
  unfold Oper.wp
  have hrun : (execOp a.eval o).run P w = .ok (.value (.pointer (some ⟨w.heap.size, 0, none⟩))) (w.alloc (.stringIter s 0)) := by
    simp [execOp, ho, hv, Instr.range, run_underlying ((X.get hT).str hd), newObj, Sem.run, Result.andThen]
  rw [hrun]
  exact hK _ g' _ k2 k3 k4 (.p k1)
/-- It goes on by a sign. -/
theorem Does.nextS {i pos c wd : Nat} {x : Operand} {s : ByteArray} {b : Bool} (ho : o.op = .next x b) (hb : b = true) (hx : evo env x = some (.p i 0)) (hp : pos < s.size) (hc : ((Utf8.decode s pos).1 : Int) = (c : Int)) (hw : (Utf8.decode s pos).2 = wd) : Does P o env (.t [.k (.bool true), .k (.int .i64 (pos : Int)), .k (.int .i32 (c : Int))]) [(i, some (.o (.stringIter s pos)), some (.o (.stringIter s (pos + wd))))] := by
  subst hb
  refine ⟨fun F g a w mem h1 h2 h3 h4 _ K Q hK => ?_⟩
  have hi := h4 _ _ _ mem_one
  have hr := h1 x (by simp [ho, Op.operands]) _ hx
  obtain ⟨b, hbx, hheap, hS⟩ : ∃ b, g.bx i = some (b, 0) ∧ w.heap[b]? = some (.stringIter s pos) ∧ ∀ o, ¬ g.S b o := by
    cases h2.ob i _ hi with
    | o hg h hS => exact ⟨_, hg, h, hS⟩
  have hv : a.eval x = .pointer (some ⟨b, 0, none⟩) := by
    generalize a.eval x = y at hr
    cases hr with
    | p h => rw [hbx] at h; cases h; rfl
  obtain ⟨k1, k2, k3⟩ := h2.setO h3 (w' := w.iterAt b s (pos + wd)) (m' := .o (.stringIter s (pos + wd))) (ob := .stringIter s (pos + wd)) hi (fun _ _ => Iff.rfl) hbx hS rfl rfl rfl rfl (fun _ => .o hbx (Lib.iterAt_heap w b s pos _ hheap) hS) (fun _ _ hp' => hp')
  unfold Oper.wp
  have hrun : (execOp a.eval o).run P w = .ok (.value (.tuple #[.bool true, .int .i64 (pos : Int), .int .i32 (c : Int)])) (w.iterAt b s (pos + wd)) := by
    have := Lib.run_next_any_at (P := P) w b s pos o.type hheap hp
    rw [hc, hw] at this
    simp [execOp, ho, hv, this]
  rw [hrun]
  refine hK _ g _ k1 k2 k3 (.t rfl fun j u z hj hz => ?_)
  match j with
  | 0 => simp at hj hz; subst hj; subst hz; exact .k _
  | 1 => simp at hj hz; subst hj; subst hz; exact .k _
  | 2 => simp at hj hz; subst hj; subst hz; exact .k _
  | j + 3 => simp at hj
/-- It is over. -/
theorem Does.nextE {i pos : Nat} {x : Operand} {s : ByteArray} {b : Bool} (ho : o.op = .next x b) (hb : b = true) (hx : evo env x = some (.p i 0)) (hp : s.size ≤ pos) : Does P o env (.t [.k (.bool false)]) [(i, some (.o (.stringIter s pos)), none)] := by
  subst hb
  refine .read fun F g a w mem h1 h2 hi => ?_
  have hr := h1 x (by simp [ho, Op.operands]) _ hx
  obtain ⟨b, hbx, hheap, hS⟩ : ∃ b, g.bx i = some (b, 0) ∧ w.heap[b]? = some (.stringIter s pos) ∧ ∀ o, ¬ g.S b o := by
    cases h2.ob i _ hi with
    | o hg h hS => exact ⟨_, hg, h, hS⟩
  have hv : a.eval x = .pointer (some ⟨b, 0, none⟩) := by
    generalize a.eval x = y at hr
    cases hr with
    | p h => rw [hbx] at h; cases h; rfl
  refine ⟨.tuple #[.bool false], ?_, .t rfl fun j u z hj hz => ?_⟩
  · have := Lib.run_next_end_at (P := P) w b s pos o.type hheap (by omega)
    simp [execOp, ho, hv, this]
  · match j with
    | 0 => simp at hj hz; subst hj; subst hz; exact .k _
    | j + 1 => simp at hj
/-! ### Strings by their bytes -/
abbrev sK (l : List UInt8) : V := .k (.string ⟨l.toArray⟩)
theorem Does.lenSl {x : Operand} {T : Nat} {ts : Array Nat} {l : List UInt8} (X : TOk P) {ti : TI} (ho : o.op = .call { callee := .builtin .len, args := #[x], argTypes := ts }) (hts : ts[0]? = some T) (hx : evo env x = some (sK l)) (hT : aget X.tab T = some ti) (hd : ti.d = .str) : Does P o env (.k (.int .i64 (l.length : Int))) [] := by
  have := Does.lenS X ho hts hx hT hd
  have e : (⟨l.toArray⟩ : ByteArray).size = l.length := by simp [ByteArray.size]
  rwa [e] at this
theorem Does.indexSl {T k : Nat} {x ix : Operand} {kd : IntKind} {z : Int} {l : List UInt8} (X : TOk P) {ti : TI} (ho : o.op = .index T x ix) (hx : evo env x = some (sK l)) (hi : evo env ix = some (.k (.int kd z))) (hz : z = ((k : Nat) : Int)) (hT : aget X.tab T = some ti) (hd : ti.d = .str) (hk : k < l.length) : Does P o env (bK (l.getD k default)) [] := by
  have e : (⟨l.toArray⟩ : ByteArray).size = l.length := by simp [ByteArray.size]
  have := Does.indexS X ho hx hi hz hT hd (show k < (⟨l.toArray⟩ : ByteArray).size by rw [e]; exact hk)
  have e2 : (⟨l.toArray⟩ : ByteArray)[k]'(by rw [e]; exact hk) = l.getD k default := by
    rw [List.getD_eq_getElem?_getD, List.getElem?_eq_getElem hk]; rfl
  rw [e2] at this
  exact this
theorem Does.cutSl {T lo0 h : Nat} {x : Operand} {lo hi : Option Operand} {l : List UInt8} (X : TOk P) {ti : TI} (ho : o.op = .slice T x lo hi none) (hx : evo env x = some (sK l)) (hT : aget X.tab T = some ti) (hd : ti.d = .str) (hlo : Bd env 0 lo lo0) (hhi : Bd env l.length hi h)
    (h1 : lo0 ≤ h) (h2 : h ≤ l.length) : Does P o env (sK ((l.drop lo0).take (h - lo0))) [] := by
  have e : (⟨l.toArray⟩ : ByteArray).size = l.length := by simp [ByteArray.size]
  have := Does.cutS X ho hx hT hd hlo (by rw [e]; exact hhi) h1 (by rw [e]; exact h2)
  have e2 : (⟨l.toArray⟩ : ByteArray).extract lo0 h = ⟨((l.drop lo0).take (h - lo0)).toArray⟩ := by
    ext1
    simp [ByteArray.data_extract, List.extract_eq_take_drop]
  rw [e2] at this
  exact this
theorem Does.catl {T Y : Nat} {x y : Operand} {l m : List UInt8} (ho : o.op = .binOp .add T x y Y) (hx : evo env x = some (sK l)) (hy : evo env y = some (sK m)) (hr : l.length + m.length ≤ 9223372036854775807) : Does P o env (sK (l ++ m)) [] := by
  have e : ∀ l : List UInt8, (⟨l.toArray⟩ : ByteArray).size = l.length := fun l => by simp [ByteArray.size]
  have := Does.cat (P := P) ho hx hy (by rw [e, e]; exact hr)
  have e2 : (⟨l.toArray⟩ : ByteArray) ++ ⟨m.toArray⟩ = ⟨(l ++ m).toArray⟩ := by
    ext1
    simp
  rw [e2] at this
  exact this
end
/-! ### Bytes, lists of two -/
theorem app_two {α : Type} {f : α → V} {a : List α} {x y : α} : a.map f ++ [f x, f y] = (a ++ [x, y]).map f := by rw [List.map_append]; rfl
theorem shr_u8r {a s : Nat} (h : OfNat.ofNat s ≤ 8) : ((a : Nat) : Int).fdiv (2 ^ (min (OfNat.ofNat s : Int).toNat IntKind.u8.bits)) = ((a / 2 ^ OfNat.ofNat s : Nat) : Int) := shr_nat (k := .u8) (s := s) h
theorem shl_u8r {a s : Nat} (h : OfNat.ofNat s ≤ 8) : IntKind.u8.wrap (((a : Nat) : Int) * 2 ^ (min (OfNat.ofNat s : Int).toNat IntKind.u8.bits)) = ((UInt8.ofNat (a * 2 ^ OfNat.ofNat s)).toNat : Int) := by
  have := shl_nat (k := .u8) (a := a) (s := s) rfl h
  rw [UInt8.toNat_ofNat']
  exact this
theorem band {a b : UInt8} : IntKind.u8.wrap (((BitVec.ofInt IntKind.u8.bits (a.toNat : Int) &&& BitVec.ofInt IntKind.u8.bits (b.toNat : Int)).toNat : Nat) : Int) = ((a &&& b).toNat : Int) := by
  have := and_nat (k := .u8) rfl (a := a.toNat) (b := b.toNat) a.toNat_lt b.toNat_lt
  rw [UInt8.toNat_and]; exact this
theorem bandn {a : UInt8} {n : Nat} : IntKind.u8.wrap (((BitVec.ofInt IntKind.u8.bits (a.toNat : Int) &&& BitVec.ofInt IntKind.u8.bits (OfNat.ofNat n)).toNat : Nat) : Int) = ((a &&& UInt8.ofNat n).toNat : Int) := by
  have h : BitVec.ofInt IntKind.u8.bits (OfNat.ofNat n) = BitVec.ofInt IntKind.u8.bits ((UInt8.ofNat n).toNat : Int) := by
    apply BitVec.eq_of_toNat_eq
    rw [ofInt_nat]
    show (BitVec.ofInt IntKind.u8.bits ((n : Nat) : Int)).toNat = _
    rw [ofInt_nat, UInt8.toNat_ofNat']
    exact (Nat.mod_mod _ _).symm
  rw [h]; exact band
end Lf
end Go.Proofs.YtgbgplijpomkeaaDoor

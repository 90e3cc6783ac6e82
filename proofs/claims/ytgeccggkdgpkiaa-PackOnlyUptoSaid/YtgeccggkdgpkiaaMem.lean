/- The call's own boxes: a list of blocks with what they hold, carried through allocations, stores and calls. -/
import Derived.Test.YtgeccggkdgpkiaaOps
namespace Go.Proofs.Ytgeccggkdgpkiaa
open Go.RowKit Rp Rg Ops
namespace Mm
abbrev Ent := Nat × TypeId × Array Value

/-- Since 'w0' nothing old has turned; the call's own blocks 'L' hold what is listed. -/
structure St (w0 w : World) (L : List Ent) : Prop where
  below : Below w0.heap.size w0 w
  mem : ∀ x ∈ L, w.heap[x.1]? = some (.cells x.2.2 x.2.1 (0, 0))
  base : ∀ x ∈ L, w0.heap.size ≤ x.1
  nodup : (L.map (·.1)).Nodup

theorem St.start (w : World) : St w w [] := ⟨Below.refl _ _, by simp, by simp, by simp⟩
theorem St.ext {w0 w w' : World} {L : List Ent} (h : St w0 w L) (hx : Ext w w') : St w0 w' L :=
  ⟨h.below.trans (Below.mono hx h.below.size), fun x hxm => by
    have hm := h.mem x hxm
    rw [hx.block x.1 (Array.getElem?_eq_some_iff.1 hm).1]; exact hm, h.base, h.nodup⟩
theorem St.drew {w0 w : World} {L : List Ent} (h : St w0 w L) : St w0 w.drew L := h.ext (Below.drew (Below.refl _ w))
theorem St.alloc {w0 w : World} {L : List Ent} (h : St w0 w L) (cs : Array Value) (T : TypeId) : St w0 (w.alloc (.cells cs T)) ((w.heap.size, T, cs) :: L) := by
  have hlt : ∀ x ∈ L, x.1 < w.heap.size := fun x hx => (Array.getElem?_eq_some_iff.1 (h.mem x hx)).1
  refine ⟨h.below.alloc h.below.size _, ?_, ?_, ?_⟩
  · intro x hx
    rcases List.mem_cons.1 hx with rfl | hx
    · exact heap_alloc_new w _
    · rw [heap_alloc_old w _ (hlt x hx)]; exact h.mem x hx
  · intro x hx
    rcases List.mem_cons.1 hx with rfl | hx
    · exact h.below.size
    · exact h.base x hx
  · simp only [List.map_cons, List.nodup_cons]
    refine ⟨fun hm => ?_, h.nodup⟩
    obtain ⟨x, hx, he⟩ := List.mem_map.1 hm
    have := hlt x hx
    omega
/-- The same, the new block's number spelled otherwise. -/
theorem St.alloc' {w0 w : World} {L : List Ent} (h : St w0 w L) (cs : Array Value) (T g : Nat) (hg : g = w.heap.size) : St w0 (w.alloc (.cells cs T)) ((g, T, cs) :: L) := by
  subst hg; exact h.alloc cs T

theorem St.at {w0 w : World} {L : List Ent} (h : St w0 w L) (i : Nat) {g T : Nat} {cs : Array Value} (hL : L[i]? = some (g, T, cs)) : w.heap[g]? = some (.cells cs T (0, 0)) :=
  h.mem _ (List.mem_of_getElem? hL)
theorem St.cell {w0 w : World} {L : List Ent} (h : St w0 w L) (i : Nat) {g T : Nat} {cs : Array Value} (hL : L[i]? = some (g, T, cs)) (j : Nat) {v : Value} (hv : cs[j]? = some v) : w.cell? ⟨g, j, none⟩ = some v := by
  rw [cell_of_row w g j cs T (0, 0) (h.at i hL)]; exact hv
theorem St.frozen {w0 w : World} {L : List Ent} (h : St w0 w L) (i : Nat) {g T : Nat} {cs : Array Value} (hL : L[i]? = some (g, T, cs)) (j : Nat) : w.frozen? ⟨g, j, none⟩ = false :=
  frozen_of_row w g j cs T (h.at i hL)
theorem St.lt {w0 w : World} {L : List Ent} (h : St w0 w L) (i : Nat) {g T : Nat} {cs : Array Value} (hL : L[i]? = some (g, T, cs)) : g < w.heap.size := (Array.getElem?_eq_some_iff.1 (h.at i hL)).1

theorem St.put {w0 w w' : World} {L : List Ent} (h : St w0 w L) (i : Nat) {g T : Nat} {cs : Array Value} (cs' : Array Value) (hL : L[i]? = some (g, T, cs))
    (h1 : w'.heap[g]? = some (.cells cs' T (0, 0))) (h2 : ∀ k, k ≠ g → w'.heap[k]? = w.heap[k]?) (h3 : w'.os = w.os ∧ w'.tape = w.tape ∧ w'.output = w.output ∧ w'.heap.size = w.heap.size) : St w0 w' (L.set i (g, T, cs')) := by
  have hb := h.base _ (List.mem_of_getElem? hL)
  obtain ⟨hi, hLi⟩ := List.getElem?_eq_some_iff.1 hL
  refine ⟨h.below.trans ⟨h3.1, h3.2.1, h3.2.2.1, by omega, fun k hk => h2 k (by simp only at hb; omega)⟩, ?_, ?_, ?_⟩
  · intro x hx
    obtain ⟨j, hj, rfl⟩ := List.getElem_of_mem hx
    rw [List.getElem_set]
    split
    · exact h1
    · rename_i hij
      have hj' : j < L.length := by simpa using hj
      have hne : L[j].1 ≠ g := by
        intro he
        have hn := h.nodup
        rw [List.nodup_iff_pairwise_ne, List.pairwise_iff_getElem] at hn
        have e1 : (L.map (·.1))[i]'(by simpa using hi) = g := by simp [hLi]
        have e2 : (L.map (·.1))[j]'(by simpa using hj') = g := by simp [he]
        rcases Nat.lt_or_gt_of_ne hij with hl | hl
        · exact hn i j (by simpa using hi) (by simpa using hj') hl (e1.trans e2.symm)
        · exact hn j i (by simpa using hj') (by simpa using hi) hl (e2.trans e1.symm)
      rw [h2 _ hne]
      exact h.mem _ (List.getElem_mem hj')
  · intro x hx
    rcases List.mem_or_eq_of_mem_set hx with hx | rfl
    · exact h.base x hx
    · exact hb
  · have e : (L.set i (g, T, cs')).map (·.1) = L.map (·.1) := by
      rw [List.map_set]
      apply List.ext_getElem
      · simp
      · intro k hk1 hk2
        rw [List.getElem_set]
        split
        · rename_i hik; subst hik; simp [hLi]
        · rfl
    rw [e]; exact h.nodup

theorem St.setCell {w0 w : World} {L : List Ent} (h : St w0 w L) (i : Nat) {g T : Nat} {cs : Array Value} (hL : L[i]? = some (g, T, cs)) (j : Nat) (v : Value) : St w0 (w.setCell ⟨g, j, none⟩ v) (L.set i (g, T, cs.setIfInBounds j v)) := by
  have hg := h.at i hL
  rw [setCell_eq_setRow w g j cs T (0, 0) v hg]
  exact h.put i _ hL (setRow_heap w g cs _ T _ hg) (fun k hk => setRow_other w g k _ hk) ⟨rfl, rfl, rfl, by simp⟩
theorem St.setRow {w0 w : World} {L : List Ent} (h : St w0 w L) (i : Nat) {g T : Nat} {cs : Array Value} (hL : L[i]? = some (g, T, cs)) (cs' : Array Value) : St w0 (w.setRow g cs') (L.set i (g, T, cs')) :=
  h.put i _ hL (setRow_heap w g cs _ T _ (h.at i hL)) (fun k hk => setRow_other w g k _ hk) ⟨rfl, rfl, rfl, by simp⟩

/-- A row written as it was. -/
theorem ext_setRow_same {w : World} {g T : Nat} {cs : Array Value} (hg : w.heap[g]? = some (.cells cs T (0, 0))) : Ext w (w.setRow g cs) :=
  ⟨rfl, rfl, rfl, by simp, fun k _ => by
    by_cases h : k = g
    · subst h; rw [setRow_heap w k cs cs T _ hg, hg]
    · exact setRow_other w g k cs h⟩

section
variable {P : Program}
/-- An array's or a struct's type of k cells. -/
def Agg (P : Program) (t k : Nat) : Prop := (∃ d, P.underlying t = some d ∧ (match d with | .struct _ | .array _ _ => true | _ => false) = true) ∧ (P.info? t).map (·.size) = some k

theorem run_ld {t k : Nat} (hA : Agg P t k) {w : World} {g off T : Nat} {cs : Array Value} (hg : w.heap[g]? = some (.cells cs T (0, 0))) (hk : off + k ≤ cs.size) :
    (loadVar t ⟨g, off, none⟩).run P w = .ok (.agg (cs.extract off (off + k))) w := by
  obtain ⟨⟨d, hu, hd⟩, hi⟩ := hA
  have hln : (cs.extract off (off + k)).toList.length = k := by simp; omega
  have hl : (loadCells ⟨g, off, none⟩ (cs.extract off (off + k)).toList.length).run P w = .ok (cs.extract off (off + k)).toList.toArray w :=
    run_loadCells_list (P := P) w ⟨g, off, none⟩ (cs.extract off (off + k)).toList (fun j v hv => by
      rw [Addr.add_lit, cell_of_row w g (off + j) cs T (0, 0) hg]
      rw [Array.getElem?_toList, Array.getElem?_extract] at hv
      split at hv
      · exact hv
      · cases hv)
  cases hq : P.info? t with
  | none => simp [hq] at hi
  | some i =>
    have hs : i.size = k := by simpa [hq] using hi
    have hagg : (isAgg t).run P w = .ok true w := by
      unfold isAgg
      rw [Sem.run_bind, run_underlying hu w]
      cases d <;> simp_all
    rw [hln] at hl
    simp only [Array.toArray_toList] at hl
    simp [loadVar, Sem.run_bind, hagg, sizeOf, typeInfo, hq, hs, hl]

theorem run_st {t k : Nat} (hA : (P.info? t).map (·.size) = some k) {w : World} {g off T : Nat} {cs vs : Array Value} (hg : w.heap[g]? = some (.cells cs T (0, 0))) (hk : off + k ≤ cs.size) (hv : vs.size = k) (h1 : ∀ v ∈ vs.toList, v.oneCell' = true) :
    (storeVar t ⟨g, off, none⟩ (.agg vs)).run P w = .ok () (w.setRow g (cs.toList.take off ++ vs.toList ++ cs.toList.drop (off + k)).toArray) := by
  have hst := run_storeCells_at P g off T vs.toList 0 cs w hg (by simp; omega) h1
  cases hq : P.info? t with
  | none => simp [hq] at hA
  | some i =>
    have hs : i.size = k := by simpa [hq] using hA
    simp only [Nat.add_zero, Array.length_toList, hv] at hst
    simp [storeVar, Value.cells, sizeOf, typeInfo, hq, hs, hv, hst]

variable {ops : Array Oper} {Q : Exit → Act → World → Prop} {a : Act} {rest : List Oper} {o : Oper} {w : World}

/-- A whole array, or a part of a struct's cells, is loaded. -/
theorem ld {t k : Nat} (hA : Agg P t k) (hgd : o.guard = none) (x : Operand) (ho : o.op = .load t x) {g off T : Nat} {cs : Array Value} (hx : a.eval x = .pointer (some ⟨g, off, none⟩)) (hg : w.heap[g]? = some (.cells cs T (0, 0))) (hk : off + k ≤ cs.size)
    (hK : wpList P ops Q rest (a.put o.dst (.agg (cs.extract off (off + k)))) w) : wpList P ops Q (o :: rest) a w := by
  refine wpList_plain hgd fun K hK' => ?_
  unfold Oper.wp execOp
  simp only [ho, hx, Instr.loadAt, Instr.sureAddr, Sem.run_bind, Sem.run_pure, Result.andThen_ok, run_ld hA hg hk]
  exact hK' _ _ hK
theorem ldAll {t k : Nat} (hA : Agg P t k) {cs : Array Value} (hgd : o.guard = none) (x : Operand) (ho : o.op = .load t x) {g T : Nat} (hx : a.eval x = .pointer (some ⟨g, 0, none⟩)) (hg : w.heap[g]? = some (.cells cs T (0, 0))) (hk : cs.size = k)
    (hK : wpList P ops Q rest (a.put o.dst (.agg cs)) w) : wpList P ops Q (o :: rest) a w :=
  ld hA hgd x ho hx hg (by omega) (by subst hk; simpa using hK)
/-- The same, of an operation that a guard lets through. -/
theorem wpList_wanted (hw : Region.wanted o (yielded ops a.tmps) = true) (h : ∀ K : Act → World → Prop, (∀ a w, wpList P ops Q rest a w → K a w) → o.wp P a w K Q) : wpList P ops Q (o :: rest) a w :=
  wpList_step fun K hK => by rw [if_pos hw]; exact h K hK
theorem ldAllW {t k : Nat} (hA : Agg P t k) {cs : Array Value} (hgd : Region.wanted o (yielded ops a.tmps) = true) (x : Operand) (ho : o.op = .load t x) {g T : Nat} (hx : a.eval x = .pointer (some ⟨g, 0, none⟩)) (hg : w.heap[g]? = some (.cells cs T (0, 0))) (hk : cs.size = k)
    (hK : wpList P ops Q rest (a.put o.dst (.agg cs)) w) : wpList P ops Q (o :: rest) a w := by
  refine wpList_wanted hgd fun K hK' => ?_
  unfold Oper.wp execOp
  subst hk
  have := run_ld hA (off := 0) hg (by omega)
  simp only [ho, hx, Instr.loadAt, Instr.sureAddr, Sem.run_bind, Sem.run_pure, Result.andThen_ok, this]
  exact hK' _ _ (by simpa using hK)
theorem st {t k : Nat} (hA : Agg P t k) (hgd : o.guard = none) (x y : Operand) (ho : o.op = .store t x y) {g off T : Nat} {cs vs : Array Value} (hx : a.eval x = .pointer (some ⟨g, off, none⟩)) (hy : a.eval y = .agg vs) (hg : w.heap[g]? = some (.cells cs T (0, 0)))
    (hk : off + k ≤ cs.size) (hv : vs.size = k) (h1 : ∀ v ∈ vs.toList, v.oneCell' = true)
    (hK : wpList P ops Q rest (a.put o.dst undef) (w.setRow g (cs.toList.take off ++ vs.toList ++ cs.toList.drop (off + k)).toArray)) : wpList P ops Q (o :: rest) a w := by
  refine wpList_plain hgd fun K hK' => ?_
  unfold Oper.wp execOp
  simp only [ho, hx, hy, Instr.storeAt, Instr.sureAddr, Sem.run_bind, Sem.run_pure, Result.andThen_ok, run_st hA.2 hg hk hv h1]
  exact hK' _ _ hK
theorem stAll {t k : Nat} (hA : Agg P t k) {cs vs : Array Value} (hgd : o.guard = none) (x y : Operand) (ho : o.op = .store t x y) {g T : Nat} (hx : a.eval x = .pointer (some ⟨g, 0, none⟩)) (hy : a.eval y = .agg vs) (hg : w.heap[g]? = some (.cells cs T (0, 0)))
    (hv : vs.size = k) (hc : cs.size = k) (h1 : ∀ v ∈ vs.toList, v.oneCell' = true) (hK : wpList P ops Q rest (a.put o.dst undef) (w.setRow g vs)) : wpList P ops Q (o :: rest) a w := by
  refine st hA hgd x y ho hx hy hg (by omega) hv h1 ?_
  rw [show cs.toList.drop (0 + k) = [] from by simp [hc]]
  simpa using hK

/-- In a piece that only reads: an operation whose value is known in every later world. -/
theorem qval {K : Act → Prop} {v : Value} (h : ∀ x : Lt w, (execOp a.eval o).run P x.v = .ok (.value v) x.v) (hK : K (a.put o.dst v)) : o.quiet P a (Cls w) K :=
  ⟨v, fun w' hw' => by obtain ⟨x, rfl⟩ := hw'; unfold Oper.quietAt; rw [h x]; exact ⟨rfl, rfl⟩, hK⟩
theorem qlist {C : World → Prop} {K : Act → Prop} (hg : o.guard = none) (h : ∀ K' : Act → Prop, (∀ a, wpQuiet P ops C K rest a → K' a) → o.quiet P a C K') : wpQuiet P ops C K (o :: rest) a :=
  wpQuiet_step fun K' hK' => by rw [if_pos (by simp [Region.wanted, hg])]; exact h K' hK'
theorem qld {K : Act → Prop} {t k : Nat} (hA : Agg P t k) (hgd : o.guard = none) (x : Operand) (ho : o.op = .load t x) {g off T : Nat} {cs : Array Value} (hx : a.eval x = .pointer (some ⟨g, off, none⟩)) (hg : w.heap[g]? = some (.cells cs T (0, 0))) (hk : off + k ≤ cs.size)
    (hK : wpQuiet P ops (Cls w) K rest (a.put o.dst (.agg (cs.extract off (off + k))))) : wpQuiet P ops (Cls w) K (o :: rest) a := by
  refine qlist hgd fun K' hK' => qval (fun y => ?_) (hK' _ hK)
  have hg' : y.v.heap[g]? = some (.cells cs T (0, 0)) := by rw [y.ext.block g (Array.getElem?_eq_some_iff.1 hg).1]; exact hg
  unfold execOp
  simp only [ho, hx, Instr.loadAt, Instr.sureAddr, Sem.run_bind, Sem.run_pure, Result.andThen_ok, run_ld hA hg' hk]
theorem qldAll {K : Act → Prop} {t k : Nat} (hA : Agg P t k) {cs : Array Value} (hgd : o.guard = none) (x : Operand) (ho : o.op = .load t x) {g T : Nat} (hx : a.eval x = .pointer (some ⟨g, 0, none⟩)) (hg : w.heap[g]? = some (.cells cs T (0, 0))) (hk : cs.size = k)
    (hK : wpQuiet P ops (Cls w) K rest (a.put o.dst (.agg cs))) : wpQuiet P ops (Cls w) K (o :: rest) a :=
  qld hA hgd x ho hx hg (by omega) (by subst hk; simpa using hK)

theorem qldAllW {K : Act → Prop} {t k : Nat} (hA : Agg P t k) {cs : Array Value} (hgd : Region.wanted o (yielded ops a.tmps) = true) (x : Operand) (ho : o.op = .load t x) {g T : Nat} (hx : a.eval x = .pointer (some ⟨g, 0, none⟩)) (hg : w.heap[g]? = some (.cells cs T (0, 0))) (hk : cs.size = k)
    (hK : wpQuiet P ops (Cls w) K rest (a.put o.dst (.agg cs))) : wpQuiet P ops (Cls w) K (o :: rest) a := by
  refine wpQuiet_step fun K' hK' => ?_
  rw [if_pos hgd]
  refine qval (fun y => ?_) (hK' _ hK)
  have hg' : y.v.heap[g]? = some (.cells cs T (0, 0)) := by rw [y.ext.block g (Array.getElem?_eq_some_iff.1 hg).1]; exact hg
  unfold execOp
  subst hk
  have := run_ld hA (off := 0) hg' (by omega)
  simp only [ho, hx, Instr.loadAt, Instr.sureAddr, Sem.run_bind, Sem.run_pure, Result.andThen_ok, this]
  simp

/-- A load in a piece that only reads, as if its value were moved (so the walk writes the frame out). -/
theorem qldM {K : Act → Prop} {dst : Option Tmp} {ty : TypeId} {pos : String} {after : Array Edge} {guard : Option (Nat × Bool)} {t k : Nat} (hA : Agg P t k) {x : Operand} {g T : Nat} {cs : Array Value} (hx : a.eval x = .pointer (some ⟨g, 0, none⟩)) (hg : w.heap[g]? = some (.cells cs T (0, 0))) (hk : cs.size = k)
    (h : (⟨dst, .move (.const (.agg cs)), ty, pos, after, guard⟩ : Oper).quiet P a (Cls w) K) : (⟨dst, .load t x, ty, pos, after, guard⟩ : Oper).quiet P a (Cls w) K := by
  obtain ⟨v, h1, h2⟩ := h
  have hv : v = .agg cs := by
    have h3 := h1 w (Cls.mk (Ext.refl w))
    unfold Oper.quietAt execOp at h3
    simp only [Act.eval, Sem.run_pure, Oper.quietUpon] at h3
    first | exact h3.2 | exact h3.2.symm | exact h3 | exact h3.symm
  subst hv
  refine qval (fun y => ?_) h2
  have hg' : y.v.heap[g]? = some (.cells cs T (0, 0)) := by rw [y.ext.block g (Array.getElem?_eq_some_iff.1 hg).1]; exact hg
  unfold execOp
  subst hk
  have := run_ld hA (off := 0) hg' (by omega)
  simp only [hx, Instr.loadAt, Instr.sureAddr, Sem.run_bind, Sem.run_pure, Result.andThen_ok, this]
  simp

/-- The result lies in a box. -/
theorem ret_cell {t k : Nat} (hA : Agg P t k) {fn : Func} {p : Tmp} (h : fn.results = #[.cell p t]) {tmps : Array Value} {g T : Nat} {cs : Array Value} (hp : tmps.getD p undef = .pointer (some ⟨g, 0, none⟩)) (hg : w.heap[g]? = some (.cells cs T (0, 0)))
    (hk : cs.size = k) : (results fn tmps).run P w = .ok (.agg cs) w := by
  have hp' : tmps[p]?.getD undef = .pointer (some ⟨g, 0, none⟩) := by simpa using hp
  have hl := run_ld (P := P) hA (off := 0) hg (by omega)
  subst hk
  simp [results, h, hp', asAddr, hl]
def isRow : TypeDesc → Bool | .struct _ | .array _ _ => true | _ => false
/-- An element of an array's value. -/
theorem run_idx {t e n : Nat} {d : TypeDesc} (hu : P.underlying t = some (.array n e)) (hd : P.underlying e = some d) (hna : isRow d = false) (hs : (P.info? e).map (·.size) = some 1)
    {cs : Array Value} {i : Nat} {v : Value} (hi : i < n) (hv : cs[i]? = some v) (k : IntKind) (w : World) : (Instr.index t (.agg cs) (.int k (i : Int))).run P w = .ok v w := by
  have hin : (0 : Int) ≤ (i : Int) ∧ (i : Int) < (n : Int) := by omega
  cases hq : P.info? e with
  | none => simp [hq] at hs
  | some inf =>
    have hsz : inf.size = 1 := by simpa [hq] using hs
    have hagg : (isAgg e).run P w = .ok false w := by
      unfold isAgg
      rw [Sem.run_bind, run_underlying hd w]
      cases d <;> simp_all [isRow]
    simp [Instr.index, part, hi, run_underlying hu, asIntOf, hin, sizeOf, typeInfo, hq, hsz, hagg, hv, Sem.run_bind]
/-- A slice turned into an array's address. -/
theorem run_arrayAt {t e n : Nat} (hu : P.underlying t = some (.array n e)) (g off len cap : Nat) (hn : n ≤ len) (w : World) : (Instr.arrayAt t (.slice (some ⟨g, off, none⟩) len cap)).run P w = .ok (.pointer (some ⟨g, off, none⟩)) w := by
  simp [Instr.arrayAt, run_underlying hu, Sem.run_bind, Nat.not_lt.2 hn]
/-- One result: a slot, or an array's box. -/
def slot (tmps : Array Value) : ResultVar → Sem Value
  | .tmp t => pure (tmps.getD t undef)
  | .cell a t => do loadVar t (← asAddr (tmps.getD a undef))
theorem slot_tmp {tmps : Array Value} {t : Tmp} {v : Value} (h : tmps.getD t undef = v) : (slot tmps (.tmp t)).run P w = .ok v w := by simp only [slot, h, Sem.run_pure]
theorem slot_cell {t k : Nat} (hA : Agg P t k) {p : Tmp} {tmps : Array Value} {g T : Nat} {cs : Array Value} (hp : tmps.getD p undef = .pointer (some ⟨g, 0, none⟩)) (hg : w.heap[g]? = some (.cells cs T (0, 0)))
    (hk : cs.size = k) : (slot tmps (.cell p t)).run P w = .ok (.agg cs) w := by
  have hp' : tmps[p]?.getD undef = .pointer (some ⟨g, 0, none⟩) := by simpa using hp
  have hl := run_ld (P := P) hA (off := 0) hg (by omega)
  subst hk
  simp [slot, hp', asAddr, hl]
theorem ret_two {fn : Func} {s1 s2 : ResultVar} (h : fn.results = #[s1, s2]) {tmps : Array Value} {v1 v2 : Value} (h1 : (slot tmps s1).run P w = .ok v1 w) (h2 : (slot tmps s2).run P w = .ok v2 w) :
    (results fn tmps).run P w = .ok (.tuple #[v1, v2]) w := by
  have e : results fn tmps = (do let vs ← fn.results.mapM (slot tmps); pure (if h : vs.size = 1 then vs[0] else .tuple vs)) := rfl
  rw [e, h]
  simp [h1, h2]
end
end Mm
end Go.Proofs.Ytgeccggkdgpkiaa

/- Lifted operations that meet memory: variables, loads, stores, places, slices, append. -/
import Derived.Test.YtgeccggkdgpkiaaLmem
import Derived.Deep.AppendSrc
namespace Go.Proofs.Ytgeccggkdgpkiaa
open Go.RowKit Rg
namespace Lf
section
variable {P : Program} {o : Oper} {env : Env} {v : V}

/-- A value as cells. -/
def V.ok : V → Bool
  | .a _ => true
  | v => v.one
theorem rep_cells {w : World} {g : Gh} {v : V} {x : Value} (h : Rep w g v x) (hv : v.ok = true) : v.cells.length = x.cells.size ∧ (∀ u ∈ v.cells, u.one = true) ∧ ∀ (j : Nat) u y, v.cells[j]? = some u → x.cells[j]? = some y → Rep w g u y := by
  cases v
  case a cs =>
    cases h with
    | a hl h1 hc => exact ⟨hl, h1, hc⟩
  case t => cases hv
  all_goals
    have h1 := h.oneCell hv
    have hx : x.cells = #[x] := by
      cases x <;> first | rfl | cases h1
    rw [hx]
    refine ⟨rfl, fun u hu => ?_, fun j u y hj hy => ?_⟩
    · simp only [V.cells, List.mem_singleton] at hu
      subst hu; exact hv
    · simp only [V.cells] at hj
      cases j with
      | zero => simp at hj hy; subst hj; subst hy; exact h
      | succ j => simp at hj

theorem Does.alloc (X : TOk P) {T : Nat} {ti : TI} (i : Nat) (ho : o.op = .alloc T) (hT : aget X.tab T = some ti) : Does P o env (.p i 0) [(i, none, some (.b (ti.zero.map Z.v)))] := by
  refine ⟨fun F g a w mem _ h2 h3 h4 _ K Q hK => ?_⟩
  obtain ⟨inf, hi, hs, hb, z, hz, hl, hl', hzz, _⟩ := (X.get hT).info
  obtain ⟨g', k1, k2, k3, k4⟩ := h2.newBox h3 (i := i) (T := T) (cs := ti.zero.map Z.v) (xs := z.cells) (h4 _ _ _ mem_one) (by simpa using hl) (fun u hu => by
    obtain ⟨q, _, rfl⟩ := List.mem_map.1 hu; exact q.one) (fun j u x hj hx => by
    rw [List.getElem?_map] at hj
    obtain ⟨q, hq, rfl⟩ := Option.map_eq_some_iff.1 hj
    obtain ⟨x', hx', hi'⟩ := hzz j q hq
    have : x = x' := by simpa [hx] using hx'
    subst this
    exact Z.rep hi')
  unfold Oper.wp
  have hrun : (execOp a.eval o).run P w = .ok (.value (.pointer (some ⟨w.heap.size, 0, none⟩))) (w.alloc (.cells z.cells T)) := by
    simp [execOp, ho, Instr.alloc, zeroValue, typeInfo, hi, hz, newVar, newRow]
  rw [hrun]
  exact hK _ g' _ k2 k3 k4 (.p k1)
theorem Does.box {T i : Nat} {x : Operand} {u : V} (ho : o.op = .box T x) (hx : evo env x = some u) (hu : u.ok = true) : Does P o env (.p i 0) [(i, none, some (.b u.cells))] := by
  refine ⟨fun F g a w mem h1 h2 h3 h4 _ K Q hK => ?_⟩
  have hr := h1 x (by simp [ho, Op.operands]) u hx
  obtain ⟨c1, c2, c3⟩ := rep_cells hr hu
  obtain ⟨g', k1, k2, k3, k4⟩ := h2.newBox h3 (i := i) (T := T) (cs := u.cells) (xs := (a.eval x).cells) (h4 _ _ _ mem_one) c1 c2 c3
  unfold Oper.wp
  have hrun : (execOp a.eval o).run P w = .ok (.value (.pointer (some ⟨w.heap.size, 0, none⟩))) (w.alloc (.cells (a.eval x).cells T)) := by
    simp [execOp, ho, Instr.box, newVar, newRow]
  rw [hrun]
  exact hK _ g' _ k2 k3 k4 (.p k1)

/-! ### Loads -/
theorem run_load_one {T : Nat} {ti : TI} (h : TIok P T ti) (hd : ti.d.agg = false) {w : World} {b o : Nat} {x : Value} (hc : w.cell? ⟨b, o, none⟩ = some x) : (loadVar T ⟨b, o, none⟩).run P w = .ok x w := by
  simp only [loadVar, Sem.run_bind, h.run_agg, hd, Result.andThen_ok]
  simp only [Bool.false_eq_true, if_false, load, Sem.run, hc]
theorem run_load_agg {T : Nat} {ti : TI} (h : TIok P T ti) (hd : ti.d.agg = true) {w : World} {b o : Nat} {xs : List Value} (hl : xs.length = ti.size) (hc : w.rangeAt b o xs) : (loadVar T ⟨b, o, none⟩).run P w = .ok (.agg xs.toArray) w := by
  have := run_loadCells_list (P := P) w ⟨b, o, none⟩ xs (fun j v hv => by rw [Addr.add_mid]; exact hc j v hv)
  rw [hl] at this
  simp only [loadVar, Sem.run_bind, h.run_agg, hd, Result.andThen_ok, if_true, h.run_size, this]
  rfl

/-- What is loaded from cells from an offset on. -/
def TI.part (ti : TI) (cs : List V) (off : Nat) : Option V :=
  cond ti.d.agg (cond (Nat.beq off 0 && Nat.beq cs.length ti.size) (some (.a cs)) (cond (Nat.ble (off + ti.size) cs.length) (some (.a ((cs.drop off).take ti.size))) none)) cs[off]?

theorem part_agg {ti : TI} {cs : List V} {off : Nat} {v : V} (hd : ti.d.agg = true) (h : ti.part cs off = some v) : off + ti.size ≤ cs.length ∧ v = .a ((cs.drop off).take ti.size) := by
  simp only [TI.part, hd, cond_true] at h
  cases hc : (Nat.beq off 0 && Nat.beq cs.length ti.size)
  · rw [hc, cond_false] at h
    cases hb : Nat.ble (off + ti.size) cs.length
    · rw [hb] at h; cases h
    · rw [hb] at h; cases h
      exact ⟨Nat.le_of_ble_eq_true hb, rfl⟩
  · rw [hc] at h
    simp only [Bool.and_eq_true] at hc
    have e1 := Nat.eq_of_beq_eq_true hc.1
    have e2 := Nat.eq_of_beq_eq_true hc.2
    subst e1
    cases h
    exact ⟨by omega, by rw [List.drop_zero, List.take_of_length_le (by omega)]⟩
theorem part_one {ti : TI} {cs : List V} {off : Nat} {v : V} (hd : ti.d.agg = false) (h : ti.part cs off = some v) : cs[off]? = some v := by
  simpa [TI.part, hd] using h
theorem part_whole {ti : TI} {cs : List V} (hd : ti.d.agg = true) (h : cs.length = ti.size) : ti.part cs 0 = some (.a cs) := by
  have : Nat.beq cs.length ti.size = true := by rw [h]; exact Nat.beq_refl _
  simp [TI.part, hd, this]

theorem rep_part {g : Gh} {w : World} {T : Nat} {ti : TI} (h : TIok P T ti) {cs : List V} {off b bo : Nat} {v : V} (hv : ti.part cs off = some v) (h1 : ∀ u ∈ cs, u.one = true) {xs : List Value} (hl : xs.length = cs.length) (hx : w.rangeAt b bo xs)
    (hr : ∀ (j : Nat) u x, cs[j]? = some u → xs[j]? = some x → Rep w g u x) : ∃ x, (Instr.loadAt T (.pointer (some ⟨b, bo + off, none⟩))).run P w = .ok x w ∧ Rep w g v x := by
  cases hd : ti.d.agg
  · have hv' := part_one hd hv
    have hlt := (List.getElem?_eq_some_iff.1 hv').1
    have hxx : xs[off]? = some xs[off] := List.getElem?_eq_getElem (by omega)
    exact ⟨xs[off], by simp only [Instr.loadAt, Instr.sureAddr, Sem.run_bind, Sem.run_pure, Result.andThen_ok, run_load_one h hd (hx off _ hxx)], hr off v _ hv' hxx⟩
  · obtain ⟨hle, rfl⟩ := part_agg hd hv
    have hrange : w.rangeAt b (bo + off) ((xs.drop off).take ti.size) := fun j u hj => by
      rw [List.getElem?_take] at hj
      split at hj
      · rw [List.getElem?_drop] at hj
        rw [Nat.add_assoc]
        exact hx _ u hj
      · cases hj
    refine ⟨.agg ((xs.drop off).take ti.size).toArray, by simp only [Instr.loadAt, Instr.sureAddr, Sem.run_bind, Sem.run_pure, Result.andThen_ok, run_load_agg h hd (by simp; omega) hrange], .a (by simp; omega) (fun u hu => h1 u (List.mem_of_mem_drop (List.mem_of_mem_take hu))) (fun j u x hj hxj => ?_)⟩
    simp only [List.getElem?_toArray, List.getElem?_take, List.getElem?_drop] at hj hxj
    split at hj
    · rename_i hjl
      rw [if_pos hjl] at hxj
      exact hr _ u x hj hxj
    · cases hj

theorem Does.load {T i off : Nat} {x : Operand} {cs : List V} (X : TOk P) {ti : TI} {mem0 : Mem} (ho : o.op = .load T x) (hx : evo env x = some (.p i off)) (_hm : aget mem0 i = some (.b cs)) (hT : aget X.tab T = some ti) (hv : ti.part cs off = some v) : Does P o env v [(i, some (.b cs), none)] :=
  .read fun F g a w mem h1 h2 h4 => by
    have hr := h1 x (by simp [ho, Op.operands]) _ hx
    obtain ⟨b, bo, e1, _, hB⟩ := h2.box h4
    obtain ⟨xs, hl, hrange, hrep⟩ := hB.vals
    have hy : a.eval x = .pointer (some ⟨b, bo + off, none⟩) := by
      generalize a.eval x = y at hr
      cases hr with
      | p hp => rw [e1] at hp; cases hp; rfl
    obtain ⟨y, hrun, hrep'⟩ := rep_part (X.get hT) hv hB.one hl hrange hrep
    exact ⟨y, by simp [execOp, ho, hy, hrun], hrep'⟩
theorem Does.loadQ {T : Nat} {x : Operand} {cs : List V} (X : TOk P) {ti : TI} (ho : o.op = .load T x) (hx : evo env x = some (.q cs)) (hT : aget X.tab T = some ti) (hv : ti.part cs 0 = some v) : Does P o env v [] :=
  .pure fun F g a w mem h1 h2 => by
    have hr := h1 x (by simp [ho, Op.operands]) _ hx
    generalize hy : a.eval x = y at hr
    cases hr with
    | @q _ _ b off xs h1' hx' hc =>
      have hl : ((List.range cs.length).map xs).length = cs.length := by simp
      obtain ⟨y, hrun, hrep'⟩ := rep_part (g := g) (w := w) (b := b) (bo := off) (X.get hT) hv h1' hl (fun j u hj => by
        rw [List.getElem?_map] at hj
        obtain ⟨k, hk, rfl⟩ := Option.map_eq_some_iff.1 hj
        obtain ⟨hkl, hk'⟩ := List.getElem?_eq_some_iff.1 hk
        simp at hk' hkl; subst hk'
        exact (hx' j cs[j] (List.getElem?_eq_getElem hkl)).2.2) (fun j u x hj hxj => by
        rw [List.getElem?_map] at hxj
        obtain ⟨k, hk, rfl⟩ := Option.map_eq_some_iff.1 hxj
        obtain ⟨hkl, hk'⟩ := List.getElem?_eq_some_iff.1 hk
        simp at hk'; subst hk'
        exact (hc j u hj).of_bare)
      rw [Nat.add_zero] at hrun
      exact ⟨y, by simp [execOp, ho, hy, hrun], hrep'⟩

/-! ### Stores -/
theorem Does.store {T i off : Nat} {x y : Operand} {cs : List V} {u : V} (X : TOk P) {ti : TI} {mem0 : Mem} {cs' : List V} (ho : o.op = .store T x y) (hx : evo env x = some (.p i off)) (hy : evo env y = some u) (_hm : aget mem0 i = some (.b cs)) (hT : aget X.tab T = some ti)
    (hu : u.ok = true) (hs : Nat.beq u.cells.length ti.size = true) (hle : Nat.ble (off + u.cells.length) cs.length = true) (hcs : splice cs off u.cells = cs') : Does P o env (.k undef) [(i, some (.b cs), some (.b cs'))] := by
  refine ⟨fun F g a w mem h1 h2 h3 h4 _ K Q hK => ?_⟩
  subst hcs
  have hr := h1 x (by simp [ho, Op.operands]) _ hx
  have hr2 := h1 y (by simp [ho, Op.operands]) _ hy
  have hi := h4 _ _ _ mem_one
  obtain ⟨b, bo, e1, _, hB⟩ := h2.box hi
  have hxx : a.eval x = .pointer (some ⟨b, bo + off, none⟩) := by
    generalize a.eval x = y at hr
    cases hr with
    | p hp => rw [e1] at hp; cases hp; rfl
  obtain ⟨c1, c2, c3⟩ := rep_cells hr2 hu
  have hs' := Nat.eq_of_beq_eq_true hs
  obtain ⟨k1, k2, k3, k4⟩ := h2.store h3 hi e1 (o := off) (us := u.cells) (xs := (a.eval y).cells.toList) (Nat.le_of_ble_eq_true hle) (by simpa using c1) c2 (fun j u x hj hx => c3 j u x hj (by simpa using hx))
  unfold Oper.wp
  have hone : ∀ x ∈ (a.eval y).cells.toList, x.oneCell' = true := fun x hx => by
    obtain ⟨j, hj⟩ := List.getElem?_of_mem hx
    have hjl := (List.getElem?_eq_some_iff.1 hj).1
    have hjl2 : j < u.cells.length := by rw [c1]; simpa using hjl
    have hju : u.cells[j]? = some u.cells[j] := List.getElem?_eq_getElem hjl2
    exact (c3 j _ x hju (by simpa using hj)).oneCell (c2 _ (List.mem_of_getElem? hju))
  have hst := run_storeCells_cells (P := P) b (bo + off) (a.eval y).cells.toList 0 w (by simpa using fun j hj => (k1 j hj).1) (by simpa using fun j hj => (k1 j hj).2) hone
  simp only [Nat.add_zero] at hst
  have hrun : (execOp a.eval o).run P w = .ok .skip (w.setCells b (bo + off) (a.eval y).cells.toList) := by
    have e2 : (a.eval y).cells.size = ti.size := by omega
    simp [execOp, ho, hxx, Instr.storeAt, Instr.sureAddr, storeVar, (X.get hT).run_size, e2, hst]
  rw [hrun]
  exact hK undef g _ k2 k3 k4 (.k _)

/-! ### Places -/
theorem run_fieldPlace {T f fo ft : Nat} {ti fi : TI} {fs : List (Nat × Nat)} (h : TIok P T ti) (hd : ti.d = .st fs) (hf : fs[f]? = some (fo, ft)) (hF : TIok P ft fi) (hs : Nat.blt 0 fi.size = true) (w : World) (b off : Nat) :
    (Instr.fieldAt T (.pointer (some ⟨b, off, none⟩)) f).run P w = .ok (.pointer (some ⟨b, off + fo, none⟩)) w := by
  obtain ⟨gs, hu, hg⟩ := h.st hd
  have hfl : ∃ fd, gs[f]? = some fd ∧ fd.offset = fo ∧ fd.type = ft := by
    rw [← hg, List.getElem?_map] at hf
    obtain ⟨fd, h1, h2⟩ := Option.map_eq_some_iff.1 hf
    refine ⟨fd, by simpa using h1, ?_, ?_⟩ <;> simp_all
  obtain ⟨fd, hfd, rfl, rfl⟩ := hfl
  have hne : ¬ fi.size = 0 := by have := Nat.le_of_ble_eq_true hs; omega
  simp [Instr.fieldAt, run_underlying hu, hfd, Instr.sureAddr, fieldPlace, hF.run_size, hne, Addr.add_lit]
theorem Does.fieldAddr {T i off f fo ft : Nat} {x : Operand} (X : TOk P) {ti fi : TI} {fs : List (Nat × Nat)} (ho : o.op = .fieldAddr T x f) (hx : evo env x = some (.p i off)) (hT : aget X.tab T = some ti) (hd : ti.d = .st fs) (hf : fs[f]? = some (fo, ft)) (hF : aget X.tab ft = some fi) (hs : Nat.blt 0 fi.size = true) : Does P o env (.p i (off + fo)) [] :=
  .pure fun F g a w mem h1 h2 => by
    have hr := h1 x (by simp [ho, Op.operands]) _ hx
    generalize hy : a.eval x = y at hr
    cases hr with
    | @p _ _ _ b bo hp => exact ⟨.pointer (some ⟨b, bo + off + fo, none⟩), by simp [execOp, ho, hy, run_fieldPlace (X.get hT) hd hf (X.get hF) hs], by rw [Nat.add_assoc]; exact .p hp⟩
theorem rep_q_drop {g : Gh} {w : World} {cs : List V} {b off : Nat} (k : Nat) (h : Rep w g (.q cs) (.pointer (some ⟨b, off, none⟩))) : Rep w g (.q (cs.drop k)) (.pointer (some ⟨b, off + k, none⟩)) := by
  cases h with
  | q xs h1 hx hc =>
    refine .q (fun j => xs (k + j)) (fun u hu => h1 u (List.mem_of_mem_drop hu)) (fun j u hj => ?_) (fun j u hj => ?_)
    · rw [List.getElem?_drop] at hj
      obtain ⟨a1, a2, a3⟩ := hx _ u hj
      rw [Nat.add_assoc]
      exact ⟨a1, a2, a3⟩
    · rw [List.getElem?_drop] at hj
      exact hc _ u hj
theorem Does.fieldAddrQ {T f fo ft : Nat} {x : Operand} {cs cs' : List V} (X : TOk P) {ti fi : TI} {fs : List (Nat × Nat)} (ho : o.op = .fieldAddr T x f) (hx : evo env x = some (.q cs)) (hT : aget X.tab T = some ti) (hd : ti.d = .st fs) (hf : fs[f]? = some (fo, ft)) (hF : aget X.tab ft = some fi) (hs : Nat.blt 0 fi.size = true) (hc : cs.drop fo = cs') : Does P o env (.q cs') [] :=
  .pure fun F g a w mem h1 h2 => by
    subst hc
    have hr := h1 x (by simp [ho, Op.operands]) _ hx
    generalize hy : a.eval x = y at hr
    obtain ⟨b, off, rfl⟩ : ∃ b off, y = .pointer (some ⟨b, off, none⟩) := by cases hr; exact ⟨_, _, rfl⟩
    exact ⟨.pointer (some ⟨b, off + fo, none⟩), by simp [execOp, ho, hy, run_fieldPlace (X.get hT) hd hf (X.get hF) hs], rep_q_drop fo hr⟩

theorem Does.idxArr {T i off n e k : Nat} {x ix : Operand} {kd : IntKind} {z : Int} (X : TOk P) {ti ei : TI} (ho : o.op = .indexAddr T x ix) (hx : evo env x = some (.p i off)) (hi : evo env ix = some (.k (.int kd z))) (hz : z = ((k : Nat) : Int)) (hT : aget X.tab T = some ti) (hd : ti.d = .arr n e) (hE : aget X.tab e = some ei) (hk : k < n) : Does P o env (.p i (off + k * ei.size)) [] :=
  .pure fun F g a w mem h1 h2 => by
    subst hz
    have hr := h1 x (by simp [ho, Op.operands]) _ hx
    have hr2 := rep_k (h1 ix (by simp [ho, Op.operands]) _ hi)
    generalize hy : a.eval x = y at hr
    cases hr with
    | @p _ _ _ b bo hp =>
      refine ⟨.pointer (some ⟨b, bo + (off + k * ei.size), none⟩), ?_, .p hp⟩
      simp [execOp, ho, hy, hr2, Instr.indexAt, asIntOf, run_underlying ((X.get hT).arr hd), Instr.sureAddr, (X.get hE).run_size, hk, Addr.add_lit, Nat.add_assoc]
theorem Does.idxArrQ {T n e k : Nat} {x ix : Operand} {kd : IntKind} {z : Int} {cs cs' : List V} (X : TOk P) {ti ei : TI} (ho : o.op = .indexAddr T x ix) (hx : evo env x = some (.q cs)) (hi : evo env ix = some (.k (.int kd z))) (hz : z = ((k : Nat) : Int)) (hT : aget X.tab T = some ti) (hd : ti.d = .arr n e) (hE : aget X.tab e = some ei) (hk : k < n) (hc : cs.drop (k * ei.size) = cs') : Does P o env (.q cs') [] :=
  .pure fun F g a w mem h1 h2 => by
    subst hz; subst hc
    have hr := h1 x (by simp [ho, Op.operands]) _ hx
    have hr2 := rep_k (h1 ix (by simp [ho, Op.operands]) _ hi)
    generalize hy : a.eval x = y at hr
    obtain ⟨b, off, rfl⟩ : ∃ b off, y = .pointer (some ⟨b, off, none⟩) := by cases hr; exact ⟨_, _, rfl⟩
    refine ⟨.pointer (some ⟨b, off + k * ei.size, none⟩), ?_, rep_q_drop (k * ei.size) hr⟩
    simp [execOp, ho, hy, hr2, Instr.indexAt, asIntOf, run_underlying ((X.get hT).arr hd), Instr.sureAddr, (X.get hE).run_size, hk, Addr.add_lit]

theorem flat_get {es : List V} {size n j : Nat} {e u : V} (hs : ∀ e ∈ es, e.cells.length = size) (he : es[n]? = some e) (hu : e.cells[j]? = some u) : (es.flatMap V.cells)[n * size + j]? = some u := by
  induction es generalizing n with
  | nil => simp at he
  | cons x r ih =>
    rw [List.flatMap_cons]
    have hx := hs x (by simp)
    cases n with
    | zero =>
      simp at he; subst he
      rw [Nat.zero_mul, Nat.zero_add, List.getElem?_append_left (List.getElem?_eq_some_iff.1 hu).1]
      exact hu
    | succ n =>
      simp at he
      rw [List.getElem?_append_right (by rw [hx, Nat.succ_mul]; omega), hx, show (n + 1) * size + j - size = n * size + j from by rw [Nat.succ_mul]; omega]
      exact ih (fun e he => hs e (by simp [he])) he
theorem flat_len {es : List V} {size : Nat} (hs : ∀ e ∈ es, e.cells.length = size) : (es.flatMap V.cells).length = es.length * size := by
  induction es with
  | nil => simp
  | cons x r ih => rw [List.flatMap_cons, List.length_append, hs x (by simp), ih (fun e he => hs e (by simp [he])), List.length_cons, Nat.succ_mul]; omega

theorem Does.idx {T e k : Nat} {x ix : Operand} {kd : IntKind} {z : Int} {t : Option Nat} {es : List V} {u : V} (X : TOk P) {ti ei : TI} (ho : o.op = .indexAddr T x ix) (hx : evo env x = some (.s t es)) (hi : evo env ix = some (.k (.int kd z))) (hz : z = ((k : Nat) : Int)) (hT : aget X.tab T = some ti) (hd : ti.d = .sl e) (hE : aget X.tab e = some ei) (hu : es[k]? = some u) (hs : u.cells.length = ei.size) : Does P o env (.q u.cells) [] :=
  .pure fun F g a w mem h1 h2 => by
    subst hz
    have hr := h1 x (by simp [ho, Op.operands]) _ hx
    have hr2 := rep_k (h1 ix (by simp [ho, Op.operands]) _ hi)
    have hk := (List.getElem?_eq_some_iff.1 hu).1
    generalize hy : a.eval x = y at hr
    cases hr with
    | s0 => simp at hu
    | se => simp at hu
    | @s _ _ _ b off cap size xs hn hm hp hsz hx' hc ht =>
      have hmem := List.mem_of_getElem? hu
      obtain ⟨q1, q2⟩ := hsz u hmem
      obtain rfl : size = ei.size := by omega
      refine ⟨.pointer (some ⟨b, off + k * ei.size, none⟩), ?_, .q (fun j => xs (k * ei.size + j)) q2 (fun j w' hj => ?_) (fun j w' hj => ?_)⟩
      · simp [execOp, ho, hy, hr2, Instr.indexAt, asIntOf, run_underlying ((X.get hT).sl hd), (X.get hE).run_size, hk, Addr.add_lit]
      · have := hx' _ w' (flat_get (fun e he => (hsz e he).1) hu hj)
        rw [Nat.add_assoc]; exact this
      · exact hc _ w' (flat_get (fun e he => (hsz e he).1) hu hj)
theorem Does.idxSb {T e k i off n cap : Nat} {x ix : Operand} {kd : IntKind} {z : Int} (X : TOk P) {ti ei : TI} (ho : o.op = .indexAddr T x ix) (hx : evo env x = some (.sb i off n cap)) (hi : evo env ix = some (.k (.int kd z))) (hz : z = ((k : Nat) : Int)) (hT : aget X.tab T = some ti) (hd : ti.d = .sl e) (hE : aget X.tab e = some ei) (hk : k < n) : Does P o env (.p i (off + k * ei.size)) [] :=
  .pure fun F g a w mem h1 h2 => by
    subst hz
    have hr := h1 x (by simp [ho, Op.operands]) _ hx
    have hr2 := rep_k (h1 ix (by simp [ho, Op.operands]) _ hi)
    generalize hy : a.eval x = y at hr
    cases hr with
    | @sb _ _ _ _ _ b bo hp =>
      refine ⟨.pointer (some ⟨b, bo + (off + k * ei.size), none⟩), ?_, .p hp⟩
      simp [execOp, ho, hy, hr2, Instr.indexAt, asIntOf, run_underlying ((X.get hT).sl hd), (X.get hE).run_size, hk, Addr.add_lit, Nat.add_assoc]

/-! ### Parts of values -/
theorem run_part {g : Gh} {w : World} {T : Nat} {ti : TI} (h : TIok P T ti) {cs : List V} {xs : Array Value} {off : Nat} {v : V} (hv : ti.part cs off = some v) (hl : cs.length = xs.size) (h1 : ∀ u ∈ cs, u.one = true)
    (hr : ∀ (j : Nat) u x, cs[j]? = some u → xs[j]? = some x → Rep w g u x) : ∃ x, (part T xs off).run P w = .ok x w ∧ Rep w g v x := by
  cases hd : ti.d.agg
  · have hv' := part_one hd hv
    have hlt := (List.getElem?_eq_some_iff.1 hv').1
    have hxx : xs[off]? = some xs[off] := Array.getElem?_eq_getElem (by omega)
    refine ⟨xs[off], ?_, hr off v _ hv' hxx⟩
    simp only [part, Sem.run_bind, h.run_agg, hd, Result.andThen_ok]
    simp [hxx]
  · obtain ⟨hle, rfl⟩ := part_agg hd hv
    refine ⟨.agg (xs.extract off (off + ti.size)), ?_, .a (by simp; omega) (fun u hu => h1 u (List.mem_of_mem_drop (List.mem_of_mem_take hu))) (fun j u x hj hxj => ?_)⟩
    · simp only [part, Sem.run_bind, h.run_agg, hd, Result.andThen_ok]
      simp [h.run_size]
    · rw [List.getElem?_take] at hj
      split at hj
      · rename_i hjl
        rw [List.getElem?_drop] at hj
        rw [Array.getElem?_extract] at hxj
        split at hxj
        · exact hr _ u x hj hxj
        · cases hxj
      · cases hj
theorem Does.field {T f fo ft : Nat} {x : Operand} {cs : List V} (X : TOk P) {ti fi : TI} {fs : List (Nat × Nat)} (ho : o.op = .field T x f) (hx : evo env x = some (.a cs)) (hT : aget X.tab T = some ti) (hd : ti.d = .st fs) (hf : fs[f]? = some (fo, ft)) (hF : aget X.tab ft = some fi) (hv : fi.part cs fo = some v) : Does P o env v [] :=
  .pure fun F g a w mem h1 h2 => by
    have hr := h1 x (by simp [ho, Op.operands]) _ hx
    generalize hy : a.eval x = y at hr
    cases hr with
    | a hl h1' hc =>
      obtain ⟨z, hz, hrep⟩ := run_part (X.get hF) hv hl h1' hc
      obtain ⟨gs, hu, hg⟩ := (X.get hT).st hd
      have hfl : ∃ fd, gs[f]? = some fd ∧ fd.offset = fo ∧ fd.type = ft := by
        rw [← hg, List.getElem?_map] at hf
        obtain ⟨fd, h1, h2⟩ := Option.map_eq_some_iff.1 hf
        refine ⟨fd, by simpa using h1, ?_, ?_⟩ <;> simp_all
      obtain ⟨fd, hfd, rfl, rfl⟩ := hfl
      exact ⟨z, by simp [execOp, ho, hy, Instr.field, run_underlying hu, hfd, asAgg, hz], hrep⟩
theorem Does.index {T e n k : Nat} {x ix : Operand} {kd : IntKind} {z : Int} {cs : List V} (X : TOk P) {ti ei : TI} (ho : o.op = .index T x ix) (hx : evo env x = some (.a cs)) (hi : evo env ix = some (.k (.int kd z))) (hz : z = ((k : Nat) : Int)) (hT : aget X.tab T = some ti) (hd : ti.d = .arr n e) (hE : aget X.tab e = some ei) (hk : k < n) (hv : ei.part cs (k * ei.size) = some v) : Does P o env v [] :=
  .pure fun F g a w mem h1 h2 => by
    subst hz
    have hr := h1 x (by simp [ho, Op.operands]) _ hx
    have hr2 := rep_k (h1 ix (by simp [ho, Op.operands]) _ hi)
    generalize hy : a.eval x = y at hr
    cases hr with
    | a hl h1' hc =>
      obtain ⟨z, hz, hrep⟩ := run_part (X.get hE) hv hl h1' hc
      exact ⟨z, by simp [execOp, ho, hy, hr2, Instr.index, asIntOf, run_underlying ((X.get hT).arr hd), (X.get hE).run_size, hk, hz], hrep⟩
theorem Does.indexS {T k : Nat} {x ix : Operand} {kd : IntKind} {z : Int} {s : ByteArray} (X : TOk P) {ti : TI} (ho : o.op = .index T x ix) (hx : evo env x = some (.k (.string s))) (hi : evo env ix = some (.k (.int kd z))) (hz : z = ((k : Nat) : Int)) (hT : aget X.tab T = some ti) (hd : ti.d = .str) (hk : k < s.size) : Does P o env (.k (.int .u8 (s[k].toNat : Int))) [] :=
  .pure fun F g a w mem h1 h2 => by
    subst hz
    have hr := rep_k (h1 x (by simp [ho, Op.operands]) _ hx)
    have hr2 := rep_k (h1 ix (by simp [ho, Op.operands]) _ hi)
    refine ⟨.int .u8 (s[k].toNat : Int), ?_, .k _⟩
    have e1 : s[k]? = some s[k] := by simp [hk]
    simp [execOp, ho, hr, hr2, Instr.index, asIntOf, run_underlying ((X.get hT).str hd), e1]

/-! ### Lengths -/
theorem Does.len {x : Operand} {T : Nat} {ts : Array Nat} {t : Option Nat} {es : List V} {n e : Nat} (X : TOk P) {ti : TI} (ho : o.op = .call { callee := .builtin .len, args := #[x], argTypes := ts }) (hts : ts[0]? = some T) (hx : evo env x = some (.s t es)) (hT : aget X.tab T = some ti) (hd : ti.d = .sl e) (hn : es.length = n) : Does P o env (.k (.int .i64 (n : Int))) [] :=
  .pure fun F g a w mem h1 h2 => by
    subst hn
    have hr := h1 x (by simp [ho, Op.operands, Call.operands]) _ hx
    generalize hy : a.eval x = y at hr
    have hu := run_underlying (P := P) ((X.get hT).sl hd) w
    cases hr with
    | s0 => exact ⟨.int .i64 ((0 : Nat) : Int), by simp [execOp, ho, resolve, invoke, builtin, hy, Builtin.len_, hts, hu, goInt], .k _⟩
    | se => exact ⟨.int .i64 ((0 : Nat) : Int), by simp [execOp, ho, resolve, invoke, builtin, hy, Builtin.len_, hts, hu, goInt], .k _⟩
    | s => exact ⟨.int .i64 (es.length : Int), by simp [execOp, ho, resolve, invoke, builtin, hy, Builtin.len_, hts, hu, goInt], .k _⟩
theorem Does.lenNil {x : Operand} {T : Nat} {ts : Array Nat} {e : Nat} (X : TOk P) {ti : TI} (ho : o.op = .call { callee := .builtin .len, args := #[x], argTypes := ts }) (hts : ts[0]? = some T) (hx : evo env x = some .nil) (hT : aget X.tab T = some ti) (hd : ti.d = .sl e) : Does P o env (.k (.int .i64 ((0 : Nat) : Int))) [] :=
  .pure fun F g a w mem h1 h2 => by
    have hr := h1 x (by simp [ho, Op.operands, Call.operands]) _ hx
    generalize hy : a.eval x = y at hr
    have hu := run_underlying (P := P) ((X.get hT).sl hd) w
    cases hr with
    | nil => exact ⟨.int .i64 ((0 : Nat) : Int), by simp [execOp, ho, resolve, invoke, builtin, hy, Builtin.len_, hts, hu, goInt], .k _⟩
theorem Does.lenSb {x : Operand} {T : Nat} {ts : Array Nat} {i off n cap e : Nat} (X : TOk P) {ti : TI} (ho : o.op = .call { callee := .builtin .len, args := #[x], argTypes := ts }) (hts : ts[0]? = some T) (hx : evo env x = some (.sb i off n cap)) (hT : aget X.tab T = some ti) (hd : ti.d = .sl e) : Does P o env (.k (.int .i64 (n : Int))) [] :=
  .pure fun F g a w mem h1 h2 => by
    have hr := h1 x (by simp [ho, Op.operands, Call.operands]) _ hx
    generalize hy : a.eval x = y at hr
    have hu := run_underlying (P := P) ((X.get hT).sl hd) w
    cases hr with
    | sb => exact ⟨.int .i64 (n : Int), by simp [execOp, ho, resolve, invoke, builtin, hy, Builtin.len_, hts, hu, goInt], .k _⟩
theorem Does.lenS {x : Operand} {T : Nat} {ts : Array Nat} {s : ByteArray} (X : TOk P) {ti : TI} (ho : o.op = .call { callee := .builtin .len, args := #[x], argTypes := ts }) (hts : ts[0]? = some T) (hx : evo env x = some (.k (.string s))) (hT : aget X.tab T = some ti) (hd : ti.d = .str) : Does P o env (.k (.int .i64 (s.size : Int))) [] :=
  .pure fun F g a w mem h1 h2 => by
    have hr := rep_k (h1 x (by simp [ho, Op.operands, Call.operands]) _ hx)
    have hu := run_underlying (P := P) ((X.get hT).str hd) w
    exact ⟨.int .i64 (s.size : Int), by simp [execOp, ho, resolve, invoke, builtin, hr, Builtin.len_, hts, hu, goInt], .k _⟩
theorem Does.min {x y : Operand} {ts : Array Nat} {k k' : IntKind} {m n r : Int} (ho : o.op = .call { callee := .builtin .min, args := #[x, y], argTypes := ts }) (hx : evo env x = some (.k (.int k m))) (hy : evo env y = some (.k (.int k' n))) (hr : (if n < m then n else m) = r) : Does P o env (.k (.int k r)) [] :=
  .pure fun F g a w mem h1 h2 => by
    have e1 := rep_k (h1 x (by simp [ho, Op.operands, Call.operands]) _ hx)
    have e2 := rep_k (h1 y (by simp [ho, Op.operands, Call.operands]) _ hy)
    exact ⟨.int k r, by simp [execOp, ho, resolve, invoke, builtin, e1, e2, Builtin.min_, Builtin.min2, hr], .k _⟩
theorem Does.max {x y : Operand} {ts : Array Nat} {k k' : IntKind} {m n r : Int} (ho : o.op = .call { callee := .builtin .max, args := #[x, y], argTypes := ts }) (hx : evo env x = some (.k (.int k m))) (hy : evo env y = some (.k (.int k' n))) (hr : (if m < n then n else m) = r) : Does P o env (.k (.int k r)) [] :=
  .pure fun F g a w mem h1 h2 => by
    have e1 := rep_k (h1 x (by simp [ho, Op.operands, Call.operands]) _ hx)
    have e2 := rep_k (h1 y (by simp [ho, Op.operands, Call.operands]) _ hy)
    exact ⟨.int k r, by simp [execOp, ho, resolve, invoke, builtin, e1, e2, Builtin.max_, Builtin.max2, hr], .k _⟩
end
end Lf
end Go.Proofs.Ytgeccggkdgpkiaa

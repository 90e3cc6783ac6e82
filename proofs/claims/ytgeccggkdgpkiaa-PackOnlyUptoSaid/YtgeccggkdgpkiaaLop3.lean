/- Lifted operations: parts of slices, append, struct and slice literals, make. -/
import Derived.Test.YtgeccggkdgpkiaaLop2
namespace Go.Proofs.Ytgeccggkdgpkiaa
open Go.RowKit Rg
namespace Lf
section
variable {P : Program} {o : Oper} {env : Env} {v : V}

/-- A bound of 'x[lo:hi]'. -/
inductive Bd (env : Env) (d : Nat) : Option Operand → Nat → Prop
  | none : Bd env d none d
  | some {x : Operand} {kd : IntKind} {z : Int} {l : Nat} (hx : evo env x = some (.k (.int kd z))) (hz : z = (l : Int)) : Bd env d (some x) l
theorem Bd.val {g : Gh} {w : World} {a : Act} {d l : Nat} {lo : Option Operand} (h : Bd env d lo l) (hr : ∀ x, lo = Option.some x → ∀ u, evo env x = Option.some u → Rep w g u (a.eval x)) :
    (lo.map a.eval = Option.none ∧ l = d) ∨ ∃ kd, lo.map a.eval = Option.some (.int kd (l : Int)) := by
  cases h with
  | none => exact .inl ⟨rfl, rfl⟩
  | some hx hz => subst hz; exact .inr ⟨_, by rw [Option.map_some, rep_k (hr _ rfl _ hx)]⟩

theorem run_bounds {isS : Bool} {n cap l h : Nat} {lo hi : Option Value} (hlo : (lo = none ∧ l = 0) ∨ ∃ kd, lo = some (.int kd (l : Int))) (hhi : (hi = none ∧ h = n) ∨ ∃ kd, hi = some (.int kd (h : Int))) (h1 : l ≤ h) (h2 : h ≤ cap) (w : World) :
    (Instr.sliceBounds isS n cap lo hi none).run P w = .ok (l, h, cap) w := by
  rcases hlo with ⟨rfl, rfl⟩ | ⟨kd, rfl⟩ <;> rcases hhi with ⟨rfl, rfl⟩ | ⟨kd', rfl⟩ <;>
    simp [Instr.sliceBounds, Instr.sliceBound, asIntOf, h1, h2]

theorem run_cutG {T e size n cap l h : Nat} {a : Option Addr} {lo hi : Option Value} (hu : P.underlying T = some (.slice e)) (hs : ∀ w, (sizeOf e).run P w = .ok size w)
    (hlo : (lo = none ∧ l = 0) ∨ ∃ kd, lo = some (.int kd (l : Int))) (hhi : (hi = none ∧ h = n) ∨ ∃ kd, hi = some (.int kd (h : Int))) (h1 : l ≤ h) (h2 : h ≤ cap) (w : World) :
    (Instr.sliceAt T (.slice a n cap) lo hi none).run P w = .ok (.slice (if cap = l then a else a.map (·.add (l * size))) (h - l) (cap - l)) w := by
  simp [Instr.sliceAt, Instr.slice, run_underlying hu, run_bounds (P := P) hlo hhi h1 h2, hs]
theorem run_cutA {T e size n l h b off : Nat} {lo hi : Option Value} (hu : P.underlying T = some (.array n e)) (hs : ∀ w, (sizeOf e).run P w = .ok size w)
    (hlo : (lo = none ∧ l = 0) ∨ ∃ kd, lo = some (.int kd (l : Int))) (hhi : (hi = none ∧ h = n) ∨ ∃ kd, hi = some (.int kd (h : Int))) (h1 : l ≤ h) (h2 : h ≤ n) (h3 : l < n) (w : World) :
    (Instr.sliceAt T (.pointer (some ⟨b, off, none⟩)) lo hi none).run P w = .ok (.slice (some ⟨b, off + l * size, none⟩) (h - l) (n - l)) w := by
  have : ¬ n = l := by omega
  simp [Instr.sliceAt, Instr.sureAddr, run_underlying hu, run_bounds (P := P) hlo hhi h1 h2, hs, this, Addr.add_lit]
theorem run_cutS {T l h : Nat} {s : ByteArray} {lo hi : Option Value} (hu : P.underlying T = some .string)
    (hlo : (lo = none ∧ l = 0) ∨ ∃ kd, lo = some (.int kd (l : Int))) (hhi : (hi = none ∧ h = s.size) ∨ ∃ kd, hi = some (.int kd (h : Int))) (h1 : l ≤ h) (h2 : h ≤ s.size) (w : World) :
    (Instr.sliceAt T (.string s) lo hi none).run P w = .ok (.string (s.extract l h)) w := by
  simp [Instr.sliceAt, Instr.slice, run_underlying hu, run_bounds (P := P) hlo hhi h1 h2]

theorem flat_cut {es : List V} {size : Nat} (l h : Nat) (hs : ∀ e ∈ es, e.cells.length = size) {j : Nat} {u : V} (hu : (((es.drop l).take (h - l)).flatMap V.cells)[j]? = some u) : (es.flatMap V.cells)[l * size + j]? = some u := by
  induction es generalizing l h with
  | nil => simp at hu
  | cons x r ih =>
    cases l with
    | zero =>
      have e1 : (x :: r) = (x :: r).take h ++ (x :: r).drop h := (List.take_append_drop h _).symm
      rw [Nat.zero_mul, Nat.zero_add, e1, List.flatMap_append]
      simp only [List.drop_zero, Nat.sub_zero] at hu
      rw [List.getElem?_append_left (List.getElem?_eq_some_iff.1 hu).1]
      exact hu
    | succ l =>
      simp only [List.drop_succ_cons] at hu
      rw [List.flatMap_cons, List.getElem?_append_right (by rw [hs x (by simp), Nat.succ_mul]; omega), hs x (by simp), show (l + 1) * size + j - size = l * size + j from by rw [Nat.succ_mul]; omega]
      exact ih l (h - 1) (fun e he => hs e (by simp [he])) (by rw [show h - 1 - l = h - (l + 1) from by omega]; exact hu)

theorem rep_cut {g : Gh} {w : World} {t : Option Nat} {es : List V} {a : Option Addr} {n cap size l h : Nat} (hr : Rep w g (.s t es) (.slice a n cap)) (hs : ∀ e ∈ es, e.cells.length = size) (h1 : l ≤ h) (h2 : h ≤ es.length) :
    n = es.length ∧ n ≤ cap ∧ Rep w g (.s none ((es.drop l).take (h - l))) (.slice (if cap = l then a else a.map (·.add (l * size))) (h - l) (cap - l)) := by
  cases hr with
  | s0 =>
    simp at h2
    subst h2
    obtain rfl : l = 0 := by omega
    exact ⟨rfl, Nat.le_refl _, .s0 (fun _ h => by cases h)⟩
  | se =>
    simp at h2
    subst h2
    obtain rfl : l = 0 := by omega
    exact ⟨rfl, Nat.le_refl _, .se _ (fun _ h => by cases h)⟩
  | @s _ _ _ b off cap size' xs hn hm hp hsz hx hc ht =>
    refine ⟨rfl, hn, ?_⟩
    have hlen : ((es.drop l).take (h - l)).length = h - l := by simp; omega
    have key : ∀ off', (0 < h - l → off' = off + l * size) → Rep w g (.s none ((es.drop l).take (h - l))) (.slice (some ⟨b, off', none⟩) (h - l) (cap - l)) := fun off' hoff => by
      have := Rep.s (w := w) (g := g) (o := none) (es := (es.drop l).take (h - l)) (b := b) (off := off') (cap := cap - l) (size := size') (fun j => xs (l * size + j)) (by omega) (by omega) hp
        (fun e he => hsz e (List.mem_of_mem_drop (List.mem_of_mem_take he))) (fun j u hj => ?_) (fun j u hj => hc _ u (flat_cut l h hs hj)) (fun _ h => by cases h)
      · rw [hlen] at this; exact this
      · have h' := hx _ u (flat_cut l h hs hj)
        have hpos : 0 < h - l := by
          rcases Nat.eq_zero_or_pos (h - l) with h0 | h0
          · rw [h0] at hj; simp at hj
          · exact h0
        rw [hoff hpos, Nat.add_assoc]
        exact h'
    split
    · rename_i hcl
      exact key off fun _ => by omega
    · simp only [Option.map_some, Addr.add_lit]
      exact key _ fun _ => rfl

theorem Does.cut {T e l h : Nat} {x : Operand} {lo hi : Option Operand} {t : Option Nat} {es es' : List V} (X : TOk P) {ti ei : TI} (ho : o.op = .slice T x lo hi none) (hx : evo env x = some (.s t es)) (hT : aget X.tab T = some ti) (hd : ti.d = .sl e) (hE : aget X.tab e = some ei) (hlo : Bd env 0 lo l) (hhi : Bd env es.length hi h)
    (h1 : l ≤ h) (h2 : h ≤ es.length) (hs : ∀ e ∈ es, e.cells.length = ei.size) (he : (es.drop l).take (h - l) = es') : Does P o env (.s none es') [] :=
  .pure fun F g a w mem hr _ => by
    subst he
    have hr0 := hr x (by simp [ho, Op.operands]) _ hx
    have b1 := hlo.val (a := a) (fun y hy u hu => hr y (by subst hy; simp [ho, Op.operands]) u hu)
    have b2 := hhi.val (a := a) (fun y hy u hu => hr y (by subst hy; simp [ho, Op.operands]) u hu)
    obtain ⟨a0, n, cap, hy⟩ : ∃ a0 n cap, a.eval x = .slice a0 n cap := by generalize a.eval x = y at hr0; cases hr0 <;> exact ⟨_, _, _, rfl⟩
    rw [hy] at hr0
    obtain ⟨e1, e2, e3⟩ := rep_cut hr0 hs h1 h2
    subst e1
    refine ⟨_, ?_, e3⟩
    have := run_cutG (P := P) (a := a0) ((X.get hT).sl hd) (X.get hE).run_size b1 b2 h1 (Nat.le_trans h2 e2) w
    simp [execOp, ho, hy, this]
theorem Does.cutSb {T e l h i off n cap : Nat} {x : Operand} {lo hi : Option Operand} (X : TOk P) {ti ei : TI} (ho : o.op = .slice T x lo hi none) (hx : evo env x = some (.sb i off n cap)) (hT : aget X.tab T = some ti) (hd : ti.d = .sl e) (hE : aget X.tab e = some ei) (hlo : Bd env 0 lo l) (hhi : Bd env n hi h)
    (h1 : l ≤ h) (h2 : h ≤ cap) (h3 : l < cap) : Does P o env (.sb i (off + l * ei.size) (h - l) (cap - l)) [] :=
  .pure fun F g a w mem hr _ => by
    have hr0 := hr x (by simp [ho, Op.operands]) _ hx
    have b1 := hlo.val (a := a) (fun y hy u hu => hr y (by subst hy; simp [ho, Op.operands]) u hu)
    have b2 := hhi.val (a := a) (fun y hy u hu => hr y (by subst hy; simp [ho, Op.operands]) u hu)
    generalize hy : a.eval x = y at hr0
    cases hr0 with
    | @sb _ _ _ _ _ b bo hp =>
      have := run_cutG (P := P) (a := some ⟨b, bo + off, none⟩) ((X.get hT).sl hd) (X.get hE).run_size b1 b2 h1 h2 w
      have hne : ¬ cap = l := by omega
      refine ⟨.slice (some ⟨b, bo + (off + l * ei.size), none⟩) (h - l) (cap - l), ?_, .sb hp⟩
      simp [execOp, ho, hy, this, hne, Addr.add_lit, Nat.add_assoc]
theorem Does.cutA {T e l h i off n : Nat} {x : Operand} {lo hi : Option Operand} (X : TOk P) {ti ei : TI} (ho : o.op = .slice T x lo hi none) (hx : evo env x = some (.p i off)) (hT : aget X.tab T = some ti) (hd : ti.d = .arr n e) (hE : aget X.tab e = some ei) (hlo : Bd env 0 lo l) (hhi : Bd env n hi h)
    (h1 : l ≤ h) (h2 : h ≤ n) (h3 : l < n) : Does P o env (.sb i (off + l * ei.size) (h - l) (n - l)) [] :=
  .pure fun F g a w mem hr _ => by
    have hr0 := hr x (by simp [ho, Op.operands]) _ hx
    have b1 := hlo.val (a := a) (fun y hy u hu => hr y (by subst hy; simp [ho, Op.operands]) u hu)
    have b2 := hhi.val (a := a) (fun y hy u hu => hr y (by subst hy; simp [ho, Op.operands]) u hu)
    generalize hy : a.eval x = y at hr0
    cases hr0 with
    | @p _ _ _ b bo hp =>
      have := run_cutA (P := P) (b := b) (off := bo + off) ((X.get hT).arr hd) (X.get hE).run_size b1 b2 h1 h2 h3 w
      refine ⟨.slice (some ⟨b, bo + (off + l * ei.size), none⟩) (h - l) (n - l), ?_, .sb hp⟩
      simp [execOp, ho, hy, this, Nat.add_assoc]
theorem Does.cutS {T l h : Nat} {x : Operand} {lo hi : Option Operand} {s : ByteArray} (X : TOk P) {ti : TI} (ho : o.op = .slice T x lo hi none) (hx : evo env x = some (.k (.string s))) (hT : aget X.tab T = some ti) (hd : ti.d = .str) (hlo : Bd env 0 lo l) (hhi : Bd env s.size hi h)
    (h1 : l ≤ h) (h2 : h ≤ s.size) : Does P o env (.k (.string (s.extract l h))) [] :=
  .pure fun F g a w mem hr _ => by
    have hr0 := rep_k (hr x (by simp [ho, Op.operands]) _ hx)
    have b1 := hlo.val (a := a) (fun y hy u hu => hr y (by subst hy; simp [ho, Op.operands]) u hu)
    have b2 := hhi.val (a := a) (fun y hy u hu => hr y (by subst hy; simp [ho, Op.operands]) u hu)
    have := run_cutS (P := P) (s := s) ((X.get hT).str hd) b1 b2 h1 h2 w
    exact ⟨.string (s.extract l h), by simp [execOp, ho, hr0, this], .k _⟩

/-! ### append -/
/-- What a lifted value yields as append's second argument. -/
theorem rep_src {g : Gh} {w : World} {T e sz : Nat} {t : Option Nat} {ys : List V} {x : Value} (hu : P.underlying T = some (.slice e)) (hr : Rep w g (.s t ys) x) (hs : ∀ y ∈ ys, y.cells.length = sz) :
    ∃ news, Src P sz T x ys.length news w ∧ (∀ y ∈ ys, ∀ u ∈ y.cells, u.one = true) ∧ (ys.flatMap V.cells).length = news.length ∧ ∀ (j : Nat) u z, (ys.flatMap V.cells)[j]? = some u → news[j]? = some z → Rep w g.bare u z := by
  cases hr with
  | s0 => exact ⟨[], Src.ofNil w hu 0, by simp, by simp, by simp⟩
  | se a ht => exact ⟨[], Src.ofSlice w hu a 0 0 [] (by simp) (by simp) (by simp), by simp, by simp, by simp⟩
  | @s _ _ _ b off cap size' xs hn hm hp hsz hx hc ht =>
    have hl := flat_len hs
    have hget : ∀ j, j < (ys.flatMap V.cells).length → ((List.range (ys.flatMap V.cells).length).map xs)[j]? = some (xs j) := fun j hj => by rw [List.getElem?_map, List.getElem?_range hj]; rfl
    refine ⟨(List.range (ys.flatMap V.cells).length).map xs, Src.ofSlice w hu _ _ _ _ (by simp only [List.length_map, List.length_range]; exact hl) (fun j u hj => ?_) (fun u hu' => ?_), fun y hy => (hsz y hy).2, by simp, fun j u z hj hz => ?_⟩
    · have hjl := (List.getElem?_eq_some_iff.1 hj).1
      simp only [List.length_map, List.length_range] at hjl
      rw [hget j hjl] at hj
      cases hj
      rw [Addr.add_lit]
      exact (hx j _ (List.getElem?_eq_getElem hjl)).2.2
    · obtain ⟨j, hj, rfl⟩ := List.mem_map.1 hu'
      have hjl : j < (ys.flatMap V.cells).length := by simpa using hj
      have hju := List.getElem?_eq_getElem hjl
      obtain ⟨y, hy, hyu⟩ := List.mem_flatMap.1 (List.mem_of_getElem? hju)
      exact (hc j _ hju).oneCell ((hsz y hy).2 _ hyu)
    · have hjl := (List.getElem?_eq_some_iff.1 hj).1
      rw [hget j hjl] at hz
      cases hz
      exact hc j u hj
theorem rep_src_nil {g : Gh} {w : World} {T e sz : Nat} {x : Value} (hu : P.underlying T = some (.slice e)) (hr : Rep w g .nil x) : Src P sz T x 0 [] w := by
  cases hr with
  | nil => exact Src.ofNil w hu 0

theorem run_storeCells_free (g o : Nat) (t : TypeId) (fz : Nat × Nat) : ∀ (vs : List Value) (i : Nat) (cur : Array Value) (w : World), w.heap[g]? = some (.cells cur t fz) → (fz.2 = fz.1 ∨ cur.size ≤ fz.1) → o + i + vs.length ≤ cur.size → (∀ v ∈ vs, v.oneCell' = true) →
    (storeCells ⟨g, o, none⟩ vs i).run P w = .ok () (w.setRow g (cur.toList.take (o + i) ++ vs ++ cur.toList.drop (o + i + vs.length)).toArray) := by
  intro vs
  induction vs with
  | nil =>
    intro i cur w hg _ _ _
    simp only [storeCells, List.append_nil, List.length_nil, Nat.add_zero, List.take_append_drop, Array.toArray_toList]
    rw [setRow_self w g cur t fz hg]
    rfl
  | cons v rest ih =>
    intro i cur w hg hfz hl h1
    have hi : o + i < cur.size := by simp at hl; omega
    have hadd : (⟨g, o, none⟩ : Addr).add i = ⟨g, o + i, none⟩ := by unfold Addr.add; split <;> simp_all
    have hcell : w.cell? ⟨g, o + i, none⟩ = some cur[o + i] := by simp [World.cell?, hg, hi]
    have hst : (store ((⟨g, o, none⟩ : Addr).add i) v).run P w = .ok () (w.setRow g (cur.setIfInBounds (o + i) v)) := by
      rw [hadd, run_store P w _ v _ (h1 v (by simp)), hcell]
      simp [frozen_oRow hg hfz hi, setCell_eq_setRow w g (o + i) cur t fz v hg]
    have ih := ih (i + 1) (cur.setIfInBounds (o + i) v) (w.setRow g (cur.setIfInBounds (o + i) v)) (setRow_heap w g cur _ t _ hg) (by simpa using hfz) (by simp at hl ⊢; omega) (fun x hx => h1 x (by simp [hx]))
    simp only [storeCells, Sem.run_bind, hst, Result.andThen_ok, ih, setRow_setRow]
    congr 3
    have e := list_seg_step cur.toList (o + i) v rest (by simp at hl ⊢; omega)
    simpa [Array.toList_setIfInBounds, Nat.add_assoc] using e
/-- append onto a row, told whole. -/
theorem run_app {T Tx E : Nat} {ei : TI} (hu : P.underlying T = some (.slice E)) (hE : TIok P E ei) (_ : 0 < ei.size) {a : Option Nat} {n c m : Nat} {xs news : List Value} {x : Value} {ty : Nat} {w : World} (hown : w.oRow 0 E ei.size (.slice (a.map fun b => ⟨b, 0, none⟩) n c) n xs)
    (hs : Src P ei.size Tx x m news w) (hmax : n + m ≤ 140737488355328) (hb : (n + m) * ei.bytes ≤ 140737488355328) :
    ∃ v' w', (Builtin.append_ #[T, Tx] ty #[.slice (a.map fun b => ⟨b, 0, none⟩) n c, x]).run P w = .ok v' w' ∧ w'.oRow 0 E ei.size v' (n + m) (xs ++ news) ∧ w.grownBy w' (Value.ownBlock (.slice (a.map fun b => ⟨b, 0, none⟩) n c)) ∧
      (v' = .slice (a.map fun b => ⟨b, 0, none⟩) (n + m) c ∨ (0 < m ∧ ∃ c', v' = .slice (some ⟨w.heap.size, 0, none⟩) (n + m) c' ∧ w.heap.size < w'.heap.size ∧ ∀ k, k < w.heap.size → w'.heap[k]? = w.heap[k]?)) := by
  obtain ⟨i, hi, hsz, hby, z, hz, _, hzs, _⟩ := hE.info
  rw [← hsz] at hs hown hzs ⊢
  rw [← hby] at hb
  have hl := hs.newsLen
  have hlen : (xs ++ news).length = (n + m) * i.size := by rw [List.length_append, hown.1, hl, Nat.add_mul]
  have h63 : n + m ≤ maxLen := by simp only [maxLen]; omega
  have grown : ∀ (old : Nat) (row : Option Nat), old < n + m →
      (w.drew.alloc (.cells ((xs ++ news).toArray ++ Builtin.zeroCells z.cells (grownCap w (n + m) old E - (n + m))) E)).oRow 0 E i.size
        (.slice (some ⟨w.heap.size, 0, none⟩) (n + m) (grownCap w (n + m) old E)) (n + m) (xs ++ news) ∧
      w.grownBy (w.drew.alloc (.cells ((xs ++ news).toArray ++ Builtin.zeroCells z.cells (grownCap w (n + m) old E - (n + m))) E)) row := by
    intro old row ho
    have hge := grownCap_ge w (n + m) old E
    have hcm : grownCap w (n + m) old E ≤ maxLen := grownCap_le_maxLen w (n + m) old E h63
    refine ⟨⟨hlen, .inr ⟨w.heap.size, _, _, _, rfl, Nat.zero_le _, heap_alloc_new w.drew _, hge, hcm, ?_, ?_, .inl rfl⟩⟩, ⟨rfl, rfl, rfl, by simp, fun k hk _ => heap_alloc_old w.drew _ hk⟩⟩
    · simp only [Array.size_append, List.size_toArray, size_zeroCells, hzs, hlen, ← Nat.add_mul]
      congr 1
      omega
    · simp only [Array.toList_append]
      rw [← hlen]
      exact List.take_left
  have hnew : ∀ old, ∀ k, k < w.heap.size → (w.drew.alloc (.cells ((xs ++ news).toArray ++ Builtin.zeroCells z.cells (grownCap w (n + m) old E - (n + m))) E)).heap[k]? = w.heap[k]? := fun old k hk => heap_alloc_old w.drew _ hk
  rcases hown.2 with ⟨hv, hn0⟩ | ⟨g, cap, cur, fz, hv, hbg, hg, hnc, hcm, hcs, htake, hfz⟩
  · subst hn0
    have ha : a = none := by cases a with | none => rfl | some b => simp at hv
    subst ha
    have hc0 : c = 0 := by simpa using hv
    subst hc0
    have hx : xs = [] := List.eq_nil_of_length_eq_zero (by simpa using hown.1)
    subst hx
    rcases Nat.eq_zero_or_pos m with hm | hm
    · subst hm
      have hn : news = [] := List.eq_nil_of_length_eq_zero (by simpa using hl)
      subst hn
      refine ⟨.slice none 0 0, w, ?_, oRow_nil w 0 E i.size, World.grownBy.refl w _, .inl rfl⟩
      have hcl := hs.cells
      rcases hs.kind with ⟨e', hk⟩ | hk <;> simp [Builtin.append_, run_underlying hu, run_underlying hk, sizeOf, typeInfo, hi, hs.len, hcl]
    · have hr := run_append_grow_src (P := P) w T Tx ty E i z hu hi hz none 0 0 [] (by simp [Builtin.firstCells]) x m news hs (by omega) (by omega) (growslice_fits (by omega) hb)
      obtain ⟨g1, g2⟩ := grown 0 (Value.ownBlock (.slice none 0 0)) (by omega)
      exact ⟨_, _, hr, g1, g2, .inr ⟨hm, _, rfl, by simp, hnew 0⟩⟩
  · have ha : a = some g ∧ cap = c := by
      cases a with
      | none => simp at hv
      | some b => simp at hv; exact ⟨by rw [hv.1], hv.2.symm⟩
    obtain ⟨rfl, rfl⟩ := ha
    rcases Nat.lt_or_ge cap (n + m) with hroom | hroom
    · have holds : (Builtin.firstCells i.size n (.slice (some ⟨g, 0, none⟩) n cap)).run P w.drew = .ok xs.toArray w.drew :=
        run_firstCells_some w.drew i.size n ⟨g, 0, none⟩ n cap xs hown.1 (fun j u hj => by simpa using oRow_cells hown (g := g) rfl j u hj)
      have hr := run_append_grow_src (P := P) w T Tx ty E i z hu hi hz (some ⟨g, 0, none⟩) n cap xs holds x m news hs hroom (by omega) (growslice_fits hroom hb)
      obtain ⟨g1, g2⟩ := grown cap (Value.ownBlock (.slice (some ⟨g, 0, none⟩) n cap)) hroom
      exact ⟨_, _, hr, g1, g2, .inr ⟨by omega, _, rfl, by simp, hnew cap⟩⟩
    · have hfit : n * i.size + news.length ≤ cur.size := by rw [hl, hcs, ← Nat.add_mul]; exact Nat.mul_le_mul_right _ hroom
      have hcell : ∀ j, j < news.length → (w.cell? ⟨g, 0 + n * i.size + j, none⟩).isSome = true := fun j hj => by
        rw [cell_of_row w g _ cur E fz hg]
        simp; omega
      have hr := run_append_room_src (P := P) w T Tx ty E i hu hi g 0 n cap x m news hs hroom hcell (fun j hj => frozen_oRow hg hfz (by omega))
      have hw : w.setCells g (0 + n * i.size) news = w.setRow g (cur.toList.take (n * i.size) ++ news ++ cur.toList.drop (n * i.size + news.length)).toArray := by
        have r1 := Lf.run_storeCells_free (P := P) g (n * i.size) E fz news 0 cur w hg hfz (by simpa using hfit) hs.one
        have r2 := run_storeCells_cells (P := P) g (n * i.size) news 0 w (fun j hj => by simpa using hcell j hj) (fun j hj => frozen_oRow hg hfz (by omega)) hs.one
        rw [r1] at r2
        simp only [Nat.add_zero] at r2
        rw [Nat.zero_add]
        exact ((Result.ok.inj r2).2).symm
      rw [hw] at hr
      refine ⟨_, _, hr, ⟨hlen, .inr ⟨g, cap, _, _, rfl, hbg, setRow_heap w g cur _ E _ hg, hroom, hcm, ?_, ?_, hfz.imp id fun h => ?_⟩⟩, ⟨rfl, rfl, rfl, by simp, fun k _ hk => setRow_other w g k _ (fun e => hk (by simp [Value.ownBlock, e]))⟩, .inl rfl⟩
      · simp only [List.size_toArray, List.length_append, List.length_take, List.length_drop, Array.length_toList]
        omega
      · rw [htake, ← hlen]
        exact List.take_left
      · simp only [List.size_toArray, List.length_append, List.length_take, List.length_drop, Array.length_toList]
        omega

/-- append onto a slice that has no room at all. -/
theorem run_app0 {T Tx E : Nat} {ei : TI} (hu : P.underlying T = some (.slice E)) (hE : TIok P E ei) (_ : 0 < ei.size) {ad : Option Addr} {m : Nat} {news : List Value} {x : Value} {ty : Nat} {w : World}
    (hs : Src P ei.size Tx x m news w) (hmax : m ≤ 140737488355328) (hb : m * ei.bytes ≤ 140737488355328) :
    ∃ v' w', (Builtin.append_ #[T, Tx] ty #[.slice ad 0 0, x]).run P w = .ok v' w' ∧ ((m = 0 ∧ v' = .slice ad 0 0 ∧ w' = w) ∨ (0 < m ∧ w'.oRow 0 E ei.size v' (0 + m) ([] ++ news) ∧ w.grownBy w' none ∧
      ∃ c', v' = .slice (some ⟨w.heap.size, 0, none⟩) (0 + m) c' ∧ w.heap.size < w'.heap.size ∧ ∀ k, k < w.heap.size → w'.heap[k]? = w.heap[k]?)) := by
  obtain ⟨i, hi, hsz, hby, z, hz, _, hzs, _⟩ := hE.info
  rw [← hsz] at hs hzs ⊢
  rw [← hby] at hb
  have hl := hs.newsLen
  have h63 : 0 + m ≤ maxLen := by simp only [maxLen]; omega
  rcases Nat.eq_zero_or_pos m with hm | hm
  · subst hm
    have hn : news = [] := List.eq_nil_of_length_eq_zero (by simpa using hl)
    subst hn
    refine ⟨.slice ad 0 0, w, ?_, .inl ⟨rfl, rfl, rfl⟩⟩
    have hcl := hs.cells
    rcases hs.kind with ⟨e', hk⟩ | hk <;> cases ad <;> simp [Builtin.append_, run_underlying hu, run_underlying hk, sizeOf, typeInfo, hi, hs.len, hcl, storeCells]
  · have hfc : (Builtin.firstCells i.size 0 (.slice ad 0 0)).run P w.drew = .ok #[] w.drew := by
      cases ad with
      | none => simp [Builtin.firstCells]
      | some ad => exact run_firstCells_some w.drew i.size 0 ad 0 0 [] (by simp) (fun j u hj => by simp at hj)
    have hr := run_append_grow_src (P := P) w T Tx ty E i z hu hi hz ad 0 0 [] hfc x m news hs (by omega) (by omega) (growslice_fits (by omega) (by rw [Nat.zero_add]; exact hb))
    have hge := grownCap_ge w (0 + m) 0 E
    have hcm : grownCap w (0 + m) 0 E ≤ maxLen := grownCap_le_maxLen w (0 + m) 0 E h63
    have hlen : ([] ++ news).length = (0 + m) * i.size := by simp [hl]
    refine ⟨_, _, hr, .inr ⟨hm, ⟨hlen, .inr ⟨w.heap.size, _, _, _, rfl, Nat.zero_le _, heap_alloc_new w.drew _, hge, hcm, ?_, ?_, .inl rfl⟩⟩, ⟨rfl, rfl, rfl, by simp, fun k hk _ => heap_alloc_old w.drew _ hk⟩, _, rfl, by simp, fun k hk => heap_alloc_old w.drew _ hk⟩⟩
    · simp only [Array.size_append, List.size_toArray, size_zeroCells, hzs, hlen, ← Nat.add_mul]
      congr 1
      omega
    · simp only [Array.toList_append]
      rw [← hlen]
      exact List.take_left
theorem Rep.row {g : Gh} {w : World} {i sz n c : Nat} {a : Option Nat} {es : List V} (hn : es.length = n) (hp : 0 < sz) (hg : g.rw i = some (a, n, c)) {E : Nat} {zs : List Value} (hown : w.oRow 0 E sz (.slice (a.map fun b => ⟨b, 0, none⟩) n c) n zs)
    (hst : ∀ b, a = some b → b < w.heap.size ∧ ∀ o, o < n * sz → g.S b o) (hs : ∀ e ∈ es, e.cells.length = sz ∧ ∀ u ∈ e.cells, u.one = true) (hr : ∀ (j : Nat) u z, (es.flatMap V.cells)[j]? = some u → zs[j]? = some z → Rep w g.bare u z) :
    Rep w g (.s (some i) es) (.slice (a.map fun b => ⟨b, 0, none⟩) n c) := by
  have hfl := flat_len fun e he => (hs e he).1
  subst hn
  cases a with
  | none =>
    obtain ⟨hl, hx⟩ := hown
    rcases hx with ⟨hv, hn⟩ | ⟨g', cap, cur, _, hv, _⟩
    · have : es = [] := List.eq_nil_of_length_eq_zero hn
      subst this
      have hc0 : c = 0 := by simpa using hv
      subst hc0
      exact .s0 fun r hr' => by cases hr'; exact ⟨none, 0, 0, hg, Nat.le_refl _, fun _ => .inl rfl⟩
    · simp at hv
  | some b =>
    have hzl := hown.1
    have hcap : es.length ≤ c ∧ c ≤ maxLen := by
      rcases hown.2 with ⟨hv, _⟩ | ⟨g', cap, cur, _, hv, _, _, h1, h2, _⟩
      · simp at hv
      · simp at hv; obtain ⟨_, rfl⟩ := hv; exact ⟨h1, h2⟩
    obtain ⟨hb, hSt⟩ := hst b rfl
    refine .s (fun j => zs.getD j undef) hcap.1 hcap.2 hp hs (fun j u hj => ?_) (fun j u hj => ?_) (fun r hr' => by cases hr'; exact ⟨some b, es.length, c, hg, Nat.le_refl _, fun _ => .inl rfl⟩)
    · have hjl := (List.getElem?_eq_some_iff.1 hj).1
      have hjz : j < zs.length := by omega
      rw [Nat.zero_add]
      refine ⟨hb, hSt j (by omega), ?_⟩
      rw [own_cell hown hjz]
      simp [hjz]
    · have hjl := (List.getElem?_eq_some_iff.1 hj).1
      have hjz : j < zs.length := by omega
      exact hr j u _ hj (by simp [hjz])

/-- What a tagged slice is when it is the newest of its row. -/
theorem rep_tip {F : Fr0} {g : Gh} {w : World} {mem : Mem} {i E sz : Nat} {es : List V} {x : Value} (hm : RelM F g mem w) (hr : Rep w g (.s (some i) es) x) (hi : aget mem i = some (.r E sz es.length)) (hs : ∀ e ∈ es, e.cells.length = sz) :
    (∃ a c zs, g.rw i = some (a, es.length, c) ∧ x = .slice (a.map fun b => ⟨b, 0, none⟩) es.length c ∧ w.oRow 0 E sz (.slice (a.map fun b => ⟨b, 0, none⟩) es.length c) es.length zs ∧ 0 < sz ∧ (∀ e ∈ es, ∀ u ∈ e.cells, u.one = true) ∧
      ∀ (j : Nat) u z, (es.flatMap V.cells)[j]? = some u → zs[j]? = some z → Rep w g.bare u z) ∨ (es = [] ∧ g.rw i = some (none, 0, 0) ∧ 0 < sz ∧ ∃ ad, x = .slice ad 0 0) := by
  obtain ⟨a, c, e1, hR⟩ := hm.row hi
  obtain ⟨zs, hown⟩ := hR.own
  cases hr with
  | s0 ht =>
    obtain ⟨a', l', c', h1, h2, h3⟩ := ht i rfl
    rw [e1] at h1; cases h1
    rcases h3 rfl with h3 | ⟨rfl, _, rfl, _⟩
    · exact .inl ⟨a, c, zs, e1, h3, hown, hR.pos, by simp, by simp⟩
    · exact .inr ⟨rfl, e1, hR.pos, none, rfl⟩
  | se ad ht =>
    obtain ⟨a', l', c', h1, h2, h3⟩ := ht i rfl
    rw [e1] at h1; cases h1
    rcases h3 rfl with h3 | ⟨rfl, _, rfl, _⟩
    · exact .inl ⟨a, c, zs, e1, h3, hown, hR.pos, by simp, by simp⟩
    · exact .inr ⟨rfl, e1, hR.pos, some ad, rfl⟩
  | @s _ _ _ b off cap size xs hn hmx hp hsz hx hc ht =>
    obtain ⟨a', l', c', h1, h2, h3⟩ := ht i rfl
    rw [e1] at h1; cases h1
    rcases h3 rfl with h4 | ⟨rfl, hl0, rfl, _⟩
    case inr =>
      rename_i h5
      obtain ⟨ad, h5⟩ := h5
      simp only [Value.slice.injEq] at h5
      exact .inr ⟨List.eq_nil_of_length_eq_zero hl0, by rw [hl0] at e1; exact e1, hR.pos, _, by rw [h5.2.2, hl0]⟩
    refine .inl ⟨a, c, zs, e1, h4, hown, hR.pos, fun e he => (hsz e he).2, fun j u z hj hz => ?_⟩
    cases a with
    | none => simp at h4
    | some b' =>
      simp at h4
      obtain ⟨⟨rfl, rfl⟩, rfl⟩ := h4
      have hjz := (List.getElem?_eq_some_iff.1 hz).1
      have hcz := own_cell hown hjz
      have h5 := (hx j u hj).2.2
      rw [Nat.zero_add, hcz] at h5
      have : z = xs j := by rw [List.getElem?_eq_getElem hjz] at hz; cases hz; exact Option.some.inj h5
      rw [this]
      exact hc j u hj

/-- append onto the newest slice of a row. -/
theorem Does.app {T Tx E Ex i sz : Nat} {x y : Operand} {t : Option Nat} {es ys : List V} {mem0 : Mem} (X : TOk P) {ti xi ei : TI} (ho : o.op = .call { callee := .builtin .append, args := #[x, y], argTypes := #[T, Tx] }) (hx : evo env x = some (.s (some i) es)) (hy : evo env y = some (.s t ys))
    (_hm : aget mem0 i = some (.r E sz es.length)) (hT : aget X.tab T = some ti) (hd : ti.d = .sl E) (hE : aget X.tab E = some ei) (hsz : ei.size = sz) (hX : aget X.tab Tx = some xi) (hdx : xi.d = .sl Ex)
    (hes : ∀ e ∈ es, e.cells.length = sz) (hys : ∀ e ∈ ys, e.cells.length = sz) {n : Nat} (hn : es.length + ys.length = n) (hmax : n ≤ 140737488355328) (hb : n * ei.bytes ≤ 140737488355328) :
    Does P o env (.s (some i) (es ++ ys)) [(i, some (.r E sz es.length), some (.r E sz n))] := by
  refine ⟨fun F g a w mem h1 h2 h3 h4 _ K Q hK => ?_⟩
  subst hn
  have hi := h4 _ _ _ mem_one
  have hrx := h1 x (by simp [ho, Op.operands, Call.operands]) _ hx
  have hry := h1 y (by simp [ho, Op.operands, Call.operands]) _ hy
  obtain ⟨news, hsrc, hone2, hfl, hrep2⟩ := rep_src (P := P) ((X.get hX).sl hdx) hry hys
  subst hsz
  rcases rep_tip h2 hrx hi hes with ⟨ao, c, zs, e1, e2, hown, hp, hone, hrep⟩ | ⟨rfl, e1, hp, ad, e2⟩
  case inr =>
    simp only [List.length_nil, Nat.zero_add, List.nil_append] at hmax hb hi hK ⊢
    obtain ⟨v', w', hrun, hres⟩ := run_app0 (P := P) (ty := o.type) (ad := ad) ((X.get hT).sl hd) (X.get hE) hp hsrc hmax hb
    have hrun' : (execOp a.eval o).run P w = .ok (.value v') w' := by
      simp [execOp, ho, resolve, invoke, builtin, e2, hrun]
    unfold Oper.wp
    rw [hrun']
    rcases hres with ⟨hm0, rfl, rfl⟩ | ⟨hm0, hown', hg, hv⟩
    · have : ys = [] := List.eq_nil_of_length_eq_zero hm0
      subst this
      refine hK _ g _ (Ev.refl g _) (h2.congr fun j => ?_) h3 ?_
      · simp only [tset, aget_cons]
        split
        · rename_i e; subst e; exact hi
        · rfl
      · rw [← e2]; exact hrx
    · have hg0 : Value.ownBlock (.slice (Option.map (fun b => (⟨b, 0, none⟩ : Addr)) none) 0 0) = none := rfl
      obtain ⟨g', a', c', rfl, k1, k2, k3, k4, k5⟩ := h2.grow (n := 0) (m := ys.length) (a := none) (c := 0) (xs := []) h3 hi e1 (oRow_nil w 0 E ei.size) hown' (by rw [hg0]; exact hg) (.inr ⟨hm0, hv⟩)
      rw [Nat.zero_add] at k1 k3 k5
      refine hK _ g' w' k2 (by simpa [tset] using k3) k4 ?_
      rw [Nat.zero_add] at hown' ⊢
      exact Rep.row rfl hp k1 hown' k5 (fun e he => ⟨hys e he, hone2 e he⟩) (fun j u z hj hz => (hrep2 j u z hj (by simpa using hz)).mono k2.bare)
  obtain ⟨v', w', hrun, hown', hg, hv⟩ := run_app (P := P) (ty := o.type) ((X.get hT).sl hd) (X.get hE) hp hown hsrc hmax hb
  obtain ⟨g', a', c', rfl, k1, k2, k3, k4, k5⟩ := h2.grow h3 hi e1 hown hown' hg hv
  unfold Oper.wp
  have hrun' : (execOp a.eval o).run P w = .ok (.value (.slice (Option.map (fun b => ⟨b, 0, none⟩) a') (es.length + ys.length) c')) w' := by
    rw [← e2] at hrun
    simp [execOp, ho, resolve, invoke, builtin, hrun]
  rw [hrun']
  refine hK _ g' w' k2 k3 k4 (Rep.row (by simp) hp k1 hown' k5 (fun e he => ?_) (fun j u z hj hz => ?_))
  · rcases List.mem_append.1 he with he | he
    · exact ⟨hes e he, hone e he⟩
    · exact ⟨hys e he, hone2 e he⟩
  · have hfe : (es.flatMap V.cells).length = zs.length := by rw [flat_len hes, hown.1]
    rw [List.flatMap_append] at hj
    rcases Nat.lt_or_ge j zs.length with hlt | hge
    · rw [List.getElem?_append_left (by omega)] at hj
      rw [List.getElem?_append_left hlt] at hz
      exact (hrep j u z hj hz).mono k2.bare
    · rw [List.getElem?_append_right (by omega)] at hj
      rw [List.getElem?_append_right hge, ← hfe] at hz
      exact (hrep2 _ u z hj hz).mono k2.bare
end
end Lf
end Go.Proofs.Ytgeccggkdgpkiaa

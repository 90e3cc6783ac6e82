/- Lifted calls that only look at what is lent to them; arrays of numbers by lists; arrays compared. -/
import Derived.Test.YtgeccggkdgpkiaaLp
import Derived.Test.YtgeccggkdgpkiaaEql
namespace Go.Proofs.Ytgeccggkdgpkiaa
open Go.RowKit Rg
namespace Lf
/-- A value that names no memory at all. -/
def V.pure : V → Bool
  | .k _ => true
  | .a cs => go cs
  | .t cs => go cs
  | .nil => true
  | .i _ v => v.pure
  | _ => false
where go : List V → Bool
  | [] => true
  | v :: r => v.pure && go r
theorem pure_go {cs : List V} (h : V.pure.go cs = true) : ∀ u ∈ cs, u.pure = true := by
  induction cs with
  | nil => simp
  | cons x r ih =>
    simp only [V.pure.go, Bool.and_eq_true] at h
    intro u hu
    rcases List.mem_cons.1 hu with rfl | hu
    · exact h.1
    · exact ih h.2 u hu
theorem pure_of_all {cs : List V} (h : ∀ u ∈ cs, u.pure = true) : V.pure.go cs = true := by
  induction cs with
  | nil => rfl
  | cons x r ih => simp only [V.pure.go, Bool.and_eq_true]; exact ⟨h x (by simp), ih fun u hu => h u (by simp [hu])⟩
theorem Rep.pure {g : Gh} {w : World} {v : V} {x : Value} (h : Rep w g v x) : v.pure = true → ∀ (w' : World) (g' : Gh), Rep w' g' v x := by
  induction h with
  | k v => intro _ _ _; exact .k v
  | a hl h1 _ ih => intro hp w' g'; exact .a hl h1 fun j u x hj hx => ih j u x hj hx (pure_go (by simpa [V.pure] using hp) u (List.mem_of_getElem? hj)) w' g'
  | t hl _ ih => intro hp w' g'; exact .t hl fun j u x hj hx => ih j u x hj hx (pure_go (by simpa [V.pure] using hp) u (List.mem_of_getElem? hj)) w' g'
  | nil => intro _ _ _; exact .nil
  | i _ ih => intro hp w' g'; exact .i (ih (by simpa [V.pure] using hp) w' g')
  | _ => intro hp; simp [V.pure] at hp

/-- What stays while a call only looks at some of the memory. -/
def viewS (g : Gh) (L : Mem) (b o : Nat) : Prop := g.S b o ∨ ∃ i m, aget L i = some m ∧ fp g i m b o
def viewG (g : Gh) (L : Mem) : Gh := ⟨viewS g L, fun _ => none, fun _ => none⟩
/-- An argument, as a contract wants it, by what is looked at. -/
inductive View (L : Mem) : V → V → Prop
  | same {u v : V} (keep nn) (hv : u.cv keep nn = v) (hr : v.refs [] = true) : View L u v
  | sb {i off n cap size : Nat} {cs es : List V} (hi : aget L i = some (.b cs)) (hr : V.refs.go [] cs = true) (hc : (cs.drop off).take (n * size) = es.flatMap V.cells) (hl : es.length = n) (hs : ∀ e ∈ es, e.cells.length = size) (hp : 0 < size) (hn : n ≤ cap) (hm : cap ≤ maxLen) : View L (.sb i off n cap) (.s none es)
  | p {i off : Nat} {cs : List V} (hi : aget L i = some (.b cs)) (hr : V.refs.go [] cs = true) : View L (.p i off) (.q (cs.drop off))
  | w {i E gen sz off n : Nat} {es es' : List V} (hi : aget L i = some (.w E sz gen es)) (hn : off + n ≤ es.length) (h0 : 0 < n) (he : (es.drop off).take n = es') : View L (.w i gen sz off n) (.s none es')
inductive Views (L : Mem) : List V → List V → Prop
  | nil : Views L [] []
  | cons {u v us vs} (h : View L u v) (r : Views L us vs) : Views L (u :: us) (v :: vs)
theorem rep_toV {g : Gh} {w : World} {L : Mem} {u : V} {x : Value} (h : Rep w g u x) (hr : u.refs [] = true) : Rep w (viewG g L) u x := by
  have := h.only (mem := []) hr
  refine this.mono ⟨Nat.le_refl _, fun b o _ hs => ⟨.inl hs, rfl⟩, fun i z hz => ?_, fun r a l c hz => ?_⟩
  · simp [Gh.only, aget] at hz
  · simp [Gh.only, aget] at hz
theorem view_rep {F : Fr0} {g : Gh} {w : World} {mem L : Mem} (hm : RelM F g mem w) (hL : ∀ i m, aget L i = some m → aget mem i = some m) {u v : V} {x : Value} (h : View L u v) (hr : Rep w g u x) : Rep w (viewG g L) v x := by
  cases h with
  | same keep nn hv hr' => subst hv; exact rep_toV hr.cv hr'
  | @sb i off n cap size cs es hi hrf hc hl hs hp hn hmx =>
    obtain ⟨b, bo, hbx, hlt, hB⟩ := hm.box (hL i _ hi)
    cases hr with
    | sb hp' =>
      rw [hbx] at hp'; cases hp'
      obtain ⟨xs, hxl, hx, hrep⟩ := hB.vals
      have hin : ∀ (j : Nat) u, (es.flatMap V.cells)[j]? = some u → cs[off + j]? = some u := fun j u hj => by
        rw [← hc, List.getElem?_take] at hj
        split at hj
        · rw [List.getElem?_drop] at hj; exact hj
        · cases hj
      rw [← hl] at hn ⊢
      refine .s (size := size) (fun j => xs.getD (off + j) undef) hn hmx hp (fun e he => ⟨hs e he, fun u hu => ?_⟩) (fun j u hj => ?_) (fun j u hj => ?_) fun _ h => by cases h
      · obtain ⟨j, hj⟩ := List.getElem?_of_mem (List.mem_flatMap.2 ⟨e, he, hu⟩)
        exact hB.one u (List.mem_of_getElem? (hin j u hj))
      · have hjc := hin j u hj
        have hjl := (List.getElem?_eq_some_iff.1 hjc).1
        have hjx : xs[off + j]? = some xs[off + j] := List.getElem?_eq_getElem (by omega)
        refine ⟨hlt, .inr ⟨i, _, hi, bo, hbx, by omega, by omega⟩, ?_⟩
        rw [Nat.add_assoc, List.getD_eq_getElem?_getD, hjx]
        exact hx _ _ hjx
      · have hjc := hin j u hj
        have hjl := (List.getElem?_eq_some_iff.1 hjc).1
        have hjx : xs[off + j]? = some xs[off + j] := List.getElem?_eq_getElem (by omega)
        have := rep_toV (L := L) (hrep _ u _ hjc hjx) (refs_go hrf u (List.mem_of_getElem? hjc))
        rw [List.getD_eq_getElem?_getD, hjx]
        exact this
  | @p i off cs hi hrf =>
    obtain ⟨b, bo, hbx, hlt, hB⟩ := hm.box (hL i _ hi)
    cases hr with
    | p hp' =>
      rw [hbx] at hp'; cases hp'
      obtain ⟨xs, hxl, hx, hrep⟩ := hB.vals
      refine .q (fun j => xs.getD (off + j) undef) (fun u hu => hB.one u (List.mem_of_mem_drop hu)) (fun j u hj => ?_) (fun j u hj => ?_)
      · rw [List.getElem?_drop] at hj
        have hjl := (List.getElem?_eq_some_iff.1 hj).1
        have hjx : xs[off + j]? = some xs[off + j] := List.getElem?_eq_getElem (by omega)
        refine ⟨hlt, .inr ⟨i, _, hi, bo, hbx, by omega, by omega⟩, ?_⟩
        rw [Nat.add_assoc, List.getD_eq_getElem?_getD, hjx]
        exact hx _ _ hjx
      · rw [List.getElem?_drop] at hj
        have hjl := (List.getElem?_eq_some_iff.1 hj).1
        have hjx : xs[off + j]? = some xs[off + j] := List.getElem?_eq_getElem (by omega)
        have := rep_toV (L := L) (hrep _ u _ hj hjx) (refs_go hrf u (List.mem_of_getElem? hj))
        rw [List.getD_eq_getElem?_getD, hjx]
        exact this
  | @w i E gen sz off n es es' hi hn h0 he =>
    obtain ⟨a, c, hrw, hB⟩ := hm.buf (hL i _ hi)
    cases hr with
    | @w _ _ _ _ _ _ ad cap h =>
      obtain ⟨a', l, c', h1, h2, h3⟩ := h
      rw [hrw] at h1; cases h1
      obtain ⟨w1, w2, w3⟩ := h3 rfl
      obtain ⟨xs, hown, hrep⟩ := hB.own
      have hlen : es'.length = n := by rw [← he]; simp; omega
      have hes : ∀ e ∈ es', e ∈ es := fun e hm' => List.mem_of_mem_drop (List.mem_of_mem_take (he ▸ hm'))
      have hsz : ∀ e ∈ es, e.cells.length = sz := fun e he => (hB.cells e he).1
      obtain rfl := w3 (.inl (by omega))
      cases a with
      | none =>
        rcases hown.2 with ⟨hv, hz⟩ | ⟨q, cp, cur, _, hv, _⟩
        · omega
        · simp at hv
      | some b =>
        have hcm : c ≤ maxLen := by
          rcases hown.2 with ⟨hv, _⟩ | ⟨q, cp, cur, _, hv, _, _, _, hm1, _⟩
          · simp at hv
          · simp at hv; obtain ⟨_, rfl⟩ := hv; exact hm1
        have hin : ∀ (j : Nat) u, (es'.flatMap V.cells)[j]? = some u → (es.flatMap V.cells)[off * sz + j]? = some u := fun j u hj => by
          subst he
          refine flat_cut off (off + n) hsz ?_
          rw [Nat.add_sub_cancel_left]; exact hj
        rw [← hlen]
        simp only [Option.map_some]
        refine .s (size := sz) (fun j => xs.getD (off * sz + j) undef) (by omega) (by omega) hB.pos (fun e he => hB.cells e (hes e he)) (fun j u hj => ?_) (fun j u hj => ?_) fun _ h => by cases h
        · have hjc := hin j u hj
          have hjl := (List.getElem?_eq_some_iff.1 hjc).1
          rw [flat_len hsz, ← hown.1] at hjl
          have hjx : xs[off * sz + j]? = some xs[off * sz + j] := List.getElem?_eq_getElem hjl
          refine ⟨hB.lt rfl, .inr ⟨i, _, hi, _, _, hrw⟩, ?_⟩
          rw [own_cell hown hjl, List.getD_eq_getElem?_getD, hjx]
          rfl
        · have hjc := hin j u hj
          have hjl := (List.getElem?_eq_some_iff.1 hjc).1
          rw [flat_len hsz, ← hown.1] at hjl
          have hjx : xs[off * sz + j]? = some xs[off * sz + j] := List.getElem?_eq_getElem hjl
          rw [List.getD_eq_getElem?_getD, hjx]
          have h4 := hrep _ u _ hjc hjx
          exact h4.mono ⟨Nat.le_refl _, fun b o _ hs => ⟨.inl hs, rfl⟩, fun _ _ h => (by cases h), fun _ _ _ _ h => (by cases h)⟩
theorem views_rep {F : Fr0} {g : Gh} {w : World} {mem L : Mem} (hm : RelM F g mem w) (hL : ∀ i m, aget L i = some m → aget mem i = some m) {us vs : List V} (h : Views L us vs) : us.length = vs.length ∧ ∀ (j : Nat) v, vs[j]? = some v → ∃ u, us[j]? = some u ∧ ∀ x, Rep w g u x → Rep w (viewG g L) v x := by
  induction h with
  | nil => exact ⟨rfl, fun j v h => by simp at h⟩
  | cons h _ ih =>
    refine ⟨by simp [ih.1], fun j v hj => ?_⟩
    cases j with
    | zero => simp at hj; subst hj; exact ⟨_, rfl, fun x hx => view_rep hm hL h hx⟩
    | succ j => simp at hj; simpa using ih.2 j v hj
def readT (L : Mem) : Tch := L.map fun x => (x.1, some x.2, none)
theorem tset_read (L mem : Mem) : tset (readT L) mem = mem := by
  induction L with
  | nil => rfl
  | cons x r ih => simpa [readT, tset] using ih
theorem aget_map_mem {L : Mem} {i : Nat} {m : M} (h : aget L i = some m) : (i, some m, none) ∈ readT L := List.mem_map.2 ⟨(i, m), aget_mem h, rfl⟩
section
variable {P : Program} {o : Oper} {env : Env} {v : V}
/-- A call that only looks at what it is handed, and hands back a value that names no memory. -/
theorem Does.callV {fx : Nat} {xs : List Operand} {ts : Array Nat} {us args : List V} (L : Mem) (hc : LM P fx args [] fun o m => o = .ret v ∧ m = []) (ho : o.op = .call { callee := .value (.func fx), args := xs.toArray, argTypes := ts }) (hx : evs env xs = some us) (hu : Views L us args) (hp : v.pure = true) :
    Does P o env v (readT L) := by
  refine ⟨fun F g a w mem h1 h2 h3 h4 _ K Q hK => ?_⟩
  have hL : ∀ i m, aget L i = some m → aget mem i = some m := fun i m hi => h4 i _ none (aget_map_mem hi)
  obtain ⟨e1, e2⟩ := evs_get hx
  obtain ⟨f1, f2⟩ := views_rep h2 hL hu
  have hS : ∀ b o, w.heap.size ≤ b → viewS g L b o := fun b o hb => .inl (h2.fut b o hb)
  unfold Oper.wp
  rw [exec_call ho hc.ok]
  refine Calls.mono (hc.go (viewG g L) w _ ⟨fun _ _ h => (by cases h), fun _ _ _ _ h => (by cases h), fun _ _ _ _ _ _ _ h => (by cases h), fun _ _ => rfl, fun _ _ => rfl, hS, ⟨fun _ _ h => (by cases h), fun _ _ _ _ h => (by cases h)⟩⟩ (by simp; omega) fun j u x hj hxj => ?_) ?_
  · obtain ⟨u0, hu0, hb⟩ := f2 j u hj
    obtain ⟨y, hy, hev⟩ := e2 j u0 hu0
    have : x = a.eval y := by simp [hy] at hxj; exact hxj.symm
    subst this
    exact hb _ (h1 y (by simp [ho, Op.operands, Call.operands]; exact .inr (List.mem_of_getElem? hy)) u0 hev)
  · rintro e w' ⟨o', mo, g', ⟨rfl, rfl⟩, he, hm, hk, x, rfl, hrep⟩
    have hB : ∀ b o, ¬ (lentF (viewG g L) [] w).B b o := fun b o ⟨i, m, h, _⟩ => by cases h
    have hext : Ext w w' := ⟨hk.os, hk.tape, hk.output, hk.size, fun b hb => hk.blk b hb (hB b)⟩
    obtain ⟨k1, k2, k3⟩ := h2.ext (g' := ⟨fun b o => g'.S b o ∧ (b < w.heap.size → g.S b o), g.bx, g.rw⟩) h3 hext (fun b o hb => ⟨fun h => h.2 hb, fun h => ⟨hk.S2 b o hb (.inl h), fun _ => h⟩⟩) rfl rfl fun b o hb => ⟨hm.fut b o hb, fun hlt => by have := hk.size; simp only [lentF] at this; omega⟩
    exact hK x _ w' k1 (by rw [tset_read]; exact k2) k3 (hrep.pure hp _ _)
end
/-! ### Arrays of numbers, told by lists -/
theorem part_map {α : Type} [Inhabited α] {ti : TI} {l : List α} {f : α → V} {off k : Nat} (hd : ti.d.agg = false) (ho : off = k) (hk : k < l.length) : ti.part (l.map f) off = some (f (l.getD k default)) := by
  subst ho
  simp [TI.part, hd, hk]
theorem splice_map {α : Type} {l : List α} {f : α → V} {off k : Nat} {a : α} (ho : off = k) (hk : k < l.length) : splice (l.map f) off [f a] = (l.set k a).map f := by
  subst ho
  apply List.ext_getElem?
  intro j
  rw [splice_get (by simp; omega), List.getElem?_map, List.getElem?_map, List.getElem?_set]
  simp only [List.length_singleton]
  by_cases h : off = j
  · subst h; simp [hk]
  · rw [if_neg (by omega), if_neg h]
section
variable {P : Program} {o : Oper} {env : Env} {v : V}
theorem Does.idxArr1 {T i off n e k : Nat} {x ix : Operand} {kd : IntKind} {z : Int} (X : TOk P) {ti ei : TI} (ho : o.op = .indexAddr T x ix) (hx : evo env x = some (.p i off)) (hi : evo env ix = some (.k (.int kd z))) (hz : z = ((k : Nat) : Int)) (hT : aget X.tab T = some ti) (hd : ti.d = .arr n e) (hE : aget X.tab e = some ei) (hs : Nat.beq ei.size 1 = true) (hk : k < n) : Does P o env (.p i (off + k)) [] := by
  have := Does.idxArr X ho hx hi hz hT hd hE hk
  rwa [Nat.eq_of_beq_eq_true hs, Nat.mul_one] at this
theorem Does.idxArr0 {T i n e k : Nat} {x ix : Operand} {kd : IntKind} {z : Int} (X : TOk P) {ti ei : TI} (ho : o.op = .indexAddr T x ix) (hx : evo env x = some (.p i 0)) (hi : evo env ix = some (.k (.int kd z))) (hz : z = ((k : Nat) : Int)) (hT : aget X.tab T = some ti) (hd : ti.d = .arr n e) (hE : aget X.tab e = some ei) (hs : Nat.beq ei.size 1 = true) (hk : k < n) : Does P o env (.p i k) [] := by
  have := Does.idxArr1 X ho hx hi hz hT hd hE hs hk
  rwa [Nat.zero_add] at this
theorem Does.idxSb1 {T e k i off n cap : Nat} {x ix : Operand} {kd : IntKind} {z : Int} (X : TOk P) {ti ei : TI} (ho : o.op = .indexAddr T x ix) (hx : evo env x = some (.sb i off n cap)) (hi : evo env ix = some (.k (.int kd z))) (hz : z = ((k : Nat) : Int)) (hT : aget X.tab T = some ti) (hd : ti.d = .sl e) (hE : aget X.tab e = some ei) (hs : Nat.beq ei.size 1 = true) (hk : k < n) : Does P o env (.p i (off + k)) [] := by
  have := Does.idxSb X ho hx hi hz hT hd hE hk
  rwa [Nat.eq_of_beq_eq_true hs, Nat.mul_one] at this
theorem Does.cutA1 {T e l h i off n : Nat} {x : Operand} {lo hi : Option Operand} (X : TOk P) {ti ei : TI} (ho : o.op = .slice T x lo hi none) (hx : evo env x = some (.p i off)) (hT : aget X.tab T = some ti) (hd : ti.d = .arr n e) (hE : aget X.tab e = some ei) (hs : Nat.beq ei.size 1 = true) (hlo : Bd env 0 lo l) (hhi : Bd env n hi h)
    (h1 : l ≤ h) (h2 : h ≤ n) (h3 : l < n) : Does P o env (.sb i (off + l) (h - l) (n - l)) [] := by
  have := Does.cutA X ho hx hT hd hE hlo hhi h1 h2 h3
  rwa [Nat.eq_of_beq_eq_true hs, Nat.mul_one] at this
/-- Two arrays of integers held against each other. -/
theorem rep_ints {α : Type} {w : World} {g : Gh} {k : IntKind} {f : α → Int} {l : List α} {x : Value} (h : Rep w g (.a (l.map fun a => .k (.int k (f a)))) x) : ∃ xs : Array Value, x = .agg xs ∧ xs.size = l.length ∧ ∀ i (hi : i < l.length), xs[i]? = some (.int k (f l[i])) := by
  cases h with
  | @a _ _ vs hl h1 hc =>
    rw [List.length_map] at hl
    refine ⟨vs, rfl, hl.symm, fun i hi => ?_⟩
    have hv : vs[i]? = some vs[i] := Array.getElem?_eq_getElem (by omega)
    have := rep_k (hc i (.k (.int k (f l[i]))) vs[i] (by rw [List.getElem?_map, List.getElem?_eq_getElem hi]; rfl) hv)
    rw [hv, this]
theorem all_eq {α : Type} {f : α → Int} (inj : ∀ a b, f a = f b → a = b) {l m : List α} {n : Nat} (hl : l.length = n) (hm : m.length = n) (d : α) : ((List.range n).all fun i => f (l.getD i d) == f (m.getD i d)) = @decide (l = m) (Classical.propDecidable _) := by
  rw [Bool.eq_iff_iff, List.all_eq_true, @decide_eq_true_iff _ (Classical.propDecidable _)]
  constructor
  · intro h
    apply List.ext_getElem (by omega)
    intro i h1 h2
    have := h i (List.mem_range.2 (by omega))
    rw [beq_iff_eq] at this
    have := inj _ _ this
    simpa [List.getD_eq_getElem?_getD, List.getElem?_eq_getElem h1, List.getElem?_eq_getElem h2] using this
  · rintro rfl i _; simp
theorem run_eqInts {α : Type} {T n e : Nat} {k : IntKind} {f : α → Int} (inj : ∀ a b, f a = f b → a = b) (X : TOk P) {ti ei : TI} (hT : aget X.tab T = some ti) (hd : ti.d = .arr n e) (hE : aget X.tab e = some ei) (he : ei.d = .int k) (hs : Nat.beq ei.size 1 = true) {l m : List α} (hl : l.length = n) (hm : m.length = n)
    {xs ys : Array Value} (hx : ∀ i (hi : i < l.length), xs[i]? = some (.int k (f l[i]))) (hy : ∀ i (hi : i < m.length), ys[i]? = some (.int k (f m[i]))) (w : World) :
    (binOp .eql T (.agg xs) (.agg ys)).run P w = .ok (.bool (@decide (l = m) (Classical.propDecidable _))) w ∧ (binOp .neq T (.agg xs) (.agg ys)).run P w = .ok (.bool (!(@decide (l = m) (Classical.propDecidable _)))) w := by
  have hsz : (P.info? e).map (·.size) = some 1 := by rw [(X.get hE).size, Nat.eq_of_beq_eq_true hs]
  rcases Nat.eq_zero_or_pos n with h0 | h0
  · subst h0
    have e1 : l = [] := List.eq_nil_of_length_eq_zero hl
    have e2 : m = [] := List.eq_nil_of_length_eq_zero hm
    subst e1; subst e2
    have q1 := Eq'.run_eql (P := P) (t := T) (e := e) (n := 0) (k := k) ((X.get hT).arr hd) ((X.get hE).int he) hsz (f := fun _ => 0) (g := fun _ => 0) (xs := xs) (ys := ys) (fun i hi => by omega) (fun i hi => by omega) w
    have q2 := Eq'.run_neq (P := P) (t := T) (e := e) (n := 0) (k := k) ((X.get hT).arr hd) ((X.get hE).int he) hsz (f := fun _ => 0) (g := fun _ => 0) (xs := xs) (ys := ys) (fun i hi => by omega) (fun i hi => by omega) w
    rw [q1, q2]
    simp
  · obtain ⟨d⟩ : Nonempty α := ⟨l[0]⟩
    have hx' : ∀ i, i < n → xs[i]? = some (.int k (f (l.getD i d))) := fun i hi => by rw [hx i (by omega), List.getD_eq_getElem?_getD, List.getElem?_eq_getElem (by omega)]; rfl
    have hy' : ∀ i, i < n → ys[i]? = some (.int k (f (m.getD i d))) := fun i hi => by rw [hy i (by omega), List.getD_eq_getElem?_getD, List.getElem?_eq_getElem (by omega)]; rfl
    rw [Eq'.run_eql (P := P) (k := k) ((X.get hT).arr hd) ((X.get hE).int he) hsz hx' hy' w, Eq'.run_neq (P := P) (k := k) ((X.get hT).arr hd) ((X.get hE).int he) hsz hx' hy' w, all_eq inj hl hm d]
    exact ⟨rfl, rfl⟩
theorem eqGuard_arr {b : BinOp} {T n e : Nat} {k : IntKind} (X : TOk P) {ti ei : TI} (hT : aget X.tab T = some ti) (hd : ti.d = .arr n e) (hE : aget X.tab e = some ei) (he : ei.d = .int k) {x y : Operand} {xs ys : Array Value} (w : World) : (eqGuard b T x y (.agg xs) (.agg ys)).run P w = .ok () w := by
  have hdp : ∃ m, P.depth = m + 2 := ⟨2 * (P.types.size + Made.depth), rfl⟩
  obtain ⟨m, hm⟩ := hdp
  have : P.eqGuardType P.depth T = false := by
    rw [hm]
    simp [Program.eqGuardType, (X.get hT).arr hd, (X.get hE).int he]
  unfold eqGuard
  cases b <;> simp [this, program, Sem.run]
theorem Does.eqInts {α : Type} {T n e Y : Nat} {k : IntKind} {f : α → Int} {x y : Operand} {l m : List α} (inj : ∀ a b, f a = f b → a = b) (X : TOk P) {ti ei : TI} (ho : o.op = .binOp .eql T x y Y) (hx : evo env x = some (.a (l.map fun a => .k (.int k (f a))))) (hy : evo env y = some (.a (m.map fun a => .k (.int k (f a)))))
    (hT : aget X.tab T = some ti) (hd : ti.d = .arr n e) (hE : aget X.tab e = some ei) (he : ei.d = .int k) (hs : Nat.beq ei.size 1 = true) (hl : l.length = n) (hm : m.length = n) {r : Bool} (hr' : @decide (l = m) (Classical.propDecidable _) = r) : Does P o env (.k (.bool r)) [] :=
  .pure fun F g a w mem hr _ => by
    subst hr'
    obtain ⟨xs, e1, h1, h2⟩ := rep_ints (hr x (by simp [ho, Op.operands]) _ hx)
    obtain ⟨ys, e2, h3, h4⟩ := rep_ints (hr y (by simp [ho, Op.operands]) _ hy)
    obtain ⟨q1, q2⟩ := run_eqInts inj X hT hd hE he hs hl hm h2 h4 w
    exact ⟨_, by simp only [execOp, ho, e1, e2, Sem.run_bind, eqGuard_arr X hT hd hE he, Result.andThen_ok, q1]; rfl, .k _⟩
theorem Does.neInts {α : Type} {T n e Y : Nat} {k : IntKind} {f : α → Int} {x y : Operand} {l m : List α} (inj : ∀ a b, f a = f b → a = b) (X : TOk P) {ti ei : TI} (ho : o.op = .binOp .neq T x y Y) (hx : evo env x = some (.a (l.map fun a => .k (.int k (f a))))) (hy : evo env y = some (.a (m.map fun a => .k (.int k (f a)))))
    (hT : aget X.tab T = some ti) (hd : ti.d = .arr n e) (hE : aget X.tab e = some ei) (he : ei.d = .int k) (hs : Nat.beq ei.size 1 = true) (hl : l.length = n) (hm : m.length = n) {r : Bool} (hr' : @decide (¬ l = m) (Classical.propDecidable _) = r) : Does P o env (.k (.bool r)) [] :=
  .pure fun F g a w mem hr _ => by
    subst hr'
    obtain ⟨xs, e1, h1, h2⟩ := rep_ints (hr x (by simp [ho, Op.operands]) _ hx)
    obtain ⟨ys, e2, h3, h4⟩ := rep_ints (hr y (by simp [ho, Op.operands]) _ hy)
    obtain ⟨q1, q2⟩ := run_eqInts inj X hT hd hE he hs hl hm h2 h4 w
    refine ⟨_, by simp only [execOp, ho, e1, e2, Sem.run_bind, eqGuard_arr X hT hd hE he, Result.andThen_ok, q2]; rfl, ?_⟩
    have : (!(@decide (l = m) (Classical.propDecidable _))) = @decide (¬ l = m) (Classical.propDecidable _) := by
      rw [Bool.eq_iff_iff]; simp
    rw [this]
    exact .k _
theorem bK_inj (a b : UInt8) (h : (a.toNat : Int) = (b.toNat : Int)) : a = b := UInt8.toNat_inj.1 (by omega)
/-- A number of 64 bits. -/
def qK (x : UInt64) : V := .k (.int .u64 (x.toNat : Int))
def uK (n : Nat) : V := .k (.int .u64 ((n : Nat) : Int))
theorem uK_inj (a b : Nat) (h : ((a : Nat) : Int) = ((b : Nat) : Int)) : a = b := by omega
theorem qK_inj (a b : UInt64) (h : (a.toNat : Int) = (b.toNat : Int)) : a = b := UInt64.toNat_inj.1 (by omega)
end
/-! ### Numbers of 64 bits -/
theorem uadd {a b : UInt64} : IntKind.u64.wrap ((a.toNat : Int) + (b.toNat : Int)) = ((a + b).toNat : Int) := by
  rw [wrap_uns rfl, UInt64.toNat_add]; norm_cast
theorem usub {a b : UInt64} : IntKind.u64.wrap ((a.toNat : Int) - (b.toNat : Int)) = ((a - b).toNat : Int) := by
  have ha := a.toNat_lt
  have hb := b.toNat_lt
  rw [wrap_uns rfl, UInt64.toNat_sub]
  have e : (2 : Int) ^ IntKind.u64.bits = 18446744073709551616 := by decide
  have e2 : (2 : Nat) ^ 64 = 18446744073709551616 := by decide
  rw [e]
  rw [e2] at *
  omega
theorem uxor {a b : UInt64} : IntKind.u64.wrap (((BitVec.ofInt IntKind.u64.bits (a.toNat : Int) ^^^ BitVec.ofInt IntKind.u64.bits (b.toNat : Int)).toNat : Nat) : Int) = ((a ^^^ b).toNat : Int) := by
  rw [xor_u64 a.toNat_lt b.toNat_lt, UInt64.toNat_xor]
theorem uxorn {a : UInt64} {n : Nat} : IntKind.u64.wrap (((BitVec.ofInt IntKind.u64.bits (a.toNat : Int) ^^^ BitVec.ofInt IntKind.u64.bits (n : Int)).toNat : Nat) : Int) = ((a ^^^ UInt64.ofNat n).toNat : Int) := by
  rw [BitVec.toNat_xor, ofInt_nat, ofInt_nat, UInt64.toNat_xor, UInt64.toNat_ofNat']
  have e : (2 : Nat) ^ IntKind.u64.bits = 2 ^ 64 := rfl
  rw [e, Nat.mod_eq_of_lt a.toNat_lt]
  exact wrap_fit (k := .u64) rfl (Nat.xor_lt_two_pow a.toNat_lt (Nat.mod_lt _ (Nat.two_pow_pos 64)))
theorem mul_u64m {a b : Nat} : IntKind.u64.wrap ((a : Int) * OfNat.ofNat b) = ((a * OfNat.ofNat b % 2 ^ 64 : Nat) : Int) := by
  rw [wrap_uns rfl]
  exact (Int.natCast_emod _ _).symm.trans rfl
theorem beq_len {α : Type} {l : List α} {n : Nat} (h : l.length = n) : Nat.beq l.length n = true := by rw [h]; exact Nat.beq_refl n
theorem ble_len {a b : Nat} (h : a ≤ b) : Nat.ble a b = true := Nat.ble_eq_true_of_le h
theorem splice_all {cs us : List V} (h : us.length = cs.length) : splice cs 0 us = us := by simp [splice, h]
/-- Something done n times, the number of the time at hand. -/
def iter {σ : Type} (f : σ → Nat → σ) (s : σ) : Nat → σ
  | 0 => s
  | n + 1 => f (iter f s n) n
theorem iter_inv {σ : Type} {f : σ → Nat → σ} {p : σ → Prop} (hf : ∀ s i, p s → p (f s i)) {s : σ} (hs : p s) : ∀ n, p (iter f s n)
  | 0 => hs
  | n + 1 => hf _ _ (iter_inv hf hs n)
end Lf
end Go.Proofs.Ytgeccggkdgpkiaa

/- A part of the proof: texts joined. -/
import Derived.Test.YtffaobngpbaklaaGreatDoorQ3567398
set_option linter.unusedVariables false
set_option linter.unusedSimpArgs false
namespace Go.Proofs.YtffaobngpbaklaaGreatDoor
open Go.RowKit Rg
namespace Lf
section
variable {P : Program} {o : Oper} {env : Env}
def SrcOk (P : Program) (sz Tx : Nat) (y : Operand) (env : Env) (ys : List V) (t : Tch) : Prop :=
 ∀ (F : Fr0) (g : Gh) (a : Act) (w : World) (mem : Mem), (∀ u, evo env y = some u → Rep w g u (a.eval y)) → RelM F g mem w → tpre t mem →
  ∃ news, Src P sz Tx (a.eval y) ys.length news w ∧ (∀ y ∈ ys, ∀ u ∈ y.cells, u.one = true) ∧ (ys.flatMap V.cells).length = news.length ∧ ∀ (j : Nat) u z, (ys.flatMap V.cells)[j]? = some u → news[j]? = some z → Rep w g.bare u z
theorem TIok.ifc {T : Nat} {ti : TI} (h : TIok P T ti) (hd : ti.d = .ifc) : ∃ ms, P.underlying T = some (.interface ms) := by
 obtain ⟨d, hu, hc⟩ := h.und
 rw [hd] at hc
 cases d <;> simp [TD.chk] at hc
 exact ⟨_, hu⟩
theorem run_ifcNil {T Y : Nat} {b : BinOp} {x : Operand} {v : Value} {r rr : Bool} {ms : Array (String × TypeId)} {w : World} (hu : P.underlying T = some (.interface ms)) (hv : (v = .nilIface ∧ r = true) ∨ (∃ S u, v = .iface S u) ∧ r = false) (hb : (b = .eql ∧ rr = r) ∨ (b = .neq ∧ rr = !r)) {a : Act} (ho : o.op = .binOp b T x (.const .nilIface) Y) (hx : a.eval x = v) :
  (execOp a.eval o).run P w = .ok (.value (.bool rr)) w := by
 have hx2 : a.eval (.const .nilIface) = .nilIface := rfl
 have q1 : (eqGuard b T x (.const .nilIface) v .nilIface).run P w = .ok () w := by
  unfold eqGuard
  rcases hb with ⟨rfl, _⟩ | ⟨rfl, _⟩ <;> rcases hv with ⟨rfl, _⟩ | ⟨⟨S, u, rfl⟩, _⟩ <;> first | rfl | (cases x <;> rfl)
 have e : Op.equal T v .nilIface = Op.equalIn (9999 + 1) T v .nilIface := rfl
 have q3 : (Op.equalIn (9999 + 1) T v .nilIface).run P w = .ok r w := by
  rw [Op.equalIn, Sem.run_bind, run_underlying hu w]
  rcases hv with ⟨rfl, rfl⟩ | ⟨⟨S, u, rfl⟩, rfl⟩ <;> rfl
 have q2 : (binOp b T v .nilIface).run P w = .ok (.bool rr) w := by
  rcases hb with ⟨rfl, rfl⟩ | ⟨rfl, rfl⟩
  ·simp only [binOp, e, Sem.run_bind, q3, Result.andThen_ok]; rfl
  ·simp only [binOp, e, Sem.run_bind, q3, Result.andThen_ok]; rfl
 simp only [execOp, ho, hx, hx2, Sem.run_bind, q1, Result.andThen_ok, q2]
 rfl
theorem Does.eqNil0 {T Y : Nat} {x : Operand} (X : TOk P) {ti : TI} (ho : o.op = .binOp .eql T x (.const .nilIface) Y) (hx : evo env x = some (.k .nilIface)) (hT : aget X.tab T = some ti) (hd : ti.d = .ifc) : Does P o env (.k (.bool true)) [] :=
 .pure fun F g a w mem hr _ => by
  have h1 := rep_k (hr x (by simp [ho, Op.operands]) _ hx)
  obtain ⟨ms, hu⟩ := (X.get hT).ifc hd
  exact ⟨_, run_ifcNil hu (.inl ⟨h1, rfl⟩) (.inl ⟨rfl, rfl⟩) ho rfl, .k _⟩
theorem Does.eqNilI {T Y S : Nat} {u : V} {x : Operand} (X : TOk P) {ti : TI} (ho : o.op = .binOp .eql T x (.const .nilIface) Y) (hx : evo env x = some (.i S u)) (hT : aget X.tab T = some ti) (hd : ti.d = .ifc) : Does P o env (.k (.bool false)) [] :=
 .pure fun F g a w mem hr _ => by
  have h1 := hr x (by simp [ho, Op.operands]) _ hx
  obtain ⟨ms, hu⟩ := (X.get hT).ifc hd
  obtain ⟨y, hy⟩ : ∃ y, a.eval x = .iface S y := by generalize a.eval x = z at h1; cases h1; exact ⟨_, rfl⟩
  exact ⟨_, run_ifcNil hu (.inr ⟨⟨S, y, hy⟩, rfl⟩) (.inl ⟨rfl, rfl⟩) ho rfl, .k _⟩
def TD.isIfc : TD → Bool
 | .ifc => true
 | _ => false
theorem Does.asrtOk {xT T : Nat} {u : V} {x : Operand} (X : TOk P) {ti : TI} (ho : o.op = .typeAssert x xT T true) (hx : evo env x = some (.i T u)) (hT : aget X.tab T = some ti) (hd : ti.d.isIfc = false) : Does P o env (.t [u, .k (.bool true)]) [] :=
  .pure fun F g a w mem hr _ => by
    have h1 := hr x (by simp [ho, Op.operands]) _ hx
    obtain ⟨d, hu, hc⟩ := (X.get hT).und
    generalize hy : a.eval x = y at h1
    cases h1 with
    | @i _ _ _ z h =>
      refine ⟨.tuple #[z, .bool true], ?_, .t rfl fun j v q hj hq => ?_⟩
      · have hni : ∀ ms, d ≠ .interface ms := fun ms e => by
          subst e
          cases hd' : ti.d <;> rw [hd'] at hc hd <;> simp [TD.chk, TD.isIfc] at hc hd
        have : (Instr.typeAssert (.iface T z) xT T true).run P w = .ok (.tuple #[z, .bool true]) w := by
          unfold Instr.typeAssert
          rw [Sem.run_bind, run_underlying hu w]
          cases d <;> first | (exact absurd rfl (hni _)) | simp
        simp [execOp, ho, hy, this]
      · match j with
        | 0 => simp at hj hq; subst hj; subst hq; exact h
        | 1 => simp at hj hq; subst hj; subst hq; exact .k _
        | j + 2 => simp at hj
theorem Does.cutSbE {T e l h i off n cap : Nat} {x : Operand} {lo hi : Option Operand} (X : TOk P) {ti ei : TI} (ho : o.op = .slice T x lo hi none) (hx : evo env x = some (.sb i off n cap)) (hT : aget X.tab T = some ti) (hd : ti.d = .sl e) (hE : aget X.tab e = some ei) (hlo : Bd env 0 lo l) (hhi : Bd env n hi h)
  (h1 : l = h) (h2 : l = cap) : Does P o env (.s none []) [] :=
 .pure fun F g a w mem hr _ => by
  subst h1; subst h2
  have hr0 := hr x (by simp [ho, Op.operands]) _ hx
  have b1 := hlo.val (a := a) (fun y hy u hu => hr y (by subst hy; simp [ho, Op.operands]) u hu)
  have b2 := hhi.val (a := a) (fun y hy u hu => hr y (by subst hy; simp [ho, Op.operands]) u hu)
  generalize hy : a.eval x = y at hr0
  cases hr0 with
  | @sb _ _ _ _ _ b bo hp =>
   have := run_cutG (P := P) (a := some ⟨b, bo + off, none⟩) ((X.get hT).sl hd) (X.get hE).run_size b1 b2 (Nat.le_refl _) (Nat.le_refl _) w
   refine ⟨.slice (some ⟨b, bo + off, none⟩) 0 0, ?_, .se _ fun _ h => by cases h⟩
   simp [execOp, ho, hy, this]
theorem tset_head {i : Nat} {m : Option M} {m' : M} {t : Tch} {mem : Mem} (hq : quiet t = true) : tset ((i, m, some m') :: t) mem = (i, m') :: mem := by
 show (i, m') :: tset t mem = _
 rw [tset_quiet hq]
theorem Does.appG {T Tx E i sz : Nat} {x y : Operand} {es ys : List V} {t : Tch} (X : TOk P) {ti ei : TI} (ho : o.op = .call { callee := .builtin .append, args := #[x, y], argTypes := #[T, Tx] }) (hx : evo env x = some (.s (some i) es)) (hS : SrcOk P sz Tx y env ys t) (hq : quiet t = true)
  (hT : aget X.tab T = some ti) (hd : ti.d = .sl E) (hE : aget X.tab E = some ei) (hsz : ei.size = sz)
  (hes : ∀ e ∈ es, e.cells.length = sz) (hys : ∀ e ∈ ys, e.cells.length = sz) {n : Nat} (hn : es.length + ys.length = n) (hmax : n ≤ 140737488355328) (hb : n * ei.bytes ≤ 140737488355328) :
  Does P o env (.s (some i) (es ++ ys)) ((i, some (.r E sz es.length), some (.r E sz n)) :: t) := by
 refine ⟨fun F g a w mem h1 h2 h3 h4 _ K Q hK => ?_⟩
 subst hn
 have hi := h4 _ _ _ (List.mem_cons_self ..)
 have hrx := h1 x (by simp [ho, Op.operands, Call.operands]) _ hx
 obtain ⟨news, hsrc, hone2, hfl, hrep2⟩ := hS F g a w mem (fun u hu => h1 y (by simp [ho, Op.operands, Call.operands]) _ hu) h2 (fun j m m' hj => h4 j m m' (List.mem_cons_of_mem _ hj))
 subst hsz
 rcases rep_tip h2 hrx hi hes with ⟨ao, c, zs, e1, e2, hown, hp, hone, hrep⟩ | ⟨rfl, e1, hp, ad, e2⟩
 case inr =>
  simp only [List.length_nil, Nat.zero_add, List.nil_append] at hmax hb hi hK ⊢
  obtain ⟨v', w', hrun, hres⟩ := run_app0 (P := P) (ty := o.type) (ad := ad) ((X.get hT).sl hd) (X.get hE) hp hsrc hmax hb
  have hrun' : (execOp a.eval o).run P w = .ok (.value v') w' := by
   simp [execOp, ho, resolve, invoke, builtin, e2, hrun]
  unfold Oper.wp
  rw [hrun']
  rcases hres with ⟨hm0, rfl, rfl⟩ | ⟨hm0, hown', hg, hv⟩
  ·have : ys = [] := List.eq_nil_of_length_eq_zero hm0
   subst this
   refine hK _ g _ (Ev.refl g _) (h2.congr fun j => ?_) h3 ?_
   ·rw [tset_head hq]; simp only [aget_cons]
    split
    ·rename_i e; subst e; exact hi
    ·rfl
   ·rw [← e2]; exact hrx
  ·have hg0 : Value.ownBlock (.slice (Option.map (fun b => (⟨b, 0, none⟩ : Addr)) none) 0 0) = none := rfl
   obtain ⟨g', a', c', rfl, k1, k2, k3, k4, k5⟩ := h2.grow (n := 0) (m := ys.length) (a := none) (c := 0) (xs := []) h3 hi e1 (oRow_nil w 0 E ei.size) hown' (by rw [hg0]; exact hg) (.inr ⟨hm0, hv⟩)
   rw [Nat.zero_add] at k1 k3 k5
   refine hK _ g' w' k2 (by rw [tset_head hq]; simpa using k3) k4 ?_
   rw [Nat.zero_add] at hown' ⊢
   exact Rep.row rfl hp k1 hown' k5 (fun e he => ⟨hys e he, hone2 e he⟩) (fun j u z hj hz => (hrep2 j u z hj (by simpa using hz)).mono k2.bare)
 obtain ⟨v', w', hrun, hown', hg, hv⟩ := run_app (P := P) (ty := o.type) ((X.get hT).sl hd) (X.get hE) hp hown hsrc hmax hb
 obtain ⟨g', a', c', rfl, k1, k2, k3, k4, k5⟩ := h2.grow h3 hi e1 hown hown' hg hv
 unfold Oper.wp
 have hrun' : (execOp a.eval o).run P w = .ok (.value (.slice (Option.map (fun b => ⟨b, 0, none⟩) a') (es.length + ys.length) c')) w' := by
  rw [← e2] at hrun
  simp [execOp, ho, resolve, invoke, builtin, hrun]
 rw [hrun']
 refine hK _ g' w' k2 (by rw [tset_head hq]; exact k3) k4 (Rep.row (by simp) hp k1 hown' k5 (fun e he => ?_) (fun j u z hj hz => ?_))
 ·rcases List.mem_append.1 he with he | he
  ·exact ⟨hes e he, hone e he⟩
  ·exact ⟨hys e he, hone2 e he⟩
 ·have hfe : (es.flatMap V.cells).length = zs.length := by rw [flat_len hes, hown.1]
  rw [List.flatMap_append] at hj
  rcases Nat.lt_or_ge j zs.length with hlt | hge
  ·rw [List.getElem?_append_left (by omega)] at hj
   rw [List.getElem?_append_left hlt] at hz
   exact (hrep j u z hj hz).mono k2.bare
  ·rw [List.getElem?_append_right (by omega)] at hj
   rw [List.getElem?_append_right hge, ← hfe] at hz
   exact (hrep2 _ u z hj hz).mono k2.bare
theorem SrcOk.box {sz Tx e j off n cap : Nat} {y : Operand} {cs ys : List V} (X : TOk P) {xi : TI} (hy : evo env y = some (.sb j off n cap)) (hX : aget X.tab Tx = some xi) (hdx : xi.d = .sl e) (hsz : sz = 1) (hcs : (cs.drop off).take n = ys) (hl : off + n ≤ cs.length) (hc : ∀ u ∈ ys, u.cells = [u]) (hr : ∀ u ∈ ys, u.bare = some u) : SrcOk P sz Tx y env ys [(j, some (.b cs), none)] := by
 intro F g a w mem h1 h2 h4
 subst hsz
 have hm := h4 _ _ _ mem_one
 have hrep := h1 _ hy
 obtain ⟨b, o, hb, _, hB⟩ := h2.box hm
 have hfl : ys.flatMap V.cells = ys := by
  clear hcs hr
  induction ys with
  | nil => rfl
  | cons u r ih => rw [List.flatMap_cons, hc u (by simp), ih fun v hv => hc v (by simp [hv])]; rfl
 have hlen : ys.length = n := by rw [← hcs, List.length_take, List.length_drop]; omega
 have hget : ∀ k, k < n → ∃ u x, ys[k]? = some u ∧ u.one = true ∧ w.cell? ⟨b, o + (off + k), none⟩ = some x ∧ Rep w g.bare u x := fun k hk => by
  have hlt : off + k < cs.length := by omega
  obtain ⟨_, _, x, h5, h6⟩ := hB.at_ (off + k) cs[off + k] (List.getElem?_eq_getElem hlt)
  have hu : ys[k]? = some cs[off + k] := by rw [← hcs, List.getElem?_take, if_pos hk, List.getElem?_drop, List.getElem?_eq_getElem hlt]
  have hbare : cs[off + k].bare = some cs[off + k] := hr _ (List.mem_of_getElem? hu)
  exact ⟨_, x, hu, hB.one _ (List.getElem_mem hlt), h5, h6.to_bare hbare⟩
 generalize hv : a.eval y = v at hrep
 cases hrep with
 | @sb _ _ _ _ _ b' o' hb' =>
  rw [hb] at hb'; cases hb'
  let f : Nat → Value := fun k => (w.cell? ⟨b, o + (off + k), none⟩).getD undef
  have hf : ∀ k, k < n → ((List.range n).map f)[k]? = some (f k) := fun k hk => by rw [List.getElem?_map, List.getElem?_range hk]; rfl
  rw [hlen]
  refine ⟨(List.range n).map f, Src.ofSlice w ((X.get hX).sl hdx) _ n cap _ (by simp) (fun k u hk => ?_) (fun u hu => ?_), fun u hu v hv => ?_, by rw [hfl]; simp [hlen], fun k u z hk hz => ?_⟩
  ·have hkn : k < n := by have := (List.getElem?_eq_some_iff.1 hk).1; simpa using this
   rw [hf k hkn] at hk; cases hk
   obtain ⟨u, x, _, _, h5, _⟩ := hget k hkn
   rw [Addr.add_lit, Nat.add_assoc, h5]
   simp only [f, h5]; rfl
  ·obtain ⟨k, hk, rfl⟩ := List.mem_map.1 hu
   obtain ⟨u, x, _, h7, h5, h6⟩ := hget k (List.mem_range.1 hk)
   simp only [f, h5]
   exact h6.oneCell h7
  ·obtain ⟨k, hk⟩ := List.getElem?_of_mem hu
   have hkn : k < n := by have := (List.getElem?_eq_some_iff.1 hk).1; omega
   obtain ⟨u', x, h8, h7, _, _⟩ := hget k hkn
   rw [hk] at h8; cases h8
   rw [hc u hu] at hv
   simp at hv; subst hv; exact h7
  ·rw [hfl] at hk
   have hkn : k < n := by have := (List.getElem?_eq_some_iff.1 hk).1; omega
   rw [hf k hkn] at hz; cases hz
   obtain ⟨u', x, h8, _, h5, h6⟩ := hget k hkn
   rw [hk] at h8; cases h8
   simp only [f, h5]
   exact h6
end
section
variable {P : Program} {F : Fr0} {N : Nat} {ops : Array Oper} {chk : List (Nat × Tch) → Bool} {K : Env → Mem → Prop} {acc : List (Nat × Tch)} {env : Env} {mem : Mem} {i d j : Nat} {o : Oper} {rs : List (Nat × Oper)}
theorem cells1_map {α : Type} {f : α → V} (hf : ∀ a, (f a).cells = [f a]) (l : List α) : ∀ u ∈ l.map f, u.cells = [u] := fun u hu => by obtain ⟨a, _, rfl⟩ := List.mem_map.1 hu; exact hf a
theorem DR.ab {α : Type} {f : α → V} {T Tx E e sz off m cap jb : Nat} {x y : Operand} {es zs cs : List V} {l : List α} (X : TOk P) {ti xi ei : TI} (ho : o.op = .call { callee := .builtin .append, args := #[x, y], argTypes := #[T, Tx] }) (hg : gd ops env o = some true) (hds : o.dst = some d) (hx : evo env x = some (.s (some j) es)) (hy : evo env y = some (.sb jb off m cap))
  {n0 : Nat} (hm : aget mem j = some (.r E sz n0)) (hb2 : aget mem jb = some (.b cs)) (hn0 : es.length = n0) (hT : aget X.tab T = some ti) (hdt : ti.d = .sl E) (hE : aget X.tab E = some ei) (hsz : ei.size = sz) (hs1 : Nat.beq sz 1 = true) (hX : aget X.tab Tx = some xi) (hdx : xi.d = .sl e) (hcs : (cs.drop off).take m = l.map f) (hf : ∀ a, (f a).cells = [f a]) (hl : l.length = m) (hr : ∀ a, (f a).bare = some (f a))
  (hes : ∀ e ∈ es, e.cells.length = sz) (hz : es ++ l.map f = zs) {n : Nat} (hn : zs.length = n) (hmax : n ≤ 140737488355328) (hb : n * ei.bytes ≤ 140737488355328) (hd : Nat.blt d N = true)
  (hK : DR P F N ops chk K rs ((i, [(j, some (.r E sz es.length), some (.r E sz n)), (jb, some (.b cs), none)]) :: acc) ((d, .s (some j) zs) :: env) ((j, .r E sz n) :: mem)) : DR P F N ops chk K ((i, o) :: rs) acc env mem := by
 subst hz
 have e1 := Nat.eq_of_beq_eq_true hs1
 have hlen : (l.map f).length = m := by rw [List.length_map]; exact hl
 have hle : off + m ≤ cs.length ∨ m = 0 := by
  have h1 := congrArg List.length hcs
  rw [List.length_take, List.length_drop, hlen] at h1
  omega
 have hS : SrcOk P sz Tx y env (l.map f) [(jb, some (.b cs), none)] := by
  rcases hle with h | h
  ·exact SrcOk.box X hy hX hdx e1 hcs h (cells1_map hf l) fun u hu => by obtain ⟨a, _, rfl⟩ := List.mem_map.1 hu; exact hr a
  ·subst h
   have hl0 : l = [] := List.eq_nil_of_length_eq_zero hl
   subst hl0
   intro F g a w mem h1 h2 h4
   have hrep := h1 _ hy
   generalize hv : a.eval y = v at hrep
   cases hrep with
   | sb h => exact ⟨[], Src.ofSlice w ((X.get hX).sl hdx) _ 0 cap [] (by simp) (by simp) (by simp), by simp, by simp, by simp⟩
 refine DR.step hg (Does.appG X ho hx hS rfl hT hdt hE hsz hes (fun e he => ?_) (by rw [← List.length_append]; exact hn) hmax hb) (tpre_two (by rw [hn0]; exact hm) hb2) (by rw [hds]; exact hd) (by rw [hds]; exact hK)
 obtain ⟨a, _, rfl⟩ := List.mem_map.1 he
 rw [hf, e1]; rfl
end
end Lf
end Go.Proofs.YtffaobngpbaklaaGreatDoor

/- A part of the proof: texts joined. -/
import Derived.WideKeyMaps
import Derived.DeepKeys5
import Derived.Maps.Keyed
import Derived.Test.YtffaobngpbaklaaGreatDoorQ5dbe2ed
set_option linter.unusedVariables false
set_option linter.unusedSimpArgs false
namespace Go.Proofs.YtffaobngpbaklaaGreatDoor
open Go.RowKit Rg
namespace Lf
section
variable {F : Fr0} {g : Gh} {mem : Mem} {w : World}
theorem heap_alloc_at (w : World) (ob : Obj) : (w.alloc ob).heap[w.heap.size]? = some ob := by
 cases w
 simp only [World.alloc, Array.getElem?_push_size]
theorem RelM.newMap (h : RelM F g mem w) (hk : Kept F g w) {i : Nat} (hi : aget mem i = none) :
  ∃ g', g'.bx i = some (w.heap.size, 0) ∧ Ev g w g' (w.alloc (.map #[] 0)) ∧ RelM F g' ((i, .m []) :: mem) (w.alloc (.map #[] 0)) ∧ Kept F g' (w.alloc (.map #[] 0)) := by
 have hbi : (g.newB i w.heap.size 0).bx i = some (w.heap.size, 0) := by simp [Gh.newB]
 refine ⟨_, hbi, h.newB hk hi (.m hbi ⟨⟨#[], ?_, rfl, fun j e he => by simp at he, fun j k v e hj => by simp at hj⟩, fun o hs => ?_⟩) fun b o' ⟨off, hp⟩ => by rw [hbi] at hp; cases hp; rfl⟩
 ·exact heap_alloc_at w _
 ·have := hs.2 rfl
  omega
theorem RelM.setMap (h : RelM F g mem w) (hk : Kept F g w) {i b off : Nat} {es es' : List (Value × V)} {en' : Array MapEntry} (hi : aget mem i = some (.m es)) (hb : g.bx i = some (b, off)) (hM : MapAt g w b es) (hs : en'.size = es'.length) (hborn : ∀ (j : Nat) e, en'[j]? = some e → e.born = j)
  (hrep : ∀ (j : Nat) k v e, es'[j]? = some (k, v) → en'[j]? = some e → e.key = k ∧ Rep w g.bare v e.val) :
  Ev g w g { w with heap := w.heap.setIfInBounds b (.map en' en'.size) } ∧ RelM F g ((i, .m es') :: mem) { w with heap := w.heap.setIfInBounds b (.map en' en'.size) } ∧ Kept F g { w with heap := w.heap.setIfInBounds b (.map en' en'.size) } := by
 obtain ⟨en, q1, _⟩ := hM.own
 have hlt : b < w.heap.size := (Array.getElem?_eq_some_iff.1 q1).1
 refine h.setO hk hi (fun b o => Iff.rfl) hb hM.free rfl rfl rfl rfl (fun he => .m hb ⟨⟨en', ?_, hs, hborn, fun j k v e h1 h2 => ⟨(hrep j k v e h1 h2).1, (hrep j k v e h1 h2).2.mono he.bare⟩⟩, hM.free⟩) (fun b o hp => hp)
 show (w.heap.setIfInBounds b (.map en' en'.size))[b]? = _
 rw [Array.getElem?_setIfInBounds_self_of_lt hlt]
end
section
variable {P : Program} {o : Oper} {env : Env} {v : V}
theorem Does.makeMap {T : Nat} (i : Nat) (ho : o.op = .makeMap T none) : Does P o env (.mp i) [(i, none, some (.m []))] := by
 refine ⟨fun F g a w mem _ h2 h3 h4 _ K Q hK => ?_⟩
 obtain ⟨g', k1, k2, k3, k4⟩ := h2.newMap h3 (i := i) (h4 _ _ _ mem_one)
 unfold Oper.wp
 have hrun : (execOp a.eval o).run P w = .ok (.value (.map (some w.heap.size))) (w.alloc (.map #[] 0)) := by
  simp [execOp, ho, Instr.makeMap]
 rw [hrun]
 exact hK _ g' _ k2 k3 k4 (.mp k1)
theorem Does.mapEntryNew {T i kt e : Nat} {x ix : Operand} {u : V} {kv zv : Value} {es : List (Value × V)} (hu : P.underlying T = some (.map kt e)) (K : Maps.Keyed P kt) {l : Lit} (hk : keyOf P kt kv = some l) (hks : ∀ p ∈ es, ∃ l, keyOf P kt p.1 = some l)
  (ho : o.op = .mapEntry T x ix) (hx : evo env x = some (.mp i)) (hi : evo env ix = some u) (hex : ∀ w g v, Rep w g u v → v = kv) (hz : ∀ w, (zeroValue e).run P w = .ok zv w)
  (hno : ∀ p ∈ es, p.1 ≠ kv) : Does P o env (.t [.k zv, .k (.int .i64 ((es.length : Nat) : Int))]) [(i, some (.m es), some (.m (es ++ [(kv, .k zv)])))] := by
 refine ⟨fun F g a w mem h1 h2 h3 h4 _ K' Q hK => ?_⟩
 have hm := h4 _ _ _ mem_one
 obtain ⟨b, off, hg, hM⟩ := h2.map hm
 obtain ⟨en, q1, q2, q3, q4⟩ := hM.own
 have r1 := h1 x (by simp [ho, Op.operands]) _ hx
 have r2 := hex _ _ _ (h1 ix (by simp [ho, Op.operands]) _ hi)
 generalize hy1 : a.eval x = m at r1
 obtain rfl : m = .map (some b) := by
  cases r1 with
  | mp h => rw [hg] at h; cases h; rfl
 have hkeys : ∀ z ∈ en.toList, (∃ l, keyOf P kt z.key = some l) ∧ z.key ≠ kv := fun z hz' => by
  obtain ⟨j, hj⟩ := List.mem_iff_getElem?.1 hz'
  have hj' : en[j]? = some z := by simpa using hj
  have hlt : j < es.length := by have := (Array.getElem?_eq_some_iff.1 hj').1; omega
  have := q4 j _ _ z (List.getElem?_eq_getElem hlt) hj'
  rw [this.1]
  exact ⟨hks _ (List.getElem_mem hlt), hno _ (List.getElem_mem hlt)⟩
 rcases K.find w hk en.toList (fun z hz' => (hkeys z hz').1) with ⟨p1, p2⟩ | ⟨j, z, p1, p2, p3⟩
 ·have hsz : (en.push { key := kv, val := zv, born := en.size }).size = en.size + 1 := by simp
  obtain ⟨k1, k2, k3⟩ := h2.setMap h3 (es' := es ++ [(kv, .k zv)]) (en' := en.push { key := kv, val := zv, born := en.size }) hm hg hM (by simp [q2]) (fun j z hj => by
   rw [Array.getElem?_push] at hj
   split at hj
   ·cases hj; simp; omega
   ·exact q3 j z hj) (fun j k v z h1 h2 => by
   rw [Array.getElem?_push] at h2
   split at h2
   ·rename_i e1
    cases h2
    rw [e1, q2, List.getElem?_append_right (Nat.le_refl _)] at h1
    simp at h1
    obtain ⟨rfl, rfl⟩ := h1
    exact ⟨rfl, .k _⟩
   ·have hlt := (Array.getElem?_eq_some_iff.1 h2).1
    rw [List.getElem?_append_left (by omega)] at h1
    exact q4 j k v z h1 h2)
  unfold Oper.wp
  have hrun : (execOp a.eval o).run P w = .ok (.value (.tuple #[zv, .int .i64 ((en.size : Nat) : Int)])) { w with heap := w.heap.setIfInBounds b (.map (en.push { key := kv, val := zv, born := en.size }) (en.push { key := kv, val := zv, born := en.size }).size) } := by
   rw [hsz]
   simp [execOp, ho, hy1, r2, Instr.mapEntry, run_underlying hu, MapKept.run_getObj_map q1, K.check w _ hk, p1, hz w, Result.andThen, MapKept.run_setObj_map _ q1, goInt]
  rw [hrun]
  refine hK _ g _ k1 k2 k3 (.t rfl fun j v y hj hv => ?_)
  match j with
  | 0 => simp at hj hv; subst hj; subst hv; exact .k _
  | 1 => simp at hj hv; subst hj; subst hv; rw [q2]; exact .k _
  | j + 2 => simp at hj
 ·exact absurd p3 (hkeys z (List.mem_of_getElem? p2)).2
theorem Does.entryStore {T i s : Nat} {x st y : Operand} {z : Int} {vv : Value} {es : List (Value × V)} {kv : Value} {v0 : V} (ho : o.op = .entryStore T x st y) (hx : evo env x = some (.mp i)) (hs : evo env st = some (.k (.int .i64 z))) (hz : z = ((s : Nat) : Int)) (hy : evo env y = some (.k vv))
  (hp : es[s]? = some (kv, v0)) : Does P o env (.k undef) [(i, some (.m es), some (.m (es.set s (kv, .k vv))))] := by
 subst hz
 refine ⟨fun F g a w mem h1 h2 h3 h4 _ K' Q hK => ?_⟩
 have hm := h4 _ _ _ mem_one
 obtain ⟨b, off, hg, hM⟩ := h2.map hm
 obtain ⟨en, q1, q2, q3, q4⟩ := hM.own
 have r1 := h1 x (by simp [ho, Op.operands]) _ hx
 have r2 := rep_k (h1 st (by simp [ho, Op.operands]) _ hs)
 have r3 := rep_k (h1 y (by simp [ho, Op.operands]) _ hy)
 generalize hy1 : a.eval x = m at r1
 obtain rfl : m = .map (some b) := by
  cases r1 with
  | mp h => rw [hg] at h; cases h; rfl
 have hlt : s < en.size := by have := (List.getElem?_eq_some_iff.1 hp).1; omega
 have hat : en[s]? = some en[s] := Array.getElem?_eq_getElem hlt
 have hfind : en.findIdx? (fun e => (e.born : Int) == ((s : Nat) : Int)) = some s := by
  rw [Array.findIdx?_eq_some_iff_getElem]
  refine ⟨hlt, by have := q3 s _ hat; simp [this], fun j hj => ?_⟩
  have := q3 j _ (Array.getElem?_eq_getElem (by omega))
  simp [this]
  omega
 have hsz : (en.modify s fun e => { e with val := vv }).size = en.size := by simp
 obtain ⟨k1, k2, k3⟩ := h2.setMap h3 (es' := es.set s (kv, .k vv)) (en' := en.modify s fun e => { e with val := vv }) hm hg hM (by rw [hsz, q2]; simp) (fun k z' hz' => by
  rw [Array.getElem?_modify] at hz'
  split at hz'
  ·rename_i e1
   subst e1
   rw [hat] at hz'
   simp at hz'
   subst hz'
   have hb := q3 s _ hat
   exact hb
  ·exact q3 k z' hz') (fun k k' v z' h1 h2 => by
  rw [Array.getElem?_modify] at h2
  rw [List.getElem?_set] at h1
  split at h2
  ·rename_i e1
   subst e1
   rw [hat] at h2
   simp at h2
   subst h2
   rw [if_pos rfl, if_pos (by omega)] at h1
   cases h1
   exact ⟨(q4 s _ _ _ hp hat).1, .k _⟩
  ·rename_i e1
   rw [if_neg (fun e => e1 e)] at h1
   exact q4 k k' v z' h1 h2)
 unfold Oper.wp
 have hrun : (execOp a.eval o).run P w = .ok .skip { w with heap := w.heap.setIfInBounds b (.map (en.modify s fun e => { e with val := vv }) (en.modify s fun e => { e with val := vv }).size) } := by
  rw [hsz]
  simp [execOp, ho, hy1, r2, r3, Instr.entryStore, asInt, asIntOf, MapKept.run_getObj_map q1, hfind, Result.andThen, MapKept.run_setObj_map _ q1]
 rw [hrun]
 exact hK _ g _ k1 k2 k3 (.k _)
end
end Lf
open Go.RowKit Rg
namespace Lf
structure MapTy (P : Program) (T kt : Nat) (zv : Value) : Prop where
 ex : ∃ e, P.underlying T = some (.map kt e) ∧ ∀ w, (zeroValue e).run P w = .ok zv w
 K : Maps.Keyed P kt
structure KeyV (P : Program) (kt : Nat) (u : V) (kv : Value) : Prop where
 k : ∃ l, keyOf P kt kv = some l
 ex : ∀ w g v, Rep w g u v → v = kv
structure KeysV (P : Program) (kt : Nat) (es : List (Value × V)) : Prop where
 all : ∀ p ∈ es, ∃ l, keyOf P kt p.1 = some l
structure MNo (es : List (Value × V)) (kv : Value) : Prop where
 no : ∀ p ∈ es, p.1 ≠ kv
structure MSet (es : List (Value × V)) (s : Nat) (y : V) (es' : List (Value × V)) : Prop where
 has : ∃ kv v0, es[s]? = some (kv, v0) ∧ es' = es.set s (kv, y)
section
variable {P : Program} {o : Oper} {env : Env}
theorem Does.entN {T i kt n : Nat} {x ix : Operand} {u : V} {kv zv : Value} {es : List (Value × V)} (M : MapTy P T kt zv) (hkey : KeyV P kt u kv) (hks : KeysV P kt es)
  (ho : o.op = .mapEntry T x ix) (hx : evo env x = some (.mp i)) (hi : evo env ix = some u) (hno : MNo es kv) (hn : es.length = n) : Does P o env (.t [.k zv, .k (.int .i64 ((n : Nat) : Int))]) [(i, some (.m es), some (.m (es ++ [(kv, .k zv)])))] := by
 obtain ⟨e, hu, hzv⟩ := M.ex
 obtain ⟨l, hk⟩ := hkey.k
 subst hn
 exact Does.mapEntryNew hu M.K hk hks.all ho hx hi hkey.ex hzv hno.no
theorem Does.entS {T i s : Nat} {x st y : Operand} {z : Int} {vv : Value} {es es' : List (Value × V)} (ho : o.op = .entryStore T x st y) (hx : evo env x = some (.mp i)) (hs : evo env st = some (.k (.int .i64 z))) (hz : z = ((s : Nat) : Int)) (hy : evo env y = some (.k vv))
  (hset : MSet es s (.k vv) es') : Does P o env (.k undef) [(i, some (.m es), some (.m es'))] := by
 obtain ⟨kv, v0, h1, h2⟩ := hset.has
 subst h2
 exact Does.entryStore ho hx hs hz hy h1
end
section
variable {P : Program} {F : Fr0} {N : Nat} {ops : Array Oper} {chk : List (Nat × Tch) → Bool} {K : Env → Mem → Prop} {acc : List (Nat × Tch)} {env : Env} {mem : Mem} {i d : Nat} {o : Oper} {rs : List (Nat × Oper)}
theorem DR.en {j T kt n : Nat} {x ix : Operand} {u : V} {kv zv : Value} {es : List (Value × V)} (hg : gd ops env o = some true) (hds : o.dst = some d) (ho : o.op = .mapEntry T x ix) (hx : evo env x = some (.mp j)) (hi : evo env ix = some u) (hm : aget mem j = some (.m es))
  (M : MapTy P T kt zv) (hkey : KeyV P kt u kv) (hks : KeysV P kt es) (hno : MNo es kv) (hn : es.length = n) (hd : Nat.blt d N = true) (hK : DR P F N ops chk K rs ((i, [(j, some (.m es), some (.m (es ++ [(kv, .k zv)])))]) :: acc) ((d, .t [.k zv, .k (.int .i64 ((n : Nat) : Int))]) :: env) ((j, .m (es ++ [(kv, .k zv)])) :: mem)) : DR P F N ops chk K ((i, o) :: rs) acc env mem :=
 DR.ww hg hds (Does.entN M hkey hks ho hx hi hno hn) hm hd hK
theorem DR.es {j T s : Nat} {x st y : Operand} {z : Int} {vv : Value} {es es' : List (Value × V)} (hg : gd ops env o = some true) (hds : o.dst = none) (ho : o.op = .entryStore T x st y) (hx : evo env x = some (.mp j)) (hs : evo env st = some (.k (.int .i64 z))) (hz : z = ((s : Nat) : Int)) (hy : evo env y = some (.k vv))
  (hm : aget mem j = some (.m es)) (hset : MSet es s (.k vv) es') (hK : DR P F N ops chk K rs ((i, [(j, some (.m es), some (.m es'))]) :: acc) env ((j, .m es') :: mem)) : DR P F N ops chk K ((i, o) :: rs) acc env mem :=
 DR.ss hg hds (Does.entS ho hx hs hz hy hset) hm hK
end
end Lf
open Go.RowKit Rg
namespace Lf
structure MGetO (es : List (Value × V)) (kv : Value) (y0 y : V) (b : Bool) : Prop where
 no : (∀ p ∈ es, p.1 ≠ kv) → y = y0 ∧ b = false
 yes : ∀ p ∈ es, p.1 = kv → p.2 = y ∧ b = true
section
variable {P : Program} {o : Oper} {env : Env}
theorem Does.lookO {T i kt : Nat} {x ix : Operand} {u y0 y : V} {b : Bool} {kv zv : Value} {es : List (Value × V)} (M : MapTy P T kt zv) (hkey : KeyV P kt u kv) (hks : KeysV P kt es)
    (ho : o.op = .lookup T x ix true) (hx : evo env x = some (.mp i)) (hi : evo env ix = some u) (hz : ∀ w g, Rep w g y0 zv) (hget : MGetO es kv y0 y b) : Does P o env (.t [y, .k (.bool b)]) [(i, some (.m es), none)] :=
  .read fun F g a w mem h1 h2 hm => by
    obtain ⟨e, hu, hzv⟩ := M.ex
    obtain ⟨l, hk⟩ := hkey.k
    obtain ⟨bl, off, hg, hM⟩ := h2.map hm
    obtain ⟨en, q1, q2, q3, q4⟩ := hM.own
    have r1 := h1 x (by simp [ho, Op.operands]) _ hx
    have r2 := hkey.ex _ _ _ (h1 ix (by simp [ho, Op.operands]) _ hi)
    generalize hy1 : a.eval x = m at r1
    obtain rfl : m = .map (some bl) := by
      cases r1 with
      | mp h => rw [hg] at h; cases h; rfl
    have hkeys : ∀ z ∈ en.toList, ∃ l, keyOf P kt z.key = some l := fun z hz' => by
      obtain ⟨j, hj⟩ := List.mem_iff_getElem?.1 hz'
      have hj' : en[j]? = some z := by simpa using hj
      have hlt : j < es.length := by have := (Array.getElem?_eq_some_iff.1 hj').1; omega
      have := q4 j _ _ z (List.getElem?_eq_getElem hlt) hj'
      rw [this.1]
      exact hks.all _ (List.getElem_mem hlt)
    have hat : ∀ (j : Nat) z, en[j]? = some z → ∃ p ∈ es, z.key = p.1 ∧ Rep w g.bare p.2 z.val := fun j z hj' => by
      have hlt : j < es.length := by have := (Array.getElem?_eq_some_iff.1 hj').1; omega
      have := q4 j _ _ z (List.getElem?_eq_getElem hlt) hj'
      exact ⟨_, List.getElem_mem hlt, this⟩
    have tup : ∀ {yv : Value} {bv : Bool}, Rep w g y yv → Rep w g (.t [y, .k (.bool bv)]) (.tuple #[yv, .bool bv]) := fun h => .t rfl fun j v x hj hv => by
      match j with
      | 0 => simp at hj hv; subst hj; subst hv; exact h
      | 1 => simp at hj hv; subst hj; subst hv; exact .k _
      | j + 2 => simp at hj
    rcases M.K.find w hk en.toList hkeys with ⟨p1, p2⟩ | ⟨j, z, p1, p2, p3⟩
    · obtain ⟨hyz, hb⟩ := hget.no fun p hp e1 => by
        obtain ⟨j, hj⟩ := List.mem_iff_getElem?.1 hp
        have hlt : j < en.size := by have := (List.getElem?_eq_some_iff.1 hj).1; omega
        have := q4 j p.1 p.2 _ hj (Array.getElem?_eq_getElem hlt)
        exact p2 _ (Array.getElem_mem_toList hlt) (this.1.trans e1)
      subst hb
      refine ⟨.tuple #[zv, .bool false], ?_, tup (by rw [hyz]; exact hz _ _)⟩
      simp [execOp, ho, hy1, r2, Instr.lookup, run_underlying hu, MapKept.run_getObj_map q1, M.K.check w _ hk, p1, hzv w, Result.andThen]
    · obtain ⟨p, hp, e1, e2⟩ := hat j z (by simpa using p2)
      obtain ⟨hy, hb⟩ := hget.yes p hp (e1.symm.trans p3)
      rw [hy] at e2
      subst hb
      refine ⟨.tuple #[z.val, .bool true], ?_, tup e2.of_bare⟩
      simp [execOp, ho, hy1, r2, Instr.lookup, run_underlying hu, MapKept.run_getObj_map q1, M.K.check w _ hk, p1, Result.andThen]
theorem Does.setN {T i kt : Nat} {x ix y : Operand} {u v v' : V} {kv zv : Value} {es : List (Value × V)} (M : MapTy P T kt zv) (hkey : KeyV P kt u kv) (hks : KeysV P kt es)
  (ho : o.op = .mapUpdate T x ix y) (hx : evo env x = some (.mp i)) (hi : evo env ix = some u) (hy : evo env y = some v) (hb : v.bare = some v') (hno : MNo es kv) : Does P o env (.k undef) [(i, some (.m es), some (.m (es ++ [(kv, v')])))] := by
 refine ⟨fun F g a w mem h1 h2 h3 h4 _ K' Q hK => ?_⟩
 obtain ⟨e, hu, hzv⟩ := M.ex
 obtain ⟨l, hk⟩ := hkey.k
 have hm := h4 _ _ _ mem_one
 obtain ⟨b, off, hg, hM⟩ := h2.map hm
 obtain ⟨en, q1, q2, q3, q4⟩ := hM.own
 have r1 := h1 x (by simp [ho, Op.operands]) _ hx
 have r2 := hkey.ex _ _ _ (h1 ix (by simp [ho, Op.operands]) _ hi)
 have r3 := (h1 y (by simp [ho, Op.operands]) _ hy).to_bare hb
 generalize hy1 : a.eval x = m at r1
 obtain rfl : m = .map (some b) := by
  cases r1 with
  | mp h => rw [hg] at h; cases h; rfl
 have hkeys : ∀ z ∈ en.toList, (∃ l, keyOf P kt z.key = some l) ∧ z.key ≠ kv := fun z hz' => by
  obtain ⟨j, hj⟩ := List.mem_iff_getElem?.1 hz'
  have hj' : en[j]? = some z := by simpa using hj
  have hlt : j < es.length := by have := (Array.getElem?_eq_some_iff.1 hj').1; omega
  have := q4 j _ _ z (List.getElem?_eq_getElem hlt) hj'
  rw [this.1]
  exact ⟨hks.all _ (List.getElem_mem hlt), hno.no _ (List.getElem_mem hlt)⟩
 rcases M.K.find w hk en.toList (fun z hz' => (hkeys z hz').1) with ⟨p1, p2⟩ | ⟨j, z, p1, p2, p3⟩
 ·have hsz : (en.push { key := kv, val := a.eval y, born := en.size }).size = en.size + 1 := by simp
  obtain ⟨k1, k2, k3⟩ := h2.setMap h3 (es' := es ++ [(kv, v')]) (en' := en.push { key := kv, val := a.eval y, born := en.size }) hm hg hM (by simp [q2]) (fun j z hj => by
   rw [Array.getElem?_push] at hj
   split at hj
   ·cases hj; simp; omega
   ·exact q3 j z hj) (fun j k v z h1 h2 => by
   rw [Array.getElem?_push] at h2
   split at h2
   ·rename_i e1
    cases h2
    rw [e1, q2, List.getElem?_append_right (Nat.le_refl _)] at h1
    simp at h1
    obtain ⟨rfl, rfl⟩ := h1
    exact ⟨rfl, r3⟩
   ·have hlt := (Array.getElem?_eq_some_iff.1 h2).1
    rw [List.getElem?_append_left (by omega)] at h1
    exact q4 j k v z h1 h2)
  unfold Oper.wp
  have hrun : (execOp a.eval o).run P w = .ok .skip { w with heap := w.heap.setIfInBounds b (.map (en.push { key := kv, val := a.eval y, born := en.size }) (en.push { key := kv, val := a.eval y, born := en.size }).size) } := by
   rw [hsz]
   simp [execOp, ho, hy1, r2, Instr.mapUpdate, run_underlying hu, MapKept.run_getObj_map q1, M.K.check w _ hk, p1, Result.andThen, MapKept.run_setObj_map _ q1]
  rw [hrun]
  exact hK _ g _ k1 k2 k3 (.k _)
 ·exact absurd p3 (hkeys z (List.mem_of_getElem? p2)).2
end
section
variable {P : Program} {F : Fr0} {N : Nat} {ops : Array Oper} {chk : List (Nat × Tch) → Bool} {K : Env → Mem → Prop} {acc : List (Nat × Tch)} {env : Env} {mem : Mem} {i d : Nat} {o : Oper} {rs : List (Nat × Oper)}
theorem DR.lo {j T kt : Nat} {x ix : Operand} {u y0 y : V} {b : Bool} {kv zv : Value} {es : List (Value × V)} (hg : gd ops env o = some true) (hds : o.dst = some d) (ho : o.op = .lookup T x ix true) (hx : evo env x = some (.mp j)) (hi : evo env ix = some u) (hm : aget mem j = some (.m es))
  (M : MapTy P T kt zv) (hkey : KeyV P kt u kv) (hks : KeysV P kt es) (hget : MGetO es kv y0 y b) (hz : ∀ w g, Rep w g y0 zv) (hd : Nat.blt d N = true) (hK : DR P F N ops chk K rs ((i, [(j, some (.m es), none)]) :: acc) ((d, .t [y, .k (.bool b)]) :: env) mem) : DR P F N ops chk K ((i, o) :: rs) acc env mem :=
 DR.rr hg hds (Does.lookO M hkey hks ho hx hi hz hget) hm hd hK
theorem DR.sn {j T kt : Nat} {x ix y : Operand} {u v v' : V} {kv zv : Value} {es es' : List (Value × V)} (hg : gd ops env o = some true) (hds : o.dst = none) (ho : o.op = .mapUpdate T x ix y) (hx : evo env x = some (.mp j)) (hi : evo env ix = some u) (hy : evo env y = some v) (hm : aget mem j = some (.m es))
  (M : MapTy P T kt zv) (hkey : KeyV P kt u kv) (hks : KeysV P kt es) (hno : MNo es kv) (hb : v.bare = some v') (hes : es ++ [(kv, v')] = es') (hK : DR P F N ops chk K rs ((i, [(j, some (.m es), some (.m es'))]) :: acc) env ((j, .m es') :: mem)) : DR P F N ops chk K ((i, o) :: rs) acc env mem := by
 subst hes
 exact DR.ss hg hds (Does.setN M hkey hks ho hx hi hy hb hno) hm hK
end
end Lf
set_option linter.unusedVariables false
open Go.RowKit Rg
set_option maxRecDepth 100000
namespace Lf
theorem BufAt.take {g : Gh} {w : World} {a : Option Nat} {E sz c : Nat} {es : List V} (h : BufAt g w a E sz es c) {m : Nat} (hm : m ≤ es.length) : BufAt g w a E sz (es.take m) c := by
 obtain ⟨p, hc, ⟨xs, ho, hr⟩, hf⟩ := h
 have hl : (es.take m).length = m := by rw [List.length_take]; omega
 have hms : m * sz ≤ es.length * sz := Nat.mul_le_mul_right _ hm
 refine ⟨p, fun e he => hc e (List.mem_of_mem_take he), ⟨xs.take (m * sz), ⟨?_, ?_⟩, fun j u x hj hx => ?_⟩, hf⟩
 ·rw [List.length_take, ho.1, hl]; omega
 ·rw [hl]
  rcases ho.2 with ⟨e, hn⟩ | ⟨g0, cap, cur, fz, e, k1, k2, k3, k4, k5, k6, k7⟩
  ·left
   have h0 : m = 0 := by omega
   subst h0
   rw [hn] at e
   exact ⟨e, rfl⟩
  ·right
   injection e with e1 e2 e3
   refine ⟨g0, cap, cur, fz, by rw [e1, e3], k1, k2, by omega, k4, k5, ?_, k7⟩
   rw [← k6, List.take_take, Nat.min_eq_left hms]
 ·refine hr j u x ?_ ?_
  ·have e : es.flatMap V.cells = (es.take m).flatMap V.cells ++ (es.drop m).flatMap V.cells := by rw [← List.flatMap_append, List.take_append_drop]
   rw [e, List.getElem?_append_left (List.getElem?_eq_some_iff.1 hj).1]
   exact hj
  ·rw [List.getElem?_take] at hx
   split at hx
   ·exact hx
   ·cases hx
section
variable {P : Program} {F : Fr0} {N : Nat} {Q : LQ} {env : Env} {mem : Mem}
theorem RelM.shrink {g : Gh} {w : World} {r E sz gen m : Nat} {es : List V} (h : RelM F g mem w) (hr : aget mem r = some (.w E sz gen es)) (hm : m ≤ es.length) : RelM F g ((r, .w E sz gen (es.take m)) :: mem) w := by
 have old : ∀ {i : Nat} {z : M}, aget ((r, M.w E sz gen (es.take m)) :: mem) i = some z → ∃ z', aget mem i = some z' ∧ ∀ b o, fp g i z b o → fp g i z' b o := fun {i z} hi => by
  rw [aget_cons] at hi
  split at hi
  ·rename_i e; subst e; cases hi
   exact ⟨_, hr, fun b o hf => hf⟩
  ·exact ⟨_, hi, fun _ _ hf => hf⟩
 have non : ∀ i, aget ((r, M.w E sz gen (es.take m)) :: mem) i = none → aget mem i = none := fun i hi => by
  rw [aget_cons] at hi
  split at hi
  ·cases hi
  ·exact hi
 refine ⟨fun i z hi => ?_, fun i z b o hi hf => ?_, fun i j z z' b o hij hi hj hf hf' => ?_, fun i hi => h.nbx i (non i hi), fun i hi => h.nrw i (non i hi), h.fut, h.loc⟩
 ·rw [aget_cons] at hi
  split at hi
  ·rename_i e; subst e; cases hi
   have hko := h.ob _ _ hr
   cases hko with
   | @w _ _ _ c _ a hg hB => exact .w hg (hB.take hm)
  ·exact h.ob i z hi
 ·obtain ⟨y, h1, h2⟩ := old hi
  exact h.wr i y b o h1 (h2 b o hf)
 ·obtain ⟨y, h1, h2⟩ := old hi
  obtain ⟨y', h1', h2'⟩ := old hj
  exact h.dj i j y y' b o hij h1 h1' (h2 b o hf) (h2' b o hf')
theorem LC.shrink {c : Code} {es es' : List V} {gen E sz : Nat} (r m : Nat) (hr : aget mem r = some (.w E sz gen es)) (hm : m ≤ es.length) (he : es.take m = es') (h : LC P F N c Q env ((r, .w E sz gen es') :: mem)) : LC P F N c Q env mem := ⟨fun F0 hx g a w hrel => by
 subst he
 exact h.go F0 hx g a w ⟨hrel.env, hrel.mem.shrink hr hm, hrel.kept, hrel.defers, hrel.size, hrel.big⟩⟩
structure ShrAt (i j r : Nat) : Prop where
 on : True
theorem LC.shrR {i j r E sz gen n : Nat} {cs es es' : List V} (_h : ShrAt i j r) (hi : aget mem i = some (.b cs)) (hj : cs[j]? = some (.w r gen sz 0 n)) (hr : aget mem r = some (.w E sz gen es)) (hn : n < es.length) (he : es.take n = es') (h : LC P F N .ret Q env ((r, .w E sz gen es') :: mem)) : LC P F N .ret Q env mem :=
 LC.shrink r n hr (Nat.le_of_lt hn) he h
end
structure StopAt (id : Nat) : Prop where
 on : True
structure Stp (p : Prop) : Prop where
 go : p
theorem LC.stop {P : Program} {F : Fr0} {N : Nat} {Q : LQ} {env : Env} {mem : Mem} {id : Nat} {ops : Array Oper} {d : Bool} (_h : StopAt id) (h : Stp (LC P F N (.region id ops d) Q env mem)) : LC P F N (.region id ops d) Q env mem := h.go
end Lf
open Go.RowKit Rg
namespace Lf
def Exact (v : V) (x : Value) : Prop := (∀ w g, Rep w g v x) ∧ ∀ w g y, Rep w g v y → y = x
theorem exact_k (x : Value) : Exact (.k x) x := ⟨fun _ _ => .k x, fun _ _ _ h => rep_k h⟩
theorem exact_pair {a b : V} {x y : Value} (ha : Exact a x) (hb : Exact b y) : Exact (.t [a, b]) (.tuple #[x, y]) := by
 refine ⟨fun w g => .t rfl (fun j u z hj hz => ?_), fun w g z h => ?_⟩
 ·match j with
  | 0 => simp at hj hz; subst hj; subst hz; exact ha.1 w g
  | 1 => simp at hj hz; subst hj; subst hz; exact hb.1 w g
  | j + 2 => simp at hj
 ·cases h with
  | @t _ _ vs hl hc =>
   have hs : vs.size = 2 := by simpa using hl.symm
   congr 1
   apply Array.ext
   ·simpa using hs
   ·intro i h1 h2
    have hv : vs[i]? = some vs[i] := Array.getElem?_eq_getElem h1
    match i with
    | 0 => exact ha.2 w g _ (hc 0 _ _ rfl hv)
    | 1 => exact hb.2 w g _ (hc 1 _ _ rfl hv)
    | i + 2 => omega
theorem args_exact {args : List V} {xs : List Value} (h : args.length = xs.length) (he : ∀ (j : Nat) u x, args[j]? = some u → xs[j]? = some x → Exact u x) {w : World} {g : Gh} {vals : Array Value} (hl : args.length = vals.size) (hr : ∀ (j : Nat) u x, args[j]? = some u → vals[j]? = some x → Rep w g u x) : vals = xs.toArray := by
 apply Array.ext
 ·simp; omega
 ·intro i h1 h2
  have hv : vals[i]? = some vals[i] := Array.getElem?_eq_getElem h1
  have ha : args[i]? = some args[i] := List.getElem?_eq_getElem (by omega)
  have hx : xs[i]? = some xs[i] := List.getElem?_eq_getElem (by simpa using h2)
  have := (he i _ _ ha hx).2 w g _ (hr i _ _ ha hv)
  rw [this]; rfl
theorem LF.of_calls {P : Program} {f : Nat} {args : List V} {xs : List Value} {out : V} {y : Value} (hok : callOk P f = true) (h : args.length = xs.length) (he : ∀ (j : Nat) u x, args[j]? = some u → xs[j]? = some x → Exact u x) (ho : Exact out y)
  (hc : ∀ w, Calls P f xs.toArray w fun e w' => e = .returned y ∧ Ext w w') : LF P f args (fun _ => out) none := by
 refine ⟨hok, fun g w vals hm hl hr => ?_⟩
 rw [args_exact h he hl hr]
 refine (hc w).mono fun e w' ⟨he, hx⟩ => ⟨.ret out, [], g, ⟨rfl, rfl⟩, ?_⟩
 obtain ⟨k1, k2, k3⟩ := hm.ext (g' := g) ⟨rfl, rfl, rfl, Nat.le_refl _, fun _ _ _ => rfl, fun _ _ _ _ => ⟨rfl, rfl⟩, fun _ _ _ _ h => h, fun _ _ _ h => h, fun _ _ _ _ => rfl⟩ hx (fun _ _ _ => Iff.rfl) rfl rfl (fun b o hb => hm.fut b o (Nat.le_trans hx.size hb))
 exact ⟨k1, k2, k3, y, he, ho.1 _ _⟩
theorem ex1 {a : V} {x : Value} (ha : Exact a x) : ∀ (j : Nat) u y, [a][j]? = some u → [x][j]? = some y → Exact u y := fun j u y hj hy => by
 match j with
 | 0 => simp at hj hy; subst hj; subst hy; exact ha
 | j + 1 => simp at hj
theorem ex2 {a b : V} {x y : Value} (ha : Exact a x) (hb : Exact b y) : ∀ (j : Nat) u z, [a, b][j]? = some u → [x, y][j]? = some z → Exact u z := fun j u z hj hz => by
 match j with
 | 0 => simp at hj hz; subst hj; subst hz; exact ha
 | 1 => simp at hj hz; subst hj; subst hz; exact hb
 | j + 2 => simp at hj
theorem ex3 {a b c : V} {x y z : Value} (ha : Exact a x) (hb : Exact b y) (hc : Exact c z) : ∀ (j : Nat) u t, [a, b, c][j]? = some u → [x, y, z][j]? = some t → Exact u t := fun j u t hj hz => by
 match j with
 | 0 => simp at hj hz; subst hj; subst hz; exact ha
 | 1 => simp at hj hz; subst hj; subst hz; exact hb
 | 2 => simp at hj hz; subst hj; subst hz; exact hc
 | j + 3 => simp at hj
def allS : Gh := ⟨fun _ _ => True, fun _ => none, fun _ => none⟩
theorem LF.truth {P : Program} {f : Nat} {args : List V} (h : LF P f args (fun _ => .k (.bool true)) none) (W : World) (vals : Array Value) (ht : TabAt W fun _ _ => True) (hl : args.length = vals.size) (hr : ∀ (j : Nat) u x, args[j]? = some u → vals[j]? = some x → Rep W allS u x) :
  Calls P f vals W fun e W' => e = .returned (.bool true) ∧ Ext W W' := by
 refine (h.go allS W vals ⟨fun _ _ h => (by cases h), fun _ _ _ _ h => (by cases h), fun _ _ _ _ _ _ _ h => (by cases h), fun _ _ => rfl, fun _ _ => rfl, fun _ _ _ => trivial, ⟨ht, fun _ _ h => h, fun _ a l c h => ⟨a, l, c, h, Nat.le_refl _, fun _ => ⟨rfl, rfl⟩⟩⟩⟩ hl hr).mono ?_
 rintro e w' ⟨o, mo, g', ⟨rfl, rfl⟩, _, _, hk, x, rfl, hrep⟩
 rw [rep_k hrep]
 exact ⟨rfl, hk.os, hk.tape, hk.output, hk.size, fun b hb => hk.blk b hb fun o ⟨i, m, h, _⟩ => by cases h⟩
def RepAll (W : World) (g : Gh) : List V → List Value → Prop
 | [], [] => True
 | u :: us, x :: xs => Rep W g u x ∧ RepAll W g us xs
 | _, _ => False
theorem RepAll.spec {W : World} {g : Gh} : ∀ {us : List V} {xs : List Value}, RepAll W g us xs → us.length = xs.length ∧ ∀ (j : Nat) u x, us[j]? = some u → xs[j]? = some x → Rep W g u x
 | [], [], _ => ⟨rfl, fun j u x h => by simp at h⟩
 | u :: us, x :: xs, h => by
  obtain ⟨h1, h2⟩ := RepAll.spec h.2
  refine ⟨by simp [h1], fun j a b ha hb => ?_⟩
  cases j with
  | zero => simp at ha hb; subst ha; subst hb; exact h.1
  | succ j => simp at ha hb; exact h2 j a b ha hb
 | [], _ :: _, h => h.elim
 | _ :: _, [], h => h.elim
theorem LF.holds {P : Program} {f : Nat} {args : List V} (h : LF P f args (fun _ => .k (.bool true)) none) (W : World) (xs : List Value) (hr : RepAll W allS args xs) (ht : TabAt W fun _ _ => True := by exact fun _ _ h => absurd h List.not_mem_nil) : Calls P f xs.toArray W fun e W' => e = .returned (.bool true) ∧ Ext W W' :=
 LF.truth h W xs.toArray ht (by simpa using hr.spec.1) fun j u x hu hx => hr.spec.2 j u x hu (by simpa using hx)
end Lf
namespace Lf
set_option maxRecDepth 20000 in
def tab : Tab := [
 (1, ⟨.fn, 1, 8, [.fn]⟩),
 (2, ⟨.int .i64, 1, 8, [.int .i64]⟩),
 (3, ⟨.int .i64, 1, 8, [.int .i64]⟩),
 (4, ⟨.bool, 1, 1, [.bool]⟩),
 (5, ⟨.int .u8, 1, 1, [.int .u8]⟩),
 (6, ⟨.int .u8, 1, 1, [.int .u8]⟩),
 (7, ⟨.st [(0, 2), (1, 3), (2, 4), (3, 6)], 4, 24, [.int .i64, .int .i64, .bool, .int .u8]⟩),
 (8, ⟨.st [(0, 2), (1, 3), (2, 4), (3, 6)], 4, 24, [.int .i64, .int .i64, .bool, .int .u8]⟩),
 (9, ⟨.str, 1, 16, [.str]⟩),
 (10, ⟨.str, 1, 16, [.str]⟩),
 (11, ⟨.str, 1, 16, [.str]⟩),
 (12, ⟨.int .u64, 1, 8, [.int .u64]⟩),
 (13, ⟨.st [(0, 9), (1, 12)], 2, 24, [.str, .int .u64]⟩),
 (14, ⟨.st [(0, 9), (1, 12)], 2, 24, [.str, .int .u64]⟩),
 (15, ⟨.ptr 148, 1, 8, [.ptr]⟩),
 (16, ⟨.ptr 151, 1, 8, [.ptr]⟩),
 (17, ⟨.ptr 159, 1, 8, [.ptr]⟩),
 (18, ⟨.st [(0, 17)], 1, 8, [.ptr]⟩),
 (19, ⟨.st [(0, 17)], 1, 8, [.ptr]⟩),
 (20, ⟨.ifc, 1, 16, [.ifc]⟩),
 (21, ⟨.int .i32, 1, 4, [.int .i32]⟩),
 (22, ⟨.sl 5, 1, 24, [.sl]⟩),
 (23, ⟨.int .u64, 1, 8, [.int .u64]⟩),
 (24, ⟨.fn, 1, 8, [.fn]⟩),
 (25, ⟨.int .i64, 1, 8, [.int .i64]⟩),
 (26, ⟨.st [(0, 25), (1, 23), (2, 22)], 3, 40, [.int .i64, .int .u64, .sl]⟩),
 (27, ⟨.st [(0, 25), (1, 23), (2, 22)], 3, 40, [.int .i64, .int .u64, .sl]⟩),
 (28, ⟨.fn, 1, 8, [.fn]⟩),
 (29, ⟨.fn, 1, 8, [.fn]⟩),
 (30, ⟨.int .u16, 1, 2, [.int .u16]⟩),
 (31, ⟨.int .u64, 1, 8, [.int .u64]⟩),
 (32, ⟨.sl 3, 1, 24, [.sl]⟩),
 (33, ⟨.fn, 1, 8, [.fn]⟩),
 (34, ⟨.fn, 1, 8, [.fn]⟩),
 (35, ⟨.arr 4 23, 4, 32, [.int .u64, .int .u64, .int .u64, .int .u64]⟩),
 (36, ⟨.arr 4 23, 4, 32, [.int .u64, .int .u64, .int .u64, .int .u64]⟩),
 (37, ⟨.arr 32 5, 32, 32, [.int .u8, .int .u8, .int .u8, .int .u8, .int .u8, .int .u8, .int .u8, .int .u8, .int .u8, .int .u8, .int .u8, .int .u8, .int .u8, .int .u8, .int .u8, .int .u8, .int .u8, .int .u8, .int .u8, .int .u8, .int .u8, .int .u8, .int .u8, .int .u8, .int .u8, .int .u8, .int .u8, .int .u8, .int .u8, .int .u8, .int .u8, .int .u8]⟩),
 (38, ⟨.arr 32 5, 32, 32, [.int .u8, .int .u8, .int .u8, .int .u8, .int .u8, .int .u8, .int .u8, .int .u8, .int .u8, .int .u8, .int .u8, .int .u8, .int .u8, .int .u8, .int .u8, .int .u8, .int .u8, .int .u8, .int .u8, .int .u8, .int .u8, .int .u8, .int .u8, .int .u8, .int .u8, .int .u8, .int .u8, .int .u8, .int .u8, .int .u8, .int .u8, .int .u8]⟩),
 (39, ⟨.fn, 1, 8, [.fn]⟩),
 (40, ⟨.fn, 1, 8, [.fn]⟩),
 (42, ⟨.fn, 1, 8, [.fn]⟩),
 (43, ⟨.fn, 1, 8, [.fn]⟩),
 (44, ⟨.fn, 1, 8, [.fn]⟩),
 (45, ⟨.fn, 1, 8, [.fn]⟩),
 (46, ⟨.fn, 1, 8, [.fn]⟩),
 (48, ⟨.fn, 1, 8, [.fn]⟩),
 (49, ⟨.fn, 1, 8, [.fn]⟩),
 (50, ⟨.fn, 1, 8, [.fn]⟩),
 (51, ⟨.fn, 1, 8, [.fn]⟩),
 (52, ⟨.fn, 1, 8, [.fn]⟩),
 (53, ⟨.fn, 1, 8, [.fn]⟩),
 (54, ⟨.fn, 1, 8, [.fn]⟩),
 (55, ⟨.ptr 61, 1, 8, [.ptr]⟩),
 (56, ⟨.st [(0, 22)], 1, 24, [.sl]⟩),
 (57, ⟨.st [(0, 22)], 1, 24, [.sl]⟩),
 (58, ⟨.sl 36, 1, 24, [.sl]⟩),
 (59, ⟨.map 3 63, 1, 8, [.map]⟩),
 (60, ⟨.st [(0, 22), (1, 22), (2, 23), (3, 57), (4, 58), (5, 59), (6, 3), (7, 22)], 8, 144, [.sl, .sl, .int .u64, .sl, .sl, .map, .int .i64, .sl]⟩),
 (61, ⟨.st [(0, 22), (1, 22), (2, 23), (3, 57), (4, 58), (5, 59), (6, 3), (7, 22)], 8, 144, [.sl, .sl, .int .u64, .sl, .sl, .map, .int .i64, .sl]⟩),
 (62, ⟨.fn, 1, 8, [.fn]⟩),
 (63, ⟨.st [], 0, 0, []⟩),
 (64, ⟨.st [], 0, 0, []⟩),
 (65, ⟨.fn, 1, 8, [.fn]⟩),
 (66, ⟨.fn, 1, 8, [.fn]⟩),
 (67, ⟨.sl 23, 1, 24, [.sl]⟩),
 (68, ⟨.fn, 1, 8, [.fn]⟩),
 (69, ⟨.fn, 1, 8, [.fn]⟩),
 (70, ⟨.fn, 1, 8, [.fn]⟩),
 (71, ⟨.fn, 1, 8, [.fn]⟩),
 (73, ⟨.fn, 1, 8, [.fn]⟩),
 (74, ⟨.fn, 1, 8, [.fn]⟩),
 (75, ⟨.ifc, 1, 16, [.ifc]⟩),
 (76, ⟨.ifc, 1, 16, [.ifc]⟩),
 (77, ⟨.st [(0, 25)], 1, 8, [.int .i64]⟩),
 (78, ⟨.st [(0, 25)], 1, 8, [.int .i64]⟩),
 (80, ⟨.fn, 1, 8, [.fn]⟩),
 (81, ⟨.fn, 1, 8, [.fn]⟩),
 (82, ⟨.fn, 1, 8, [.fn]⟩),
 (83, ⟨.fn, 1, 8, [.fn]⟩),
 (85, ⟨.fn, 1, 8, [.fn]⟩),
 (86, ⟨.arr 8 23, 8, 64, [.int .u64, .int .u64, .int .u64, .int .u64, .int .u64, .int .u64, .int .u64, .int .u64]⟩),
 (87, ⟨.fn, 1, 8, [.fn]⟩),
 (89, ⟨.fn, 1, 8, [.fn]⟩),
 (90, ⟨.fn, 1, 8, [.fn]⟩),
 (91, ⟨.fn, 1, 8, [.fn]⟩),
 (92, ⟨.int .u32, 1, 4, [.int .u32]⟩),
 (94, ⟨.fn, 1, 8, [.fn]⟩),
 (95, ⟨.fn, 1, 8, [.fn]⟩),
 (97, ⟨.fn, 1, 8, [.fn]⟩),
 (98, ⟨.fn, 1, 8, [.fn]⟩),
 (99, ⟨.fn, 1, 8, [.fn]⟩),
 (100, ⟨.fn, 1, 8, [.fn]⟩),
 (101, ⟨.fn, 1, 8, [.fn]⟩),
 (102, ⟨.fn, 1, 8, [.fn]⟩),
 (103, ⟨.fn, 1, 8, [.fn]⟩),
 (104, ⟨.fn, 1, 8, [.fn]⟩),
 (105, ⟨.fn, 1, 8, [.fn]⟩),
 (107, ⟨.fn, 1, 8, [.fn]⟩),
 (108, ⟨.fn, 1, 8, [.fn]⟩),
 (109, ⟨.fn, 1, 8, [.fn]⟩),
 (111, ⟨.fn, 1, 8, [.fn]⟩),
 (112, ⟨.fn, 1, 8, [.fn]⟩),
 (113, ⟨.fn, 1, 8, [.fn]⟩),
 (115, ⟨.fn, 1, 8, [.fn]⟩),
 (116, ⟨.fn, 1, 8, [.fn]⟩),
 (117, ⟨.fn, 1, 8, [.fn]⟩),
 (118, ⟨.fn, 1, 8, [.fn]⟩),
 (119, ⟨.fn, 1, 8, [.fn]⟩),
 (120, ⟨.fn, 1, 8, [.fn]⟩),
 (121, ⟨.ptr 57, 1, 8, [.ptr]⟩),
 (122, ⟨.arr 8 23, 8, 64, [.int .u64, .int .u64, .int .u64, .int .u64, .int .u64, .int .u64, .int .u64, .int .u64]⟩),
 (123, ⟨.st [(0, 122), (8, 37), (40, 3)], 41, 104, [.int .u64, .int .u64, .int .u64, .int .u64, .int .u64, .int .u64, .int .u64, .int .u64, .int .u8, .int .u8, .int .u8, .int .u8, .int .u8, .int .u8, .int .u8, .int .u8, .int .u8, .int .u8, .int .u8, .int .u8, .int .u8, .int .u8, .int .u8, .int .u8, .int .u8, .int .u8, .int .u8, .int .u8, .int .u8, .int .u8, .int .u8, .int .u8, .int .u8, .int .u8, .int .u8, .int .u8, .int .u8, .int .u8, .int .u8, .int .u8, .int .i64]⟩),
 (124, ⟨.st [(0, 122), (8, 37), (40, 3)], 41, 104, [.int .u64, .int .u64, .int .u64, .int .u64, .int .u64, .int .u64, .int .u64, .int .u64, .int .u8, .int .u8, .int .u8, .int .u8, .int .u8, .int .u8, .int .u8, .int .u8, .int .u8, .int .u8, .int .u8, .int .u8, .int .u8, .int .u8, .int .u8, .int .u8, .int .u8, .int .u8, .int .u8, .int .u8, .int .u8, .int .u8, .int .u8, .int .u8, .int .u8, .int .u8, .int .u8, .int .u8, .int .u8, .int .u8, .int .u8, .int .u8, .int .i64]⟩),
 (125, ⟨.fn, 1, 8, [.fn]⟩),
 (126, ⟨.fn, 1, 8, [.fn]⟩),
 (127, ⟨.ptr 124, 1, 8, [.ptr]⟩),
 (128, ⟨.fn, 1, 8, [.fn]⟩),
 (129, ⟨.fn, 1, 8, [.fn]⟩),
 (130, ⟨.fn, 1, 8, [.fn]⟩),
 (131, ⟨.fn, 1, 8, [.fn]⟩),
 (132, ⟨.fn, 1, 8, [.fn]⟩),
 (133, ⟨.arr 24 5, 24, 24, [.int .u8, .int .u8, .int .u8, .int .u8, .int .u8, .int .u8, .int .u8, .int .u8, .int .u8, .int .u8, .int .u8, .int .u8, .int .u8, .int .u8, .int .u8, .int .u8, .int .u8, .int .u8, .int .u8, .int .u8, .int .u8, .int .u8, .int .u8, .int .u8]⟩),
 (134, ⟨.fn, 1, 8, [.fn]⟩),
 (136, ⟨.fn, 1, 8, [.fn]⟩),
 (137, ⟨.fn, 1, 8, [.fn]⟩),
 (138, ⟨.fn, 1, 8, [.fn]⟩),
 (139, ⟨.fn, 1, 8, [.fn]⟩),
 (140, ⟨.arr 20 23, 20, 160, [.int .u64, .int .u64, .int .u64, .int .u64, .int .u64, .int .u64, .int .u64, .int .u64, .int .u64, .int .u64, .int .u64, .int .u64, .int .u64, .int .u64, .int .u64, .int .u64, .int .u64, .int .u64, .int .u64, .int .u64]⟩),
 (141, ⟨.arr 65 5, 65, 65, [.int .u8, .int .u8, .int .u8, .int .u8, .int .u8, .int .u8, .int .u8, .int .u8, .int .u8, .int .u8, .int .u8, .int .u8, .int .u8, .int .u8, .int .u8, .int .u8, .int .u8, .int .u8, .int .u8, .int .u8, .int .u8, .int .u8, .int .u8, .int .u8, .int .u8, .int .u8, .int .u8, .int .u8, .int .u8, .int .u8, .int .u8, .int .u8, .int .u8, .int .u8, .int .u8, .int .u8, .int .u8, .int .u8, .int .u8, .int .u8, .int .u8, .int .u8, .int .u8, .int .u8, .int .u8, .int .u8, .int .u8, .int .u8, .int .u8, .int .u8, .int .u8, .int .u8, .int .u8, .int .u8, .int .u8, .int .u8, .int .u8, .int .u8, .int .u8, .int .u8, .int .u8, .int .u8, .int .u8, .int .u8, .int .u8]⟩),
 (142, ⟨.fn, 1, 8, [.fn]⟩),
 (143, ⟨.fn, 1, 8, [.fn]⟩),
 (144, ⟨.fn, 1, 8, [.fn]⟩),
 (145, ⟨.arr 64 5, 64, 64, [.int .u8, .int .u8, .int .u8, .int .u8, .int .u8, .int .u8, .int .u8, .int .u8, .int .u8, .int .u8, .int .u8, .int .u8, .int .u8, .int .u8, .int .u8, .int .u8, .int .u8, .int .u8, .int .u8, .int .u8, .int .u8, .int .u8, .int .u8, .int .u8, .int .u8, .int .u8, .int .u8, .int .u8, .int .u8, .int .u8, .int .u8, .int .u8, .int .u8, .int .u8, .int .u8, .int .u8, .int .u8, .int .u8, .int .u8, .int .u8, .int .u8, .int .u8, .int .u8, .int .u8, .int .u8, .int .u8, .int .u8, .int .u8, .int .u8, .int .u8, .int .u8, .int .u8, .int .u8, .int .u8, .int .u8, .int .u8, .int .u8, .int .u8, .int .u8, .int .u8, .int .u8, .int .u8, .int .u8, .int .u8]⟩),
 (146, ⟨.fn, 1, 8, [.fn]⟩),
 (147, ⟨.st [(0, 17), (1, 17), (2, 17), (3, 9)], 4, 40, [.ptr, .ptr, .ptr, .str]⟩),
 (148, ⟨.st [(0, 17), (1, 17), (2, 17), (3, 9)], 4, 40, [.ptr, .ptr, .ptr, .str]⟩),
 (149, ⟨.arr 0 16, 0, 0, []⟩),
 (150, ⟨.st [(0, 149)], 0, 0, []⟩),
 (151, ⟨.st [(0, 149)], 0, 0, []⟩),
 (152, ⟨.int .u8, 1, 1, [.int .u8]⟩),
 (153, ⟨.int .u8, 1, 1, [.int .u8]⟩),
 (154, ⟨.fn, 1, 8, [.fn]⟩),
 (155, ⟨.ptr 5, 1, 8, [.ptr]⟩),
 (156, ⟨.int .i32, 1, 4, [.int .i32]⟩),
 (157, ⟨.int .i32, 1, 4, [.int .i32]⟩),
 (158, ⟨.st [(0, 12), (1, 12), (2, 92), (3, 152), (4, 5), (5, 5), (6, 153), (7, 154), (8, 155), (9, 156), (10, 157)], 11, 48, [.int .u64, .int .u64, .int .u32, .int .u8, .int .u8, .int .u8, .int .u8, .fn, .ptr, .int .i32, .int .i32]⟩),
 (159, ⟨.st [(0, 12), (1, 12), (2, 92), (3, 152), (4, 5), (5, 5), (6, 153), (7, 154), (8, 155), (9, 156), (10, 157)], 11, 48, [.int .u64, .int .u64, .int .u32, .int .u8, .int .u8, .int .u8, .int .u8, .fn, .ptr, .int .i32, .int .i32]⟩)]
theorem tab_ok : (tab.all fun x => x.2.chk Tryz.prog x.1) = true := by kernel_rfl
def tt : TOk Tryz.prog := ⟨tab, tab_ok⟩
theorem mixed : Tryz.prog.follows .mixedOrders = true := by kernel_rfl
end Lf
end Go.Proofs.YtffaobngpbaklaaGreatDoor

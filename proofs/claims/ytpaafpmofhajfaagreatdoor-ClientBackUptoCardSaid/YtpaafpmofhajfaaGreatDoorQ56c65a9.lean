/- A part of the proof: texts joined. -/
import Derived.WideKeyMaps
import Derived.DeepKeys5
import Derived.Maps.Keyed
import Derived.Test.YtpaafpmofhajfaaGreatDoorQ445178d
set_option linter.unusedVariables false
set_option linter.unusedSimpArgs false
namespace Go.Proofs.YtpaafpmofhajfaaGreatDoor
open Go.RowKit Rg
namespace Lf
section
variable {F : Fr0} {g : Gh} {mem : Mem} {w : World}
theorem heap_alloc_at (w : World) (ob : Obj) : (w.alloc ob).heap[w.heap.size]? = some ob := by
 cases w
 simp only [World.alloc, Array.getElem?_push_size]
theorem RelM.newMap (h : RelM F g mem w) (hk : Kept F g w) {i : Nat} (hi : aget mem i = none) :
  ∃ g', g'.bx i = some (w.heap.size, 0) ∧ Ev g w g' (w.alloc (.map #[] 0)) ∧ RelM F g' ((i, .m []) :: mem) (w.alloc (.map #[] 0)) ∧ Kept F g' (w.alloc (.map #[] 0)) := by
 have hbi : (g.newB i w.heap.size 0).bx i = some (w.heap.size, 0) := by simp [Gh.newB]
 refine ⟨_, hbi, h.newB hk hi (.m hbi ⟨⟨#[], ?_, rfl, fun j e he => by simp at he, fun j k v e hj => by simp at hj⟩, fun o hs => ?_⟩) fun b o' ⟨off, hp⟩ => by rw [hbi] at hp; cases hp; rfl⟩
 ·exact heap_alloc_at w _
 ·have := hs.2 rfl
  omega
theorem RelM.setMap (h : RelM F g mem w) (hk : Kept F g w) {i b off : Nat} {es es' : List (Value × V)} {en' : Array MapEntry} (hi : aget mem i = some (.m es)) (hb : g.bx i = some (b, off)) (hM : MapAt g w b es) (hs : en'.size = es'.length) (hborn : ∀ (j : Nat) e, en'[j]? = some e → e.born = j)
  (hrep : ∀ (j : Nat) k v e, es'[j]? = some (k, v) → en'[j]? = some e → e.key = k ∧ Rep w g.bare v e.val) :
  Ev g w g { w with heap := w.heap.setIfInBounds b (.map en' en'.size) } ∧ RelM F g ((i, .m es') :: mem) { w with heap := w.heap.setIfInBounds b (.map en' en'.size) } ∧ Kept F g { w with heap := w.heap.setIfInBounds b (.map en' en'.size) } := by
 obtain ⟨en, q1, _⟩ := hM.own
 have hlt : b < w.heap.size := (Array.getElem?_eq_some_iff.1 q1).1
 refine h.setO hk hi (fun b o => Iff.rfl) hb hM.free rfl rfl rfl rfl (fun he => .m hb ⟨⟨en', ?_, hs, hborn, fun j k v e h1 h2 => ⟨(hrep j k v e h1 h2).1, (hrep j k v e h1 h2).2.mono he.bare⟩⟩, hM.free⟩) (fun b o hp => hp)
 show (w.heap.setIfInBounds b (.map en' en'.size))[b]? = _
 rw [Array.getElem?_setIfInBounds_self_of_lt hlt]
end
section
variable {P : Program} {o : Oper} {env : Env} {v : V}
theorem Does.makeMap {T : Nat} (i : Nat) (ho : o.op = .makeMap T none) : Does P o env (.mp i) [(i, none, some (.m []))] := by
 refine ⟨fun F g a w mem _ h2 h3 h4 _ K Q hK => ?_⟩
 obtain ⟨g', k1, k2, k3, k4⟩ := h2.newMap h3 (i := i) (h4 _ _ _ mem_one)
 unfold Oper.wp
 have hrun : (execOp a.eval o).run P w = .ok (.value (.map (some w.heap.size))) (w.alloc (.map #[] 0)) := by
  simp [execOp, ho, Instr.makeMap]
 rw [hrun]
 exact hK _ g' _ k2 k3 k4 (.mp k1)
theorem Does.mapEntryNew {T i kt e : Nat} {x ix : Operand} {u : V} {kv zv : Value} {es : List (Value × V)} (hu : P.underlying T = some (.map kt e)) (K : Maps.Keyed P kt) {l : Lit} (hk : keyOf P kt kv = some l) (hks : ∀ p ∈ es, ∃ l, keyOf P kt p.1 = some l)
  (ho : o.op = .mapEntry T x ix) (hx : evo env x = some (.mp i)) (hi : evo env ix = some u) (hex : ∀ w g v, Rep w g u v → v = kv) (hz : ∀ w, (zeroValue e).run P w = .ok zv w)
  (hno : ∀ p ∈ es, p.1 ≠ kv) : Does P o env (.t [.k zv, .k (.int .i64 ((es.length : Nat) : Int))]) [(i, some (.m es), some (.m (es ++ [(kv, .k zv)])))] := by
 refine ⟨fun F g a w mem h1 h2 h3 h4 _ K' Q hK => ?_⟩
 have hm := h4 _ _ _ mem_one
 obtain ⟨b, off, hg, hM⟩ := h2.map hm
 obtain ⟨en, q1, q2, q3, q4⟩ := hM.own
 have r1 := h1 x (by simp [ho, Op.operands]) _ hx
 have r2 := hex _ _ _ (h1 ix (by simp [ho, Op.operands]) _ hi)
 generalize hy1 : a.eval x = m at r1
 obtain rfl : m = .map (some b) := by
  cases r1 with
  | mp h => rw [hg] at h; cases h; rfl
 have hkeys : ∀ z ∈ en.toList, (∃ l, keyOf P kt z.key = some l) ∧ z.key ≠ kv := fun z hz' => by
  obtain ⟨j, hj⟩ := List.mem_iff_getElem?.1 hz'
  have hj' : en[j]? = some z := by simpa using hj
  have hlt : j < es.length := by have := (Array.getElem?_eq_some_iff.1 hj').1; omega
  have := q4 j _ _ z (List.getElem?_eq_getElem hlt) hj'
  rw [this.1]
  exact ⟨hks _ (List.getElem_mem hlt), hno _ (List.getElem_mem hlt)⟩
 rcases K.find w hk en.toList (fun z hz' => (hkeys z hz').1) with ⟨p1, p2⟩ | ⟨j, z, p1, p2, p3⟩
 ·have hsz : (en.push { key := kv, val := zv, born := en.size }).size = en.size + 1 := by simp
  obtain ⟨k1, k2, k3⟩ := h2.setMap h3 (es' := es ++ [(kv, .k zv)]) (en' := en.push { key := kv, val := zv, born := en.size }) hm hg hM (by simp [q2]) (fun j z hj => by
   rw [Array.getElem?_push] at hj
   split at hj
   ·cases hj; simp; omega
   ·exact q3 j z hj) (fun j k v z h1 h2 => by
   rw [Array.getElem?_push] at h2
   split at h2
   ·rename_i e1
    cases h2
    rw [e1, q2, List.getElem?_append_right (Nat.le_refl _)] at h1
    simp at h1
    obtain ⟨rfl, rfl⟩ := h1
    exact ⟨rfl, .k _⟩
   ·have hlt := (Array.getElem?_eq_some_iff.1 h2).1
    rw [List.getElem?_append_left (by omega)] at h1
    exact q4 j k v z h1 h2)
  unfold Oper.wp
  have hrun : (execOp a.eval o).run P w = .ok (.value (.tuple #[zv, .int .i64 ((en.size : Nat) : Int)])) { w with heap := w.heap.setIfInBounds b (.map (en.push { key := kv, val := zv, born := en.size }) (en.push { key := kv, val := zv, born := en.size }).size) } := by
   rw [hsz]
   simp [execOp, ho, hy1, r2, Instr.mapEntry, run_underlying hu, MapKept.run_getObj_map q1, K.check w _ hk, p1, hz w, Result.andThen, MapKept.run_setObj_map _ q1, goInt]
  rw [hrun]
  refine hK _ g _ k1 k2 k3 (.t rfl fun j v y hj hv => ?_)
  match j with
  | 0 => simp at hj hv; subst hj; subst hv; exact .k _
  | 1 => simp at hj hv; subst hj; subst hv; rw [q2]; exact .k _
  | j + 2 => simp at hj
 ·exact absurd p3 (hkeys z (List.mem_of_getElem? p2)).2
theorem Does.mapEntryOld {T i kt e s : Nat} {x ix : Operand} {u : V} {kv y : Value} {es : List (Value × V)} (hu : P.underlying T = some (.map kt e)) (K : Maps.Keyed P kt) {l : Lit} (hk : keyOf P kt kv = some l) (hks : ∀ p ∈ es, ∃ l, keyOf P kt p.1 = some l)
    (ho : o.op = .mapEntry T x ix) (hx : evo env x = some (.mp i)) (hi : evo env ix = some u) (hex : ∀ w g v, Rep w g u v → v = kv)
    (hp : es[s]? = some (kv, .k y)) (hd : ∀ (j : Nat) p, es[j]? = some p → p.1 = kv → j = s) : Does P o env (.t [.k y, .k (.int .i64 ((s : Nat) : Int))]) [(i, some (.m es), some (.m es))] := by
  refine ⟨fun F g a w mem h1 h2 h3 h4 _ K' Q hK => ?_⟩
  have hm := h4 _ _ _ mem_one
  obtain ⟨b, off, hg, hM⟩ := h2.map hm
  obtain ⟨en, q1, q2, q3, q4⟩ := hM.own
  have r1 := h1 x (by simp [ho, Op.operands]) _ hx
  have r2 := hex _ _ _ (h1 ix (by simp [ho, Op.operands]) _ hi)
  generalize hy1 : a.eval x = m at r1
  obtain rfl : m = .map (some b) := by
    cases r1 with
    | mp h => rw [hg] at h; cases h; rfl
  have hat : ∀ (j : Nat) z, en[j]? = some z → ∃ p, es[j]? = some p ∧ z.key = p.1 ∧ Rep w g.bare p.2 z.val := fun j z hj' => by
    have hlt : j < es.length := by have := (Array.getElem?_eq_some_iff.1 hj').1; omega
    have := q4 j _ _ z (List.getElem?_eq_getElem hlt) hj'
    exact ⟨_, List.getElem?_eq_getElem hlt, this⟩
  rcases K.find w hk en.toList (fun z hz' => by
      obtain ⟨j, hj⟩ := List.mem_iff_getElem?.1 hz'
      obtain ⟨p, hp1, hp2, _⟩ := hat j z (by simpa using hj)
      rw [hp2]
      exact hks _ (List.mem_of_getElem? hp1)) with ⟨p1, p2⟩ | ⟨j, z, p1, p2, p3⟩
  · have hlt : s < en.size := by have := (List.getElem?_eq_some_iff.1 hp).1; omega
    exact absurd (q4 s _ _ _ hp (Array.getElem?_eq_getElem hlt)).1 (p2 _ (Array.getElem_mem_toList hlt))
  · have hj : en[j]? = some z := by simpa using p2
    obtain ⟨p, hp1, hp2, hp3⟩ := hat j z hj
    obtain rfl : j = s := hd j p hp1 (hp2.symm.trans p3)
    rw [hp] at hp1
    cases hp1
    have hval := rep_k hp3
    have hsz : (en.modify j fun e => { e with key := kv }).size = en.size := by simp
    have hget : ∀ (k : Nat) z', (en.modify j fun e => { e with key := kv })[k]? = some z' → ∃ z0, en[k]? = some z0 ∧ z'.key = z0.key ∧ z'.val = z0.val ∧ z'.born = z0.born := fun k z' hz' => by
      rw [Array.getElem?_modify] at hz'
      split at hz'
      · rename_i e1
        subst e1
        rw [hj] at hz'
        simp at hz'
        subst hz'
        exact ⟨z, hj, p3.symm, rfl, rfl⟩
      · exact ⟨z', hz', rfl, rfl, rfl⟩
    obtain ⟨k1, k2, k3⟩ := h2.setMap h3 (es' := es) (en' := en.modify j fun e => { e with key := kv }) hm hg hM (by rw [hsz, q2]) (fun k z' hz' => by
      obtain ⟨z0, a1, _, _, a4⟩ := hget k z' hz'
      rw [a4]; exact q3 k z0 a1) (fun k k' v z' h1 h2 => by
      obtain ⟨z0, a1, a2, a3, _⟩ := hget k z' h2
      rw [a2, a3]; exact q4 k k' v z0 h1 a1)
    unfold Oper.wp
    have hrun : (execOp a.eval o).run P w = .ok (.value (.tuple #[z.val, .int .i64 ((j : Nat) : Int)])) { w with heap := w.heap.setIfInBounds b (.map (en.modify j fun e => { e with key := kv }) (en.modify j fun e => { e with key := kv }).size) } := by
      rw [hsz]
      have hborn := q3 j z hj
      have hst := K.stays w hk
      simp [execOp, ho, hy1, r2, Instr.mapEntry, run_underlying hu, MapKept.run_getObj_map q1, K.check w _ hk, p1, hj, p3, hst, Result.andThen, MapKept.run_setObj_map _ q1, goInt, hborn]
    rw [hrun]
    refine hK _ g _ k1 k2 k3 (.t rfl fun j' v y' hj' hv => ?_)
    match j' with
    | 0 => simp at hj' hv; subst hj'; subst hv; rw [hval]; exact .k _
    | 1 => simp at hj' hv; subst hj'; subst hv; exact .k _
    | j' + 2 => simp at hj'
theorem Does.entryStore {T i s : Nat} {x st y : Operand} {z : Int} {vv : Value} {es : List (Value × V)} {kv : Value} {v0 : V} (ho : o.op = .entryStore T x st y) (hx : evo env x = some (.mp i)) (hs : evo env st = some (.k (.int .i64 z))) (hz : z = ((s : Nat) : Int)) (hy : evo env y = some (.k vv))
  (hp : es[s]? = some (kv, v0)) : Does P o env (.k undef) [(i, some (.m es), some (.m (es.set s (kv, .k vv))))] := by
 subst hz
 refine ⟨fun F g a w mem h1 h2 h3 h4 _ K' Q hK => ?_⟩
 have hm := h4 _ _ _ mem_one
 obtain ⟨b, off, hg, hM⟩ := h2.map hm
 obtain ⟨en, q1, q2, q3, q4⟩ := hM.own
 have r1 := h1 x (by simp [ho, Op.operands]) _ hx
 have r2 := rep_k (h1 st (by simp [ho, Op.operands]) _ hs)
 have r3 := rep_k (h1 y (by simp [ho, Op.operands]) _ hy)
 generalize hy1 : a.eval x = m at r1
 obtain rfl : m = .map (some b) := by
  cases r1 with
  | mp h => rw [hg] at h; cases h; rfl
 have hlt : s < en.size := by have := (List.getElem?_eq_some_iff.1 hp).1; omega
 have hat : en[s]? = some en[s] := Array.getElem?_eq_getElem hlt
 have hfind : en.findIdx? (fun e => (e.born : Int) == ((s : Nat) : Int)) = some s := by
  rw [Array.findIdx?_eq_some_iff_getElem]
  refine ⟨hlt, by have := q3 s _ hat; simp [this], fun j hj => ?_⟩
  have := q3 j _ (Array.getElem?_eq_getElem (by omega))
  simp [this]
  omega
 have hsz : (en.modify s fun e => { e with val := vv }).size = en.size := by simp
 obtain ⟨k1, k2, k3⟩ := h2.setMap h3 (es' := es.set s (kv, .k vv)) (en' := en.modify s fun e => { e with val := vv }) hm hg hM (by rw [hsz, q2]; simp) (fun k z' hz' => by
  rw [Array.getElem?_modify] at hz'
  split at hz'
  ·rename_i e1
   subst e1
   rw [hat] at hz'
   simp at hz'
   subst hz'
   have hb := q3 s _ hat
   exact hb
  ·exact q3 k z' hz') (fun k k' v z' h1 h2 => by
  rw [Array.getElem?_modify] at h2
  rw [List.getElem?_set] at h1
  split at h2
  ·rename_i e1
   subst e1
   rw [hat] at h2
   simp at h2
   subst h2
   rw [if_pos rfl, if_pos (by omega)] at h1
   cases h1
   exact ⟨(q4 s _ _ _ hp hat).1, .k _⟩
  ·rename_i e1
   rw [if_neg (fun e => e1 e)] at h1
   exact q4 k k' v z' h1 h2)
 unfold Oper.wp
 have hrun : (execOp a.eval o).run P w = .ok .skip { w with heap := w.heap.setIfInBounds b (.map (en.modify s fun e => { e with val := vv }) (en.modify s fun e => { e with val := vv }).size) } := by
  rw [hsz]
  simp [execOp, ho, hy1, r2, r3, Instr.entryStore, asInt, asIntOf, MapKept.run_getObj_map q1, hfind, Result.andThen, MapKept.run_setObj_map _ q1]
 rw [hrun]
 exact hK _ g _ k1 k2 k3 (.k _)
end
end Lf
open Go.RowKit Rg
namespace Lf
section
variable {P : Program} {F : Fr0} {N : Nat} {ops : Array Oper}
structure Plan0 (ops : Array Oper) (listed : Array Bool) (its : List It) : Prop where
 mem : ∀ i, i < ops.size → (listed.getD i true = false ↔ ∃ x ∈ its, x.i = i)
 lt : ∀ x ∈ its, x.i < ops.size
 nodup : its.Pairwise fun x y => x.i ≠ y.i
 ext : ∀ pre x post, its = pre ++ x :: post → ∀ o, ops[x.i]? = some o → ∀ e ∈ o.after, Region.binds .any e = true → e.on < ops.size ∧ ∀ y ∈ x :: post, y.i ≠ e.on
 size : listed.size = ops.size
def MeetW (ops : Array Oper) (W : Array Nat) (its : List It) : Prop := its.Pairwise fun x y => waits W y.i x.i = true ∨ Indep ops x y
theorem Plan0.plan {W : Array Nat} {listed : Array Bool} {its : List It} (h : Plan0 ops listed its) (hi : MeetW ops W its) : Plan ops W listed its := ⟨h.mem, h.lt, h.nodup, h.ext, hi, h.size⟩
theorem Plan0.rm {listed : Array Bool} {pre post : List It} {y : It} (hp : Plan0 ops listed (pre ++ y :: post)) : Plan0 ops (listed.setIfInBounds y.i true) (pre ++ post) := by
  have hnd := List.pairwise_append.1 hp.nodup
  have hnd2 := List.pairwise_cons.1 hnd.2.1
  have hne : ∀ z ∈ pre ++ post, z.i ≠ y.i := fun z hz => by
    rcases List.mem_append.1 hz with hz | hz
    · exact hnd.2.2 z hz y (by simp)
    · exact (hnd2.1 z hz).symm
  refine ⟨fun i hi => ?_, fun x hx => hp.lt x (by rcases List.mem_append.1 hx with h | h <;> simp [h]), ?_, fun pre' x post' hits o' ho' e he hb => ?_, by simp [hp.size]⟩
  · by_cases hiy : y.i = i
    · subst hiy
      have hsz : y.i < listed.size := by rw [hp.size]; exact hi
      simp only [Array.getD, Array.size_setIfInBounds, hsz, dif_pos]
      constructor
      · intro h; simp at h
      · rintro ⟨x, hx, hxi⟩; exact absurd hxi (hne x hx)
    · rw [getD_set_ne true hiy, hp.mem i hi]
      constructor
      · rintro ⟨x, hx, hxi⟩
        rcases List.mem_append.1 hx with h | h
        · exact ⟨x, by simp [h], hxi⟩
        · rcases List.mem_cons.1 h with rfl | h
          · exact absurd hxi hiy
          · exact ⟨x, by simp [h], hxi⟩
      · rintro ⟨x, hx, hxi⟩
        exact ⟨x, by rcases List.mem_append.1 hx with h | h <;> simp [h], hxi⟩
  · exact List.pairwise_append.2 ⟨hnd.1, hnd2.2, fun a ha b hb => hnd.2.2 a ha b (by simp [hb])⟩
  · have hsub : ∃ pre'' post'', pre ++ y :: post = pre'' ++ x :: post'' ∧ ∀ z ∈ x :: post', z ∈ x :: post'' := by
      rcases List.append_eq_append_iff.1 hits with ⟨us, h1, h2⟩ | ⟨bs, h1, h2⟩
      · refine ⟨pre ++ y :: us, post', by rw [h2]; simp, fun z hz => hz⟩
      · cases bs with
        | nil =>
          simp at h1 h2
          subst h1
          refine ⟨pre ++ [y], post', by rw [← h2]; simp, fun z hz => hz⟩
        | cons b bs =>
          simp at h2
          obtain ⟨rfl, h2⟩ := h2
          refine ⟨pre', bs ++ y :: post, by rw [h1]; simp, fun z hz => ?_⟩
          rcases List.mem_cons.1 hz with rfl | hz
          · simp
          · rw [h2] at hz
            rcases List.mem_append.1 hz with h | h <;> simp [h]
    obtain ⟨pre'', post'', h1, h2⟩ := hsub
    obtain ⟨h3, h4⟩ := hp.ext pre'' x post'' h1 o' ho' e he hb
    exact ⟨h3, fun z hz => h4 z (h2 z hz)⟩
theorem Plan0.some_ready {listed : Array Bool} {x : It} {r : List It} (hp : Plan0 ops listed (x :: r)) : x.i ∈ Region.ready .any ops listed := by
 have hlt := hp.lt x (by simp)
 refine mem_ready.2 ⟨by simpa using (hp.mem x.i hlt).2 ⟨x, by simp, rfl⟩, ops[x.i], Array.getElem?_eq_getElem hlt, fun e he hb => ?_⟩
 obtain ⟨h1, h2⟩ := hp.ext [] x r rfl _ (Array.getElem?_eq_getElem hlt) e he hb
 have hlist : ¬ listed.getD e.on true = false := fun hf => by
  obtain ⟨y, hy, hye⟩ := (hp.mem e.on h1).1 hf
  exact h2 y hy hye
 have hsz : e.on < listed.size := by rw [hp.size]; exact h1
 simp only [Array.getD, hsz, dif_pos] at hlist ⊢
 simpa using hlist
theorem Plan0.ready_mem {listed : Array Bool} {its : List It} (hp : Plan0 ops listed its) {j : Nat} (hj : j ∈ Region.ready .any ops listed) : ∃ y ∈ its, y.i = j := by
 obtain ⟨hun, o, ho, hall⟩ := mem_ready.1 hj
 exact (hp.mem j (Array.getElem?_eq_some_iff.1 ho).1).1 (by simpa using hun)
theorem Plan0.not_wait {W : Array Nat} (hW : waitsB .any ops W = true) {listed : Array Bool} (hc : Closed .any ops listed) {its : List It} (hp : Plan0 ops listed its) {j : Nat} (hj : j ∈ Region.ready .any ops listed) {x : It} (hx : x ∈ its) : ¬ waits W j x.i = true := fun h1 => by
 obtain ⟨hun, o, ho, hall⟩ := mem_ready.1 hj
 have hxlt := hp.lt x hx
 have hxl := waits_listed hW hc hxlt j j o (Nat.le_refl _) ho hall h1
 have hxu := (hp.mem x.i hxlt).2 ⟨x, hx, rfl⟩
 have hsz : x.i < listed.size := by rw [hp.size]; exact hxlt
 simp only [Array.getD, hsz, dif_pos] at hxl hxu
 rw [hxl] at hxu; cases hxu
theorem wp_item {F F0 : Fr0} (hx0 : F.Ext F0) {Q : Exit → Act → World → Prop} {env : Env} {mem : Mem} {g : Gh} {a : Act} {w : World} {y : It} {K : Act → World → Prop} (hv : Valid P F N ops y env mem) (hr : Rel F0 N g env mem a w) (next : ∀ g' a' w', Rel F0 N g' (appE y env) (appM y mem) a' w' → K a' w') : wpOpIn F0.fz 0 P ops Q y.i K a w := by
 unfold wpOpIn
 rw [hv.at_]
 simp only
 have hwant := gd_wanted hr hv.gdd
 rw [hwant]
 cases hsk : y.skip
 ·simp only [Bool.not_false, if_true]
  refine ((hv.does hsk).1.run hx0 hr (hv.does hsk).2 hv.dst fun g' a' w' hr' => next g' a' w' ?_)
  simpa [appE, appM, It.vv, It.tt, hsk] using hr'
 ·simp only [Bool.not_true, Bool.false_eq_true, if_false]
  refine ⟨fun _ _ => trivial, next g _ w ?_⟩
  have := hr.put (d := y.o.dst) (v := .k undef) (x := undef) (Ev.refl g w) hr.mem hr.kept (.k undef) hv.dst
  simpa [appE, appM, It.vv, It.tt, hsk, tset] using this
theorem meetW_rm {W : Array Nat} {p q : List It} {y : It} (h : MeetW ops W (p ++ y :: q)) : MeetW ops W (p ++ q) := by
 have hpi := List.pairwise_append.1 h
 exact List.pairwise_append.2 ⟨hpi.1, (List.pairwise_cons.1 hpi.2.1).2, fun a ha b hb => hpi.2.2 a ha b (by simp [hb])⟩
theorem one_way {F F0 : Fr0} (hx0 : F.Ext F0) {Q : Exit → Act → World → Prop} {W W1 : Array Nat} (hW : waitsB .any ops W = true) {a0 b0 : Nat} (h1 : ∀ j i, waits W1 j i = true → waits W j i = true ∨ (j = b0 ∧ i = a0)) (hab : a0 ≠ b0)
  {n : Nat} {com r1 : List It} {x1 : It} {env : Env} {mem : Mem} {listed : Array Bool} {g : Gh} {a : Act} {w : World} (hl : (com ++ x1 :: r1).length = n + 1) (hs : SR P F N ops (com ++ x1 :: r1) env mem) (hx : x1.i = a0) (hp : Plan0 ops listed (com ++ x1 :: r1)) (hm : MeetW ops W1 (com ++ x1 :: r1)) (hc : Closed .any ops listed) (hj : x1.i ∈ Region.ready .any ops listed) (hr : Rel F0 N g env mem a w)
  (hQ : ∀ g a w, Rel F0 N g (finE (com ++ x1 :: r1) env) (finM (com ++ x1 :: r1) mem) a w → Q .normal a w) : wpOpIn F0.fz 0 P ops Q x1.i (wpAnyIn F0.fz 0 P .any ops Q n (listed.setIfInBounds x1.i true)) a w := by
 have hind : ∀ x ∈ com, Indep ops x x1 := fun x hx' => by
  rcases (List.pairwise_append.1 hm).2.2 x hx' x1 (by simp) with h | h
  ·rcases h1 _ _ h with h | ⟨h, _⟩
   ·exact absurd h (hp.not_wait hW hc hj (by simp [hx']))
   ·rw [hx] at h; exact absurd h hab
  ·exact h
 obtain ⟨k1, k2⟩ := hs.first hind
 obtain ⟨hv, hrest⟩ := k1
 refine wp_item hx0 hv hr fun g' a' w' hr' => ?_
 have hne : ∀ z ∈ com ++ r1, z.i ≠ a0 := fun z hz e => by
  have hnd := List.pairwise_append.1 hp.nodup
  rcases List.mem_append.1 hz with hz | hz
  ·exact hnd.2.2 z hz x1 (by simp) (e.trans hx.symm)
  ·exact (List.pairwise_cons.1 hnd.2.1).1 z hz (hx.trans e.symm)
 have hm' : MeetW ops W (com ++ r1) := (meetW_rm hm).imp_of_mem fun {p q} hp' hq h => by
  rcases h with h | h
  ·rcases h1 _ _ h with h | ⟨_, h⟩
   ·exact .inl h
   ·exact absurd h (hne p hp')
  ·exact .inr h
 exact any_run hx0 hW n (com ++ r1) _ _ _ g' a' w' (by simp at hl ⊢; omega) hrest (hp.rm.plan hm') (hc.step hj) hr' fun g2 a2 w2 hr2 => hQ g2 a2 w2 (hr2.congr k2.symm)
theorem any_run2 {F F0 : Fr0} (hx0 : F.Ext F0) {Q : Exit → Act → World → Prop} {W W1 W2 : Array Nat} (hW : waitsB .any ops W = true) {a0 b0 : Nat} (hab : a0 ≠ b0) (h1 : ∀ j i, waits W1 j i = true → waits W j i = true ∨ (j = b0 ∧ i = a0)) (h2 : ∀ j i, waits W2 j i = true → waits W j i = true ∨ (j = a0 ∧ i = b0)) :
  ∀ (n : Nat) (com : List It) (x1 : It) (r1 : List It) (x2 : It) (r2 : List It) (env : Env) (mem : Mem) (listed : Array Bool) (g : Gh) (a : Act) (w : World), (com ++ x1 :: r1).length = n → (com ++ x2 :: r2).length = n → SR P F N ops (com ++ x1 :: r1) env mem → SR P F N ops (com ++ x2 :: r2) env mem → x1.i = a0 → x2.i = b0 →
  Plan0 ops listed (com ++ x1 :: r1) → Plan0 ops listed (com ++ x2 :: r2) → MeetW ops W1 (com ++ x1 :: r1) → MeetW ops W2 (com ++ x2 :: r2) → (∀ z ∈ r1, z.i ≠ b0 → waits W z.i a0 = true ∨ waits W z.i b0 = true) → Closed .any ops listed → Rel F0 N g env mem a w →
  (∀ g a w, Rel F0 N g (finE (com ++ x1 :: r1) env) (finM (com ++ x1 :: r1) mem) a w → Q .normal a w) → (∀ g a w, Rel F0 N g (finE (com ++ x2 :: r2) env) (finM (com ++ x2 :: r2) mem) a w → Q .normal a w) → wpAnyIn F0.fz 0 P .any ops Q n listed a w
 | 0, com, x1, r1, _, _, _, _, _, _, _, _, hl, _, _, _, _, _, _, _, _, _, _, _, _, _, _ => by simp at hl
 | n + 1, com, x1, r1, x2, r2, env, mem, listed, g, a, w, hl1, hl2, hs1, hs2, hx1, hx2, hp1, hp2, hm1, hm2, hz, hc, hr, hQ1, hQ2 => by
  refine ⟨fun h0 => ?_, fun j hj => ?_⟩
  ·cases com with
   | nil => have := hp1.some_ready; rw [h0] at this; cases this
   | cons c r => have := Plan0.some_ready hp1; rw [h0] at this; cases this
  ·by_cases hja : j = a0
   ·subst hja
    subst hx1
    exact one_way hx0 hW h1 hab hl1 hs1 rfl hp1 hm1 hc hj hr hQ1
   ·by_cases hjb : j = b0
    ·subst hjb
     subst hx2
     exact one_way hx0 hW h2 (Ne.symm hab) hl2 hs2 rfl hp2 hm2 hc hj hr hQ2
    ·obtain ⟨y, hy, hyj⟩ := hp1.ready_mem hj
     have hyc : y ∈ com := by
      rcases List.mem_append.1 hy with h | h
      ·exact h
      ·rcases List.mem_cons.1 h with rfl | h
       ·exact absurd (hyj.symm.trans hx1) hja
       ·exfalso
        rcases hz y h (by rw [hyj]; exact hjb) with h' | h'
        ·rw [hyj, ← hx1] at h'
         exact hp1.not_wait hW hc hj (by simp) h'
        ·rw [hyj, ← hx2] at h'
         exact hp2.not_wait hW hc hj (by simp) h'
     subst hyj
     obtain ⟨pre, post, rfl⟩ := List.append_of_mem hyc
     have e1 : pre ++ y :: post ++ x1 :: r1 = pre ++ y :: (post ++ x1 :: r1) := by simp
     have e2 : pre ++ y :: post ++ x2 :: r2 = pre ++ y :: (post ++ x2 :: r2) := by simp
     rw [e1] at hs1 hp1 hm1 hQ1
     rw [e2] at hs2 hp2 hm2 hQ2
     have hind : ∀ x ∈ pre, Indep ops x y := fun x hx' => by
      rcases (List.pairwise_append.1 hm1).2.2 x hx' y (by simp) with h | h
      ·rcases h1 _ _ h with h | ⟨h, _⟩
       ·exact absurd h (hp1.not_wait hW hc hj (by simp [hx']))
       ·exact absurd h hjb
      ·exact h
     obtain ⟨⟨hv, k1⟩, k2⟩ := hs1.first hind
     obtain ⟨⟨_, k3⟩, k4⟩ := hs2.first hind
     have t1 := hp1.rm
     have t2 := hp2.rm
     have t3 := meetW_rm hm1
     have t4 := meetW_rm hm2
     simp only [← List.append_assoc] at k1 k3 t1 t2 t3 t4
     refine wp_item hx0 hv hr fun g' a' w' hr' => ?_
     exact any_run2 hx0 hW hab h1 h2 n (pre ++ post) x1 r1 x2 r2 _ _ _ g' a' w' (by simp at hl1 ⊢; omega) (by simp at hl2 ⊢; omega) k1 k3 hx1 hx2 t1 t2 t3 t4 hz (hc.step hj) hr'
      (fun g2 a2 w2 hr2 => hQ1 g2 a2 w2 (hr2.congr (by have := k2.symm; simpa only [finE, finM, List.append_assoc] using this))) (fun g2 a2 w2 hr2 => hQ2 g2 a2 w2 (hr2.congr (by have := k4.symm; simpa only [finE, finM, List.append_assoc] using this)))
end
def addW (W : Array Nat) (j i : Nat) : Array Nat := W.setIfInBounds j (W.getD j 0 ||| 2 ^ i)
theorem addW_get (W : Array Nat) (b a j : Nat) : (addW W b a).getD j 0 = if b = j ∧ j < W.size then W.getD j 0 ||| 2 ^ a else W.getD j 0 := by
 unfold addW
 simp only [Array.getD_eq_getD_getElem?, Array.getElem?_setIfInBounds]
 by_cases e : b = j
 ·subst e
  by_cases hb : b < W.size
  ·simp [hb]
  ·simp [hb]
 ·simp [e]
theorem waits_addW {W : Array Nat} {b a j i : Nat} (h : waits (addW W b a) j i = true) : waits W j i = true ∨ (j = b ∧ i = a) := by
 unfold waits at *
 rw [addW_get] at h
 split at h
 ·rename_i e
  rw [Nat.testBit_or, Bool.or_eq_true] at h
  rcases h with h | h
  ·exact .inl h
  ·rw [Nat.testBit_two_pow] at h
   exact .inr ⟨e.1.symm, (of_decide_eq_true h).symm⟩
 ·exact .inl h
theorem waits_addW' {W : Array Nat} {b a j i : Nat} (h : waits W j i = true) : waits (addW W b a) j i = true := by
 unfold waits at *
 rw [addW_get]
 split
 ·rw [Nat.testBit_or, h]; rfl
 ·exact h
section
variable {P : Program} {F : Fr0} {N : Nat}
theorem plan_of {l : List Oper} {W : Array Nat} {plan : List Nat} {its : List It} (hB : planOk l.toArray W plan = true) (k2 : its.map (·.i) = plan) : Plan0 l.toArray (Array.replicate l.length false) its := by
  simp only [planOk, Bool.and_eq_true] at hB
  obtain ⟨hlt, hall, hext, hap, hlen⟩ := hB
  have hlt' : ∀ i ∈ plan, i < l.length := fun i hi => by
    have h1 := Nat.le_of_ble_eq_true (List.all_eq_true.1 hlt i hi)
    simp at h1
    omega
  have hnd0 := (apOk_spec hap).imp fun h => h.1
  refine ⟨fun i hi => ?_, fun x hx => ?_, ?_, fun pre x post hits o ho e he hb => ?_, by simp⟩
  · have hi' : i < l.length := by simpa using hi
    have : (Array.replicate l.length false).getD i true = false := by simp [Array.getD, hi']
    refine ⟨fun _ => ?_, fun _ => this⟩
    have h1 := List.all_eq_true.1 hall i (by simpa using hi')
    have h2 : i ∈ plan := by simpa using h1
    rw [← k2] at h2
    obtain ⟨x, hx, hxi⟩ := List.mem_map.1 h2
    exact ⟨x, hx, hxi⟩
  · have := hlt' x.i (by rw [← k2]; exact List.mem_map_of_mem hx)
    simpa using this
  · have := hnd0
    rw [← k2, List.pairwise_map] at this
    exact this
  · have hp2 : plan = pre.map (·.i) ++ x.i :: post.map (·.i) := by rw [← k2, hits]; simp
    have h1 := extOk_spec hext (pre.map (·.i)) x.i (post.map (·.i)) hp2 o ho e he hb
    have h2 : e.on ∈ pre.map (·.i) := by
      rcases h1 with h1 | h1
      · cases h1
      · exact h1
    have hnd := hnd0
    rw [hp2] at hnd
    have h3 := (List.pairwise_append.1 hnd).2.2 e.on h2
    refine ⟨?_, fun y hy hye => ?_⟩
    · have := hlt' e.on (by rw [hp2]; exact List.mem_append_left _ h2)
      simpa using this
    · exact h3 y.i (by
        rcases List.mem_cons.1 hy with rfl | hy
        · simp
        · exact List.mem_cons_of_mem _ (List.mem_map_of_mem hy)) hye.symm
theorem sr_at {ops : Array Oper} : ∀ (l' : List It) (env : Env) (mem : Mem), SR P F N ops l' env mem → ∀ x ∈ l', ops[x.i]? = some x.o
 | [], _, _, _, x, hx => by cases hx
 | y :: r, env, mem, hs, x, hx => by
  rcases List.mem_cons.1 hx with rfl | hx
  ·exact hs.1.at_
  ·exact sr_at _ _ _ hs.2 x hx
theorem meet_of {l : List Oper} {W : Array Nat} {plan : List Nat} {its : List It} (hap : apOk l.toArray W plan = true) (k2 : its.map (·.i) = plan) (hato : ∀ x ∈ its, l.toArray[x.i]? = some x.o) (h2 : its.Pairwise fun x y => compat x.tt y.tt = true ∨ waits W y.i x.i = true) : MeetW l.toArray W its := by
 have h1 := apOk_spec hap
 rw [← k2, List.pairwise_map] at h1
 refine (h1.and h2).imp_of_mem fun {x y} hx hy h => ?_
 obtain ⟨⟨_, h3⟩, h4⟩ := h
 rcases h3 with h3 | ⟨p, q, hp, hq, h3⟩
 ·exact .inl h3
 ·rcases h4 with h4 | h4
  ·have e1 := hato x hx
   have e2 := hato y hy
   rw [hp] at e1; cases e1
   rw [hq] at e2; cases e2
   exact .inr ⟨h3, h4⟩
  ·exact .inl h4
theorem SR.append {ops : Array Oper} : ∀ {p q : List It} {env : Env} {mem : Mem}, SR P F N ops p env mem → SR P F N ops q (finE p env) (finM p mem) → SR P F N ops (p ++ q) env mem
 | [], _, _, _, _, h => h
 | _ :: _, _, _, _, h, k => ⟨h.1, SR.append h.2 k⟩
theorem fin_append : ∀ (p q : List It) (env : Env) (mem : Mem), finE (p ++ q) env = finE q (finE p env) ∧ finM (p ++ q) mem = finM q (finM p mem)
 | [], _, _, _ => ⟨rfl, rfl⟩
 | x :: p, q, env, mem => fin_append p q (appE x env) (appM x mem)
structure Both (A B : Prop) : Prop where
 l : A
 r : B
def allWait (W : Array Nat) (pre rest : List Nat) : Bool := rest.all fun j => pre.all fun i => waits W j i
def orWait (W : Array Nat) (a b : Nat) (rest : List Nat) : Bool := rest.all fun z => Nat.beq z b || (waits W z a || waits W z b)
structure TwoIn (id : Nat) (pre : List Nat) (a b : Nat) (r1 r2 : List Nat) : Prop where
theorem LC.draw2 {F : Fr0} {Q : LQ} {env : Env} {mem : Mem} {id : Nat} {l : List Oper} {pre : List Nat} {a b : Nat} {r1 r2 : List Nat} (_h : TwoIn id pre a b r1 r2) (hm : P.follows .mixedOrders = true)
  (hB : (waitsB .any l.toArray (Region.before l.toArray) && (planOk l.toArray (addW (Region.before l.toArray) b a) (pre ++ a :: r1) && (planOk l.toArray (addW (Region.before l.toArray) a b) (pre ++ b :: r2) && (orWait (Region.before l.toArray) a b r1 && !(Nat.beq a b))))) = true)
  (h : DR P F N l.toArray (fun acc => chkT (Region.before l.toArray) acc && (allWait (Region.before l.toArray) pre (a :: r1) || acc.all fun x => x.2.isEmpty)) (fun env mem =>
   Both (DR P F N l.toArray (chkT (addW (Region.before l.toArray) b a)) (fun env mem => Q .normal env mem) (pickI l (a :: r1)) [] env mem)
    (DR P F N l.toArray (chkT (addW (Region.before l.toArray) a b)) (fun env mem => Q .normal env mem) (pickI l (b :: r2)) [] env mem)) (pickI l pre) [] env mem) : LC P F N (.region id l.toArray true) Q env mem := by
 refine ⟨fun F0 hx g ac w hr => ?_⟩
 simp only [Bool.and_eq_true] at hB
 obtain ⟨hW, hB1, hB2, hor, hab⟩ := hB
 have hab' : a ≠ b := fun e => by subst e; simp at hab
 have pm : ∀ plan W, planOk l.toArray W plan = true → ∀ i ∈ plan, i < l.length := fun plan W hp i hi => by
  simp only [planOk, Bool.and_eq_true] at hp
  have h1 := Nat.le_of_ble_eq_true (List.all_eq_true.1 hp.1 i hi)
  simp at h1
  omega
 obtain ⟨ip, k1, k2, k3, k4, k5⟩ := DR.script h (pickI_mem fun i hi => pm _ _ hB1 i (by simp [hi]))
 obtain ⟨i1, p1, p2, p3, p4⟩ := DR.script k4 (pickI_mem fun i hi => pm _ _ hB1 i (List.mem_append_right _ hi))
 obtain ⟨i2, q1, q2, q3, q4⟩ := DR.script k5 (pickI_mem fun i hi => pm _ _ hB2 i (List.mem_append_right _ hi))
 rw [pickI_fst] at k2 p2 q2
 simp only [List.reverse_nil, List.nil_append] at k3 p3 q3
 rw [Bool.and_eq_true, Bool.or_eq_true] at k3
 obtain ⟨k3, kall⟩ := k3
 match i1, p2 with
 | x1 :: s1, p2 =>
 match i2, q2 with
 | x2 :: s2, q2 =>
 simp only [List.map_cons, List.cons.injEq] at p2 q2
 have e1 : (ip ++ x1 :: s1).map (·.i) = pre ++ a :: r1 := by simp [k2, p2]
 have e2 : (ip ++ x2 :: s2).map (·.i) = pre ++ b :: r2 := by simp [k2, q2]
 have S1 := SR.append k1 p1
 have S2 := SR.append k1 q1
 have P1 := plan_of hB1 e1
 have P2 := plan_of hB2 e2
 have hpre : ∀ x ∈ ip, x.i ∈ pre := fun x hx => by rw [← k2]; exact List.mem_map_of_mem hx
 have hw1 : ∀ (W' : Array Nat), (∀ j i, waits (Region.before l.toArray) j i = true → waits W' j i = true) → ∀ x ∈ ip, ∀ (j : Nat) (t : Tch), j ∈ a :: r1 → compat x.tt t = true ∨ waits W' j x.i = true := fun W' hm x hx j t hj => by
  rcases kall with hall | hq
  ·exact .inr (hm _ _ (List.all_eq_true.1 (List.all_eq_true.1 hall j hj) x.i (hpre x hx)))
  ·have := List.all_eq_true.1 hq (x.i, x.tt) (List.mem_map_of_mem hx)
   left
   have h0 : x.tt = [] := List.isEmpty_iff.1 this
   rw [h0]
   rfl
 have hmono : ∀ (W' : Array Nat) c d j i, waits W' j i = true → waits (addW W' c d) j i = true := fun W' c d j i h => waits_addW' h
 have hsame : ∀ j, j ∈ b :: r2 → j ∈ a :: r1 := fun j hj => by
  have hjl := pm _ _ hB2 j (List.mem_append_right _ hj)
  have hB1' := hB1
  simp only [planOk, Bool.and_eq_true] at hB1'
  have h1 := List.all_eq_true.1 hB1'.2.1 j (by simpa using hjl)
  have h2 : j ∈ pre ++ a :: r1 := by simpa using h1
  rcases List.mem_append.1 h2 with h2 | h2
  ·exfalso
   have hnd := (apOk_spec (by have := hB2; simp only [planOk, Bool.and_eq_true] at this; exact this.2.2.2.1)).imp fun h => h.1
   exact (List.pairwise_append.1 hnd).2.2 j h2 j hj rfl
  ·exact h2
 have pair : ∀ (W' : Array Nat) (it : List It), (∀ j i, waits (Region.before l.toArray) j i = true → waits W' j i = true) → (∀ z ∈ it, z.i ∈ a :: r1) → chkT W' (it.map fun x => (x.i, x.tt)) = true → (ip ++ it).Pairwise fun x y => compat x.tt y.tt = true ∨ waits W' y.i x.i = true := fun W' it hmm hin hch => by
  have c1 := chkT_spec k3
  have c2 := chkT_spec hch
  rw [List.pairwise_map] at c1 c2
  exact List.pairwise_append.2 ⟨c1.imp fun h => h.imp (fun h => h) fun h => hmm _ _ h, c2, fun x hx y hy => hw1 W' hmm x hx y.i y.tt (hin y hy)⟩
 have M1 : MeetW l.toArray (addW (Region.before l.toArray) b a) (ip ++ x1 :: s1) := meet_of (by have := hB1; simp only [planOk, Bool.and_eq_true] at this; exact this.2.2.2.1) e1 (sr_at _ _ _ S1) (pair _ _ (hmono _ _ _) (fun z hz => by
  have : z.i ∈ (x1 :: s1).map (·.i) := List.mem_map_of_mem hz
  rw [List.map_cons, p2.1, p2.2] at this; exact this) p3)
 have M2 : MeetW l.toArray (addW (Region.before l.toArray) a b) (ip ++ x2 :: s2) := meet_of (by have := hB2; simp only [planOk, Bool.and_eq_true] at this; exact this.2.2.2.1) e2 (sr_at _ _ _ S2) (pair _ _ (hmono _ _ _) (fun z hz => hsame _ (by
  have : z.i ∈ (x2 :: s2).map (·.i) := List.mem_map_of_mem hz
  rw [List.map_cons, q2.1, q2.2] at this; exact this)) q3)
 have hlen : ∀ {W : Array Nat} {plan : List Nat} {its : List It}, planOk l.toArray W plan = true → its.map (·.i) = plan → its.length = l.toArray.size := fun hp e => by
  simp only [planOk, Bool.and_eq_true] at hp
  rw [← Nat.eq_of_beq_eq_true hp.2.2.2.2, ← e, List.length_map]
 have hclosed : Closed .any l.toArray (Array.replicate l.length false) := by
  intro j o _ hl
  exfalso
  simp [Array.getElem?_replicate] at hl
  split at hl <;> simp_all
 have hr' : Rel F0 N g env mem ac { w with drawn := w.drawn + 1 } := by
  have hx : Ext w { w with drawn := w.drawn + 1 } := Below.drew (Below.refl _ w)
  obtain ⟨e1, e2, e3⟩ := hr.mem.ext (g' := g) hr.kept hx (fun _ _ _ => Iff.rfl) rfl rfl hr.mem.fut
  exact ⟨fun t v ht => by obtain ⟨x, h1, h2⟩ := hr.env t v ht; exact ⟨x, h1, h2.mono e1⟩, e2, e3, hr.defers, hr.size, hr.big⟩
 refine wpIn_region_any hm ?_
 have := any_run2 (P := P) (N := N) (F := F) (F0 := F0) (Q := liftQ F0 N Q) hx hW hab' (fun j i h => waits_addW h) (fun j i h => waits_addW h) (ip ++ x1 :: s1).length ip x1 s1 x2 s2 env mem (Array.replicate l.length false) g ac _ rfl (by rw [hlen hB1 e1, hlen hB2 e2]) S1 S2 p2.1 q2.1 P1 P2 M1 M2
  (fun z hz hzb => by
   have hz' : z.i ∈ r1 := by rw [← p2.2]; exact List.mem_map_of_mem hz
   have := List.all_eq_true.1 hor z.i hz'
   simp only [Bool.or_eq_true] at this
   rcases this with h | h
   ·exact absurd (Nat.eq_of_beq_eq_true h) hzb
   ·exact h) hclosed hr'
  (fun g2 a2 w2 hr2 => ⟨F0, .refl _, _, _, g2, .normal, by rw [(fin_append ip (x1 :: s1) env mem).1, (fin_append ip (x1 :: s1) env mem).2] at hr2; exact hr2, rfl, p4⟩)
  (fun g2 a2 w2 hr2 => ⟨F0, .refl _, _, _, g2, .normal, by rw [(fin_append ip (x2 :: s2) env mem).1, (fin_append ip (x2 :: s2) env mem).2] at hr2; exact hr2, rfl, q4⟩)
 rw [hlen hB1 e1] at this
 simpa using this
end
end Lf
open Go.RowKit Rg
namespace Lf
structure MapTy (P : Program) (T kt : Nat) (zv : Value) : Prop where
 ex : ∃ e, P.underlying T = some (.map kt e) ∧ ∀ w, (zeroValue e).run P w = .ok zv w
 K : Maps.Keyed P kt
structure KeyV (P : Program) (kt : Nat) (u : V) (kv : Value) : Prop where
 k : ∃ l, keyOf P kt kv = some l
 ex : ∀ w g v, Rep w g u v → v = kv
structure KeysV (P : Program) (kt : Nat) (es : List (Value × V)) : Prop where
 all : ∀ p ∈ es, ∃ l, keyOf P kt p.1 = some l
structure MGet (es : List (Value × V)) (kv : Value) (y0 y : V) : Prop where
 no : (∀ p ∈ es, p.1 ≠ kv) → y = y0
 yes : ∀ p ∈ es, p.1 = kv → p.2 = y
structure MNo (es : List (Value × V)) (kv : Value) : Prop where
 no : ∀ p ∈ es, p.1 ≠ kv
structure MAt (es : List (Value × V)) (s : Nat) (kv : Value) (y : V) : Prop where
 at_ : es[s]? = some (kv, y)
 one : ∀ (j : Nat) p, es[j]? = some p → p.1 = kv → j = s
structure MSet (es : List (Value × V)) (s : Nat) (y : V) (es' : List (Value × V)) : Prop where
 has : ∃ kv v0, es[s]? = some (kv, v0) ∧ es' = es.set s (kv, y)
section
variable {P : Program} {o : Oper} {env : Env}
theorem Does.lookV {T i kt : Nat} {x ix : Operand} {u y0 y : V} {kv zv : Value} {es : List (Value × V)} (M : MapTy P T kt zv) (hkey : KeyV P kt u kv) (hks : KeysV P kt es)
    (ho : o.op = .lookup T x ix false) (hx : evo env x = some (.mp i)) (hi : evo env ix = some u) (hz : ∀ w g, Rep w g y0 zv) (hget : MGet es kv y0 y) : Does P o env y [(i, some (.m es), none)] :=
  .read fun F g a w mem h1 h2 hm => by
    obtain ⟨e, hu, hzv⟩ := M.ex
    obtain ⟨l, hk⟩ := hkey.k
    obtain ⟨b, off, hg, hM⟩ := h2.map hm
    obtain ⟨en, q1, q2, q3, q4⟩ := hM.own
    have r1 := h1 x (by simp [ho, Op.operands]) _ hx
    have r2 := hkey.ex _ _ _ (h1 ix (by simp [ho, Op.operands]) _ hi)
    generalize hy1 : a.eval x = m at r1
    obtain rfl : m = .map (some b) := by
      cases r1 with
      | mp h => rw [hg] at h; cases h; rfl
    have hkeys : ∀ z ∈ en.toList, ∃ l, keyOf P kt z.key = some l := fun z hz' => by
      obtain ⟨j, hj⟩ := List.mem_iff_getElem?.1 hz'
      have hj' : en[j]? = some z := by simpa using hj
      have hlt : j < es.length := by have := (Array.getElem?_eq_some_iff.1 hj').1; omega
      have := q4 j _ _ z (List.getElem?_eq_getElem hlt) hj'
      rw [this.1]
      exact hks.all _ (List.getElem_mem hlt)
    have hat : ∀ (j : Nat) z, en[j]? = some z → ∃ p ∈ es, z.key = p.1 ∧ Rep w g.bare p.2 z.val := fun j z hj' => by
      have hlt : j < es.length := by have := (Array.getElem?_eq_some_iff.1 hj').1; omega
      have := q4 j _ _ z (List.getElem?_eq_getElem hlt) hj'
      exact ⟨_, List.getElem_mem hlt, this⟩
    rcases M.K.find w hk en.toList hkeys with ⟨p1, p2⟩ | ⟨j, z, p1, p2, p3⟩
    · have hyz : y = y0 := hget.no fun p hp e1 => by
        obtain ⟨j, hj⟩ := List.mem_iff_getElem?.1 hp
        have hlt : j < en.size := by have := (List.getElem?_eq_some_iff.1 hj).1; omega
        have := q4 j p.1 p.2 _ hj (Array.getElem?_eq_getElem hlt)
        exact p2 _ (Array.getElem_mem_toList hlt) (this.1.trans e1)
      refine ⟨zv, ?_, by rw [hyz]; exact hz _ _⟩
      simp [execOp, ho, hy1, r2, Instr.lookup, run_underlying hu, MapKept.run_getObj_map q1, M.K.check w _ hk, p1, hzv w, Result.andThen]
    · obtain ⟨p, hp, e1, e2⟩ := hat j z (by simpa using p2)
      rw [hget.yes p hp (e1.symm.trans p3)] at e2
      refine ⟨z.val, ?_, e2.of_bare⟩
      simp [execOp, ho, hy1, r2, Instr.lookup, run_underlying hu, MapKept.run_getObj_map q1, M.K.check w _ hk, p1, Result.andThen]
theorem Does.entN {T i kt n : Nat} {x ix : Operand} {u : V} {kv zv : Value} {es : List (Value × V)} (M : MapTy P T kt zv) (hkey : KeyV P kt u kv) (hks : KeysV P kt es)
  (ho : o.op = .mapEntry T x ix) (hx : evo env x = some (.mp i)) (hi : evo env ix = some u) (hno : MNo es kv) (hn : es.length = n) : Does P o env (.t [.k zv, .k (.int .i64 ((n : Nat) : Int))]) [(i, some (.m es), some (.m (es ++ [(kv, .k zv)])))] := by
 obtain ⟨e, hu, hzv⟩ := M.ex
 obtain ⟨l, hk⟩ := hkey.k
 subst hn
 exact Does.mapEntryNew hu M.K hk hks.all ho hx hi hkey.ex hzv hno.no
theorem Does.entO {T i kt s : Nat} {x ix : Operand} {u : V} {kv zv y : Value} {es : List (Value × V)} (M : MapTy P T kt zv) (hkey : KeyV P kt u kv) (hks : KeysV P kt es)
  (ho : o.op = .mapEntry T x ix) (hx : evo env x = some (.mp i)) (hi : evo env ix = some u) (hat : MAt es s kv (.k y)) : Does P o env (.t [.k y, .k (.int .i64 ((s : Nat) : Int))]) [(i, some (.m es), some (.m es))] := by
 obtain ⟨e, hu, hzv⟩ := M.ex
 obtain ⟨l, hk⟩ := hkey.k
 exact Does.mapEntryOld hu M.K hk hks.all ho hx hi hkey.ex hat.at_ hat.one
theorem Does.entS {T i s : Nat} {x st y : Operand} {z : Int} {vv : Value} {es es' : List (Value × V)} (ho : o.op = .entryStore T x st y) (hx : evo env x = some (.mp i)) (hs : evo env st = some (.k (.int .i64 z))) (hz : z = ((s : Nat) : Int)) (hy : evo env y = some (.k vv))
  (hset : MSet es s (.k vv) es') : Does P o env (.k undef) [(i, some (.m es), some (.m es'))] := by
 obtain ⟨kv, v0, h1, h2⟩ := hset.has
 subst h2
 exact Does.entryStore ho hx hs hz hy h1
end
theorem LM.map1 {P : Program} {f : Nat} {args : List V} {es : List (Value × V)} {k0 : Nat} (hA : ∀ (ρ : Nat → Nat), args.map (V.ren ρ) = args) (h : LM P f args [] fun o m => o = .ret (.mp k0) ∧ m = [(k0, .m es)]) (k : Nat) : LM P f args [] fun o m => o = .ret (.mp k) ∧ m = [(k, .m es)] :=
 LM.gen [k0] [k] (by simp) (by simp) rfl h fun ρ hρ => by
  simp at hρ
  refine ⟨hA _, rfl, ?_, ?_⟩
  ·simp [Out.ren, V.ren, hρ]
  ·simp [Mem.ren, M.ren, hρ]
section
variable {P : Program} {F : Fr0} {N : Nat} {ops : Array Oper} {chk : List (Nat × Tch) → Bool} {K : Env → Mem → Prop} {acc : List (Nat × Tch)} {env : Env} {mem : Mem} {i d : Nat} {o : Oper} {rs : List (Nat × Oper)}
theorem DR.cmap {fx : Nat} {xs : List Operand} {ts : Array Nat} {us args : List V} {es : List (Value × V)}
  (ho : o.op = .call { callee := .value (.func fx), args := xs.toArray, argTypes := ts }) (hg : gd ops env o = some true) (hds : o.dst = some d) (hx : evs env xs = some us) (hc : ∀ k, LM P fx args [] fun o m => o = .ret (.mp k) ∧ m = [(k, .m es)]) (hu : Fits us args) (hr : V.refs.go [] args = true) (ht : aget mem d = none) (hd : Nat.blt d N = true)
  (hK : DR P F N ops chk K rs ((i, callT [] [(d, .m es)]) :: acc) ((d, .mp d) :: env) ((d, .m es) :: mem)) : DR P F N ops chk K ((i, o) :: rs) acc env mem :=
 DR.cm hg hds (Does.callM (hc d) ho hx hu (by rw [hr]; rfl)) ⟨ht, trivial⟩ hd hK
theorem DR.lk {j T kt : Nat} {x ix : Operand} {u y0 y : V} {kv zv : Value} {es : List (Value × V)} (hg : gd ops env o = some true) (hds : o.dst = some d) (ho : o.op = .lookup T x ix false) (hx : evo env x = some (.mp j)) (hi : evo env ix = some u) (hm : aget mem j = some (.m es))
  (M : MapTy P T kt zv) (hkey : KeyV P kt u kv) (hks : KeysV P kt es) (hget : MGet es kv y0 y) (hz : ∀ w g, Rep w g y0 zv) (hd : Nat.blt d N = true) (hK : DR P F N ops chk K rs ((i, [(j, some (.m es), none)]) :: acc) ((d, y) :: env) mem) : DR P F N ops chk K ((i, o) :: rs) acc env mem :=
 DR.rr hg hds (Does.lookV M hkey hks ho hx hi hz hget) hm hd hK
theorem DR.en {j T kt n : Nat} {x ix : Operand} {u : V} {kv zv : Value} {es : List (Value × V)} (hg : gd ops env o = some true) (hds : o.dst = some d) (ho : o.op = .mapEntry T x ix) (hx : evo env x = some (.mp j)) (hi : evo env ix = some u) (hm : aget mem j = some (.m es))
  (M : MapTy P T kt zv) (hkey : KeyV P kt u kv) (hks : KeysV P kt es) (hno : MNo es kv) (hn : es.length = n) (hd : Nat.blt d N = true) (hK : DR P F N ops chk K rs ((i, [(j, some (.m es), some (.m (es ++ [(kv, .k zv)])))]) :: acc) ((d, .t [.k zv, .k (.int .i64 ((n : Nat) : Int))]) :: env) ((j, .m (es ++ [(kv, .k zv)])) :: mem)) : DR P F N ops chk K ((i, o) :: rs) acc env mem :=
 DR.ww hg hds (Does.entN M hkey hks ho hx hi hno hn) hm hd hK
theorem DR.eo {j T kt s : Nat} {x ix : Operand} {u : V} {kv zv y : Value} {es : List (Value × V)} (hg : gd ops env o = some true) (hds : o.dst = some d) (ho : o.op = .mapEntry T x ix) (hx : evo env x = some (.mp j)) (hi : evo env ix = some u) (hm : aget mem j = some (.m es))
  (M : MapTy P T kt zv) (hkey : KeyV P kt u kv) (hks : KeysV P kt es) (hat : MAt es s kv (.k y)) (hd : Nat.blt d N = true) (hK : DR P F N ops chk K rs ((i, [(j, some (.m es), some (.m es))]) :: acc) ((d, .t [.k y, .k (.int .i64 ((s : Nat) : Int))]) :: env) ((j, .m es) :: mem)) : DR P F N ops chk K ((i, o) :: rs) acc env mem :=
 DR.ww hg hds (Does.entO M hkey hks ho hx hi hat) hm hd hK
theorem DR.es {j T s : Nat} {x st y : Operand} {z : Int} {vv : Value} {es es' : List (Value × V)} (hg : gd ops env o = some true) (hds : o.dst = none) (ho : o.op = .entryStore T x st y) (hx : evo env x = some (.mp j)) (hs : evo env st = some (.k (.int .i64 z))) (hz : z = ((s : Nat) : Int)) (hy : evo env y = some (.k vv))
  (hm : aget mem j = some (.m es)) (hset : MSet es s (.k vv) es') (hK : DR P F N ops chk K rs ((i, [(j, some (.m es), some (.m es'))]) :: acc) env ((j, .m es') :: mem)) : DR P F N ops chk K ((i, o) :: rs) acc env mem :=
 DR.ss hg hds (Does.entS ho hx hs hz hy hset) hm hK
end
theorem MSet.mk' {es : List (Value × V)} {s : Nat} {kv : Value} {v0 y : V} (h : es[s]? = some (kv, v0)) : MSet es s y (es.set s (kv, y)) := ⟨kv, v0, h, rfl⟩
end Lf
open Go.RowKit Rg
namespace Lf
structure MGetO (es : List (Value × V)) (kv : Value) (y0 y : V) (b : Bool) : Prop where
 no : (∀ p ∈ es, p.1 ≠ kv) → y = y0 ∧ b = false
 yes : ∀ p ∈ es, p.1 = kv → p.2 = y ∧ b = true
section
variable {P : Program} {o : Oper} {env : Env}
theorem Does.lookO {T i kt : Nat} {x ix : Operand} {u y0 y : V} {b : Bool} {kv zv : Value} {es : List (Value × V)} (M : MapTy P T kt zv) (hkey : KeyV P kt u kv) (hks : KeysV P kt es)
    (ho : o.op = .lookup T x ix true) (hx : evo env x = some (.mp i)) (hi : evo env ix = some u) (hz : ∀ w g, Rep w g y0 zv) (hget : MGetO es kv y0 y b) : Does P o env (.t [y, .k (.bool b)]) [(i, some (.m es), none)] :=
  .read fun F g a w mem h1 h2 hm => by
    obtain ⟨e, hu, hzv⟩ := M.ex
    obtain ⟨l, hk⟩ := hkey.k
    obtain ⟨bl, off, hg, hM⟩ := h2.map hm
    obtain ⟨en, q1, q2, q3, q4⟩ := hM.own
    have r1 := h1 x (by simp [ho, Op.operands]) _ hx
    have r2 := hkey.ex _ _ _ (h1 ix (by simp [ho, Op.operands]) _ hi)
    generalize hy1 : a.eval x = m at r1
    obtain rfl : m = .map (some bl) := by
      cases r1 with
      | mp h => rw [hg] at h; cases h; rfl
    have hkeys : ∀ z ∈ en.toList, ∃ l, keyOf P kt z.key = some l := fun z hz' => by
      obtain ⟨j, hj⟩ := List.mem_iff_getElem?.1 hz'
      have hj' : en[j]? = some z := by simpa using hj
      have hlt : j < es.length := by have := (Array.getElem?_eq_some_iff.1 hj').1; omega
      have := q4 j _ _ z (List.getElem?_eq_getElem hlt) hj'
      rw [this.1]
      exact hks.all _ (List.getElem_mem hlt)
    have hat : ∀ (j : Nat) z, en[j]? = some z → ∃ p ∈ es, z.key = p.1 ∧ Rep w g.bare p.2 z.val := fun j z hj' => by
      have hlt : j < es.length := by have := (Array.getElem?_eq_some_iff.1 hj').1; omega
      have := q4 j _ _ z (List.getElem?_eq_getElem hlt) hj'
      exact ⟨_, List.getElem_mem hlt, this⟩
    have tup : ∀ {yv : Value} {bv : Bool}, Rep w g y yv → Rep w g (.t [y, .k (.bool bv)]) (.tuple #[yv, .bool bv]) := fun h => .t rfl fun j v x hj hv => by
      match j with
      | 0 => simp at hj hv; subst hj; subst hv; exact h
      | 1 => simp at hj hv; subst hj; subst hv; exact .k _
      | j + 2 => simp at hj
    rcases M.K.find w hk en.toList hkeys with ⟨p1, p2⟩ | ⟨j, z, p1, p2, p3⟩
    · obtain ⟨hyz, hb⟩ := hget.no fun p hp e1 => by
        obtain ⟨j, hj⟩ := List.mem_iff_getElem?.1 hp
        have hlt : j < en.size := by have := (List.getElem?_eq_some_iff.1 hj).1; omega
        have := q4 j p.1 p.2 _ hj (Array.getElem?_eq_getElem hlt)
        exact p2 _ (Array.getElem_mem_toList hlt) (this.1.trans e1)
      subst hb
      refine ⟨.tuple #[zv, .bool false], ?_, tup (by rw [hyz]; exact hz _ _)⟩
      simp [execOp, ho, hy1, r2, Instr.lookup, run_underlying hu, MapKept.run_getObj_map q1, M.K.check w _ hk, p1, hzv w, Result.andThen]
    · obtain ⟨p, hp, e1, e2⟩ := hat j z (by simpa using p2)
      obtain ⟨hy, hb⟩ := hget.yes p hp (e1.symm.trans p3)
      rw [hy] at e2
      subst hb
      refine ⟨.tuple #[z.val, .bool true], ?_, tup e2.of_bare⟩
      simp [execOp, ho, hy1, r2, Instr.lookup, run_underlying hu, MapKept.run_getObj_map q1, M.K.check w _ hk, p1, Result.andThen]
theorem Does.setN {T i kt : Nat} {x ix y : Operand} {u v v' : V} {kv zv : Value} {es : List (Value × V)} (M : MapTy P T kt zv) (hkey : KeyV P kt u kv) (hks : KeysV P kt es)
  (ho : o.op = .mapUpdate T x ix y) (hx : evo env x = some (.mp i)) (hi : evo env ix = some u) (hy : evo env y = some v) (hb : v.bare = some v') (hno : MNo es kv) : Does P o env (.k undef) [(i, some (.m es), some (.m (es ++ [(kv, v')])))] := by
 refine ⟨fun F g a w mem h1 h2 h3 h4 _ K' Q hK => ?_⟩
 obtain ⟨e, hu, hzv⟩ := M.ex
 obtain ⟨l, hk⟩ := hkey.k
 have hm := h4 _ _ _ mem_one
 obtain ⟨b, off, hg, hM⟩ := h2.map hm
 obtain ⟨en, q1, q2, q3, q4⟩ := hM.own
 have r1 := h1 x (by simp [ho, Op.operands]) _ hx
 have r2 := hkey.ex _ _ _ (h1 ix (by simp [ho, Op.operands]) _ hi)
 have r3 := (h1 y (by simp [ho, Op.operands]) _ hy).to_bare hb
 generalize hy1 : a.eval x = m at r1
 obtain rfl : m = .map (some b) := by
  cases r1 with
  | mp h => rw [hg] at h; cases h; rfl
 have hkeys : ∀ z ∈ en.toList, (∃ l, keyOf P kt z.key = some l) ∧ z.key ≠ kv := fun z hz' => by
  obtain ⟨j, hj⟩ := List.mem_iff_getElem?.1 hz'
  have hj' : en[j]? = some z := by simpa using hj
  have hlt : j < es.length := by have := (Array.getElem?_eq_some_iff.1 hj').1; omega
  have := q4 j _ _ z (List.getElem?_eq_getElem hlt) hj'
  rw [this.1]
  exact ⟨hks.all _ (List.getElem_mem hlt), hno.no _ (List.getElem_mem hlt)⟩
 rcases M.K.find w hk en.toList (fun z hz' => (hkeys z hz').1) with ⟨p1, p2⟩ | ⟨j, z, p1, p2, p3⟩
 ·have hsz : (en.push { key := kv, val := a.eval y, born := en.size }).size = en.size + 1 := by simp
  obtain ⟨k1, k2, k3⟩ := h2.setMap h3 (es' := es ++ [(kv, v')]) (en' := en.push { key := kv, val := a.eval y, born := en.size }) hm hg hM (by simp [q2]) (fun j z hj => by
   rw [Array.getElem?_push] at hj
   split at hj
   ·cases hj; simp; omega
   ·exact q3 j z hj) (fun j k v z h1 h2 => by
   rw [Array.getElem?_push] at h2
   split at h2
   ·rename_i e1
    cases h2
    rw [e1, q2, List.getElem?_append_right (Nat.le_refl _)] at h1
    simp at h1
    obtain ⟨rfl, rfl⟩ := h1
    exact ⟨rfl, r3⟩
   ·have hlt := (Array.getElem?_eq_some_iff.1 h2).1
    rw [List.getElem?_append_left (by omega)] at h1
    exact q4 j k v z h1 h2)
  unfold Oper.wp
  have hrun : (execOp a.eval o).run P w = .ok .skip { w with heap := w.heap.setIfInBounds b (.map (en.push { key := kv, val := a.eval y, born := en.size }) (en.push { key := kv, val := a.eval y, born := en.size }).size) } := by
   rw [hsz]
   simp [execOp, ho, hy1, r2, Instr.mapUpdate, run_underlying hu, MapKept.run_getObj_map q1, M.K.check w _ hk, p1, Result.andThen, MapKept.run_setObj_map _ q1]
  rw [hrun]
  exact hK _ g _ k1 k2 k3 (.k _)
 ·exact absurd p3 (hkeys z (List.mem_of_getElem? p2)).2
theorem Does.setO {T i kt s : Nat} {x ix y : Operand} {u v v' v0 : V} {kv zv : Value} {es : List (Value × V)} (M : MapTy P T kt zv) (hkey : KeyV P kt u kv) (hks : KeysV P kt es)
    (ho : o.op = .mapUpdate T x ix y) (hx : evo env x = some (.mp i)) (hi : evo env ix = some u) (hy : evo env y = some v) (hb : v.bare = some v') (hat' : MAt es s kv v0) : Does P o env (.k undef) [(i, some (.m es), some (.m (es.set s (kv, v'))))] := by
  refine ⟨fun F g a w mem h1 h2 h3 h4 _ K' Q hK => ?_⟩
  obtain ⟨e, hu, hzv⟩ := M.ex
  obtain ⟨l, hk⟩ := hkey.k
  have hp := hat'.at_
  have hm := h4 _ _ _ mem_one
  obtain ⟨b, off, hg, hM⟩ := h2.map hm
  obtain ⟨en, q1, q2, q3, q4⟩ := hM.own
  have r1 := h1 x (by simp [ho, Op.operands]) _ hx
  have r2 := hkey.ex _ _ _ (h1 ix (by simp [ho, Op.operands]) _ hi)
  have r3 := (h1 y (by simp [ho, Op.operands]) _ hy).to_bare hb
  generalize hy1 : a.eval x = m at r1
  obtain rfl : m = .map (some b) := by
    cases r1 with
    | mp h => rw [hg] at h; cases h; rfl
  have hat : ∀ (j : Nat) z, en[j]? = some z → ∃ p, es[j]? = some p ∧ z.key = p.1 ∧ Rep w g.bare p.2 z.val := fun j z hj' => by
    have hlt : j < es.length := by have := (Array.getElem?_eq_some_iff.1 hj').1; omega
    have := q4 j _ _ z (List.getElem?_eq_getElem hlt) hj'
    exact ⟨_, List.getElem?_eq_getElem hlt, this⟩
  rcases M.K.find w hk en.toList (fun z hz' => by
      obtain ⟨j, hj⟩ := List.mem_iff_getElem?.1 hz'
      obtain ⟨p, hp1, hp2, _⟩ := hat j z (by simpa using hj)
      rw [hp2]
      exact hks.all _ (List.mem_of_getElem? hp1)) with ⟨p1, p2⟩ | ⟨j, z, p1, p2, p3⟩
  · have hlt : s < en.size := by have := (List.getElem?_eq_some_iff.1 hp).1; omega
    exact absurd (q4 s _ _ _ hp (Array.getElem?_eq_getElem hlt)).1 (p2 _ (Array.getElem_mem_toList hlt))
  · have hj : en[j]? = some z := by simpa using p2
    obtain ⟨p, hp1, hp2, hp3⟩ := hat j z hj
    obtain rfl : j = s := hat'.one j p hp1 (hp2.symm.trans p3)
    have hsz : (en.modify j fun e => { e with key := kv, val := a.eval y }).size = en.size := by simp
    obtain ⟨k1, k2, k3⟩ := h2.setMap h3 (es' := es.set j (kv, v')) (en' := en.modify j fun e => { e with key := kv, val := a.eval y }) hm hg hM (by rw [hsz, q2]; simp) (fun k z' hz' => by
      rw [Array.getElem?_modify] at hz'
      split at hz'
      · rename_i e1
        subst e1
        rw [hj] at hz'
        simp at hz'
        subst hz'
        exact q3 j z hj
      · exact q3 k z' hz') (fun k k' v z' h1 h2 => by
      rw [Array.getElem?_modify] at h2
      rw [List.getElem?_set] at h1
      split at h2
      · rename_i e1
        subst e1
        rw [hj] at h2
        simp at h2
        subst h2
        have hlt : j < es.length := (List.getElem?_eq_some_iff.1 hp).1
        rw [if_pos rfl, if_pos hlt] at h1
        cases h1
        exact ⟨rfl, r3⟩
      · rename_i e1
        rw [if_neg (fun e => e1 e)] at h1
        exact q4 k k' v z' h1 h2)
    unfold Oper.wp
    have hrun : (execOp a.eval o).run P w = .ok .skip { w with heap := w.heap.setIfInBounds b (.map (en.modify j fun e => { e with key := kv, val := a.eval y }) (en.modify j fun e => { e with key := kv, val := a.eval y }).size) } := by
      rw [hsz]
      have hst := M.K.stays w hk
      simp [execOp, ho, hy1, r2, Instr.mapUpdate, run_underlying hu, MapKept.run_getObj_map q1, M.K.check w _ hk, p1, hj, p3, hst, Result.andThen, MapKept.run_setObj_map _ q1]
    rw [hrun]
    exact hK _ g _ k1 k2 k3 (.k _)
end
section
variable {P : Program} {F : Fr0} {N : Nat} {ops : Array Oper} {chk : List (Nat × Tch) → Bool} {K : Env → Mem → Prop} {acc : List (Nat × Tch)} {env : Env} {mem : Mem} {i d : Nat} {o : Oper} {rs : List (Nat × Oper)}
theorem DR.lo {j T kt : Nat} {x ix : Operand} {u y0 y : V} {b : Bool} {kv zv : Value} {es : List (Value × V)} (hg : gd ops env o = some true) (hds : o.dst = some d) (ho : o.op = .lookup T x ix true) (hx : evo env x = some (.mp j)) (hi : evo env ix = some u) (hm : aget mem j = some (.m es))
  (M : MapTy P T kt zv) (hkey : KeyV P kt u kv) (hks : KeysV P kt es) (hget : MGetO es kv y0 y b) (hz : ∀ w g, Rep w g y0 zv) (hd : Nat.blt d N = true) (hK : DR P F N ops chk K rs ((i, [(j, some (.m es), none)]) :: acc) ((d, .t [y, .k (.bool b)]) :: env) mem) : DR P F N ops chk K ((i, o) :: rs) acc env mem :=
 DR.rr hg hds (Does.lookO M hkey hks ho hx hi hz hget) hm hd hK
theorem DR.sn {j T kt : Nat} {x ix y : Operand} {u v v' : V} {kv zv : Value} {es es' : List (Value × V)} (hg : gd ops env o = some true) (hds : o.dst = none) (ho : o.op = .mapUpdate T x ix y) (hx : evo env x = some (.mp j)) (hi : evo env ix = some u) (hy : evo env y = some v) (hm : aget mem j = some (.m es))
  (M : MapTy P T kt zv) (hkey : KeyV P kt u kv) (hks : KeysV P kt es) (hno : MNo es kv) (hb : v.bare = some v') (hes : es ++ [(kv, v')] = es') (hK : DR P F N ops chk K rs ((i, [(j, some (.m es), some (.m es'))]) :: acc) env ((j, .m es') :: mem)) : DR P F N ops chk K ((i, o) :: rs) acc env mem := by
 subst hes
 exact DR.ss hg hds (Does.setN M hkey hks ho hx hi hy hb hno) hm hK
theorem DR.so {j T kt s : Nat} {x ix y : Operand} {u v v' v0 : V} {kv zv : Value} {es es' : List (Value × V)} (hg : gd ops env o = some true) (hds : o.dst = none) (ho : o.op = .mapUpdate T x ix y) (hx : evo env x = some (.mp j)) (hi : evo env ix = some u) (hy : evo env y = some v) (hm : aget mem j = some (.m es))
  (M : MapTy P T kt zv) (hkey : KeyV P kt u kv) (hks : KeysV P kt es) (hat : MAt es s kv v0) (hb : v.bare = some v') (hes : es.set s (kv, v') = es') (hK : DR P F N ops chk K rs ((i, [(j, some (.m es), some (.m es'))]) :: acc) env ((j, .m es') :: mem)) : DR P F N ops chk K ((i, o) :: rs) acc env mem := by
 subst hes
 exact DR.ss hg hds (Does.setO M hkey hks ho hx hi hy hb hat) hm hK
end
end Lf
set_option linter.unusedVariables false
open Go.RowKit Rg
set_option maxRecDepth 100000
namespace Lf
theorem BufAt.take {g : Gh} {w : World} {a : Option Nat} {E sz c : Nat} {es : List V} (h : BufAt g w a E sz es c) {m : Nat} (hm : m ≤ es.length) : BufAt g w a E sz (es.take m) c := by
 obtain ⟨p, hc, ⟨xs, ho, hr⟩, hf⟩ := h
 have hl : (es.take m).length = m := by rw [List.length_take]; omega
 have hms : m * sz ≤ es.length * sz := Nat.mul_le_mul_right _ hm
 refine ⟨p, fun e he => hc e (List.mem_of_mem_take he), ⟨xs.take (m * sz), ⟨?_, ?_⟩, fun j u x hj hx => ?_⟩, hf⟩
 ·rw [List.length_take, ho.1, hl]; omega
 ·rw [hl]
  rcases ho.2 with ⟨e, hn⟩ | ⟨g0, cap, cur, fz, e, k1, k2, k3, k4, k5, k6, k7⟩
  ·left
   have h0 : m = 0 := by omega
   subst h0
   rw [hn] at e
   exact ⟨e, rfl⟩
  ·right
   injection e with e1 e2 e3
   refine ⟨g0, cap, cur, fz, by rw [e1, e3], k1, k2, by omega, k4, k5, ?_, k7⟩
   rw [← k6, List.take_take, Nat.min_eq_left hms]
 ·refine hr j u x ?_ ?_
  ·have e : es.flatMap V.cells = (es.take m).flatMap V.cells ++ (es.drop m).flatMap V.cells := by rw [← List.flatMap_append, List.take_append_drop]
   rw [e, List.getElem?_append_left (List.getElem?_eq_some_iff.1 hj).1]
   exact hj
  ·rw [List.getElem?_take] at hx
   split at hx
   ·exact hx
   ·cases hx
section
variable {P : Program} {F : Fr0} {N : Nat} {Q : LQ} {env : Env} {mem : Mem}
theorem RelM.shrink {g : Gh} {w : World} {r E sz gen m : Nat} {es : List V} (h : RelM F g mem w) (hr : aget mem r = some (.w E sz gen es)) (hm : m ≤ es.length) : RelM F g ((r, .w E sz gen (es.take m)) :: mem) w := by
 have old : ∀ {i : Nat} {z : M}, aget ((r, M.w E sz gen (es.take m)) :: mem) i = some z → ∃ z', aget mem i = some z' ∧ ∀ b o, fp g i z b o → fp g i z' b o := fun {i z} hi => by
  rw [aget_cons] at hi
  split at hi
  ·rename_i e; subst e; cases hi
   exact ⟨_, hr, fun b o hf => hf⟩
  ·exact ⟨_, hi, fun _ _ hf => hf⟩
 have non : ∀ i, aget ((r, M.w E sz gen (es.take m)) :: mem) i = none → aget mem i = none := fun i hi => by
  rw [aget_cons] at hi
  split at hi
  ·cases hi
  ·exact hi
 refine ⟨fun i z hi => ?_, fun i z b o hi hf => ?_, fun i j z z' b o hij hi hj hf hf' => ?_, fun i hi => h.nbx i (non i hi), fun i hi => h.nrw i (non i hi), h.fut, h.loc⟩
 ·rw [aget_cons] at hi
  split at hi
  ·rename_i e; subst e; cases hi
   have hko := h.ob _ _ hr
   cases hko with
   | @w _ _ _ c _ a hg hB => exact .w hg (hB.take hm)
  ·exact h.ob i z hi
 ·obtain ⟨y, h1, h2⟩ := old hi
  exact h.wr i y b o h1 (h2 b o hf)
 ·obtain ⟨y, h1, h2⟩ := old hi
  obtain ⟨y', h1', h2'⟩ := old hj
  exact h.dj i j y y' b o hij h1 h1' (h2 b o hf) (h2' b o hf')
theorem LC.shrink {c : Code} {es es' : List V} {gen E sz : Nat} (r m : Nat) (hr : aget mem r = some (.w E sz gen es)) (hm : m ≤ es.length) (he : es.take m = es') (h : LC P F N c Q env ((r, .w E sz gen es') :: mem)) : LC P F N c Q env mem := ⟨fun F0 hx g a w hrel => by
 subst he
 exact h.go F0 hx g a w ⟨hrel.env, hrel.mem.shrink hr hm, hrel.kept, hrel.defers, hrel.size, hrel.big⟩⟩
structure ShrAt (i j r : Nat) : Prop where
 on : True
theorem LC.shrR {i j r E sz gen n : Nat} {cs es es' : List V} (_h : ShrAt i j r) (hi : aget mem i = some (.b cs)) (hj : cs[j]? = some (.w r gen sz 0 n)) (hr : aget mem r = some (.w E sz gen es)) (hn : n < es.length) (he : es.take n = es') (h : LC P F N .ret Q env ((r, .w E sz gen es') :: mem)) : LC P F N .ret Q env mem :=
 LC.shrink r n hr (Nat.le_of_lt hn) he h
end
structure StopAt (id : Nat) : Prop where
 on : True
structure Stp (p : Prop) : Prop where
 go : p
theorem LC.stop {P : Program} {F : Fr0} {N : Nat} {Q : LQ} {env : Env} {mem : Mem} {id : Nat} {ops : Array Oper} {d : Bool} (_h : StopAt id) (h : Stp (LC P F N (.region id ops d) Q env mem)) : LC P F N (.region id ops d) Q env mem := h.go
end Lf
open Go.RowKit Rg
namespace Lf
section
variable {F : Fr0} {g : Gh} {mem : Mem} {w : World}
theorem RelM.newMapD (h : RelM F g mem w) (hk : Kept F g w) {i : Nat} (hi : aget mem i = none) :
  ∃ g', g'.bx i = some (w.heap.size, 0) ∧ Ev g w g' (w.alloc (.map #[] 0)) ∧ RelM F g' ((i, .d [] none) :: mem) (w.alloc (.map #[] 0)) ∧ Kept F g' (w.alloc (.map #[] 0)) := by
 have hbi : (g.newB i w.heap.size 0).bx i = some (w.heap.size, 0) := by simp [Gh.newB]
 refine ⟨_, hbi, h.newB hk hi (.d hbi ⟨⟨#[], 0, ?_, rfl, fun j e he => by simp at he, by simp, (fun bs c e => by cases e), fun j k v e hj => by simp at hj⟩, fun o hs => ?_⟩) fun b o' ⟨off, hp⟩ => by rw [hbi] at hp; cases hp; rfl⟩
 ·exact heap_alloc_at w _
 ·have := hs.2 rfl
  omega
theorem RelM.setMapD (h : RelM F g mem w) (hk : Kept F g w) {i b off clk : Nat} {es es' : List (Value × V)} {st : Option (List Nat × Nat)} {en' : Array MapEntry} (hi : aget mem i = some (.d es st)) (hb : g.bx i = some (b, off)) (hM : MapD g w b es st) (hs : en'.size = es'.length) (hborn : ∀ (j : Nat) e, en'[j]? = some e → e.born < clk) (hnd : (en'.toList.map (·.born)).Nodup)
  (hrep : ∀ (j : Nat) k v e, es'[j]? = some (k, v) → en'[j]? = some e → e.key = k ∧ Rep w g.bare v e.val) :
  Ev g w g { w with heap := w.heap.setIfInBounds b (.map en' clk) } ∧ RelM F g ((i, .d es' none) :: mem) { w with heap := w.heap.setIfInBounds b (.map en' clk) } ∧ Kept F g { w with heap := w.heap.setIfInBounds b (.map en' clk) } := by
 obtain ⟨en, c0, q1, _⟩ := hM.own
 have hlt : b < w.heap.size := (Array.getElem?_eq_some_iff.1 q1).1
 refine h.setO hk hi (fun b o => Iff.rfl) hb hM.free rfl rfl rfl rfl (fun he => .d hb ⟨⟨en', clk, ?_, hs, hborn, hnd, (fun bs c e => by cases e), fun j k v e h1 h2 => ⟨(hrep j k v e h1 h2).1, (hrep j k v e h1 h2).2.mono he.bare⟩⟩, hM.free⟩) (fun b o hp => hp)
 show (w.heap.setIfInBounds b (.map en' clk))[b]? = _
 rw [Array.getElem?_setIfInBounds_self_of_lt hlt]
end
theorem d_at {g : Gh} {w : World} {en : Array MapEntry} {es : List (Value × V)} (q2 : en.size = es.length) (q4 : ∀ (j : Nat) k v e, es[j]? = some (k, v) → en[j]? = some e → e.key = k ∧ Rep w g v e.val) (j : Nat) (z : MapEntry) (hj : en[j]? = some z) : ∃ p, es[j]? = some p ∧ z.key = p.1 ∧ Rep w g p.2 z.val := by
 have hlt : j < es.length := by have := (Array.getElem?_eq_some_iff.1 hj).1; omega
 have := q4 j _ _ z (List.getElem?_eq_getElem hlt) hj
 exact ⟨_, List.getElem?_eq_getElem hlt, this⟩
theorem d_keys {P : Program} {kt : Nat} {g : Gh} {w : World} {en : Array MapEntry} {es : List (Value × V)} (hks : KeysV P kt es) (q2 : en.size = es.length) (q4 : ∀ (j : Nat) k v e, es[j]? = some (k, v) → en[j]? = some e → e.key = k ∧ Rep w g v e.val) : ∀ z ∈ en.toList, ∃ l, keyOf P kt z.key = some l := fun z hz => by
 obtain ⟨j, hj⟩ := List.mem_iff_getElem?.1 hz
 obtain ⟨p, hp, e, _⟩ := d_at q2 q4 j z (by simpa using hj)
 rw [e]
 exact hks.all _ (List.mem_of_getElem? hp)
section
variable {P : Program} {o : Oper} {env : Env}
theorem Does.makeMapD {T : Nat} (i : Nat) (ho : o.op = .makeMap T none) : Does P o env (.mp i) [(i, none, some (.d [] none))] := by
 refine ⟨fun F g a w mem _ h2 h3 h4 _ K Q hK => ?_⟩
 obtain ⟨g', k1, k2, k3, k4⟩ := h2.newMapD h3 (i := i) (h4 _ _ _ mem_one)
 unfold Oper.wp
 have hrun : (execOp a.eval o).run P w = .ok (.value (.map (some w.heap.size))) (w.alloc (.map #[] 0)) := by
  simp [execOp, ho, Instr.makeMap]
 rw [hrun]
 exact hK _ g' _ k2 k3 k4 (.mp k1)
theorem Does.lookVD {T i kt : Nat} {x ix : Operand} {u y0 y : V} {kv zv : Value} {es : List (Value × V)} {st : Option (List Nat × Nat)} (M : MapTy P T kt zv) (hkey : KeyV P kt u kv) (hks : KeysV P kt es)
    (ho : o.op = .lookup T x ix false) (hx : evo env x = some (.mp i)) (hi : evo env ix = some u) (hz : ∀ w g, Rep w g y0 zv) (hget : MGet es kv y0 y) : Does P o env y [(i, some (.d es st), none)] :=
  .read fun F g a w mem h1 h2 hm => by
    obtain ⟨e, hu, hzv⟩ := M.ex
    obtain ⟨l, hk⟩ := hkey.k
    obtain ⟨b, off, hg, hM⟩ := h2.mapD hm
    obtain ⟨en, clk, q1, q2, q3, _, _, q4⟩ := hM.own
    have r1 := h1 x (by simp [ho, Op.operands]) _ hx
    have r2 := hkey.ex _ _ _ (h1 ix (by simp [ho, Op.operands]) _ hi)
    generalize hy1 : a.eval x = m at r1
    obtain rfl : m = .map (some b) := by
      cases r1 with
      | mp h => rw [hg] at h; cases h; rfl
    rcases M.K.find w hk en.toList (d_keys hks q2 q4) with ⟨p1, p2⟩ | ⟨j, z, p1, p2, p3⟩
    · have hyz : y = y0 := hget.no fun p hp e1 => by
        obtain ⟨j, hj⟩ := List.mem_iff_getElem?.1 hp
        have hlt : j < en.size := by have := (List.getElem?_eq_some_iff.1 hj).1; omega
        have := q4 j p.1 p.2 _ hj (Array.getElem?_eq_getElem hlt)
        exact p2 _ (Array.getElem_mem_toList hlt) (this.1.trans e1)
      refine ⟨zv, ?_, by rw [hyz]; exact hz _ _⟩
      simp [execOp, ho, hy1, r2, Instr.lookup, run_underlying hu, MapKept.run_getObj_map q1, M.K.check w _ hk, p1, hzv w, Result.andThen]
    · obtain ⟨p, hp, e1, e2⟩ := d_at q2 q4 j z (by simpa using p2)
      rw [hget.yes p (List.mem_of_getElem? hp) (e1.symm.trans p3)] at e2
      refine ⟨z.val, ?_, e2.of_bare⟩
      simp [execOp, ho, hy1, r2, Instr.lookup, run_underlying hu, MapKept.run_getObj_map q1, M.K.check w _ hk, p1, Result.andThen]
theorem Does.lookOD {T i kt : Nat} {x ix : Operand} {u y0 y : V} {b : Bool} {kv zv : Value} {es : List (Value × V)} {st : Option (List Nat × Nat)} (M : MapTy P T kt zv) (hkey : KeyV P kt u kv) (hks : KeysV P kt es)
    (ho : o.op = .lookup T x ix true) (hx : evo env x = some (.mp i)) (hi : evo env ix = some u) (hz : ∀ w g, Rep w g y0 zv) (hget : MGetO es kv y0 y b) : Does P o env (.t [y, .k (.bool b)]) [(i, some (.d es st), none)] :=
  .read fun F g a w mem h1 h2 hm => by
    obtain ⟨e, hu, hzv⟩ := M.ex
    obtain ⟨l, hk⟩ := hkey.k
    obtain ⟨bl, off, hg, hM⟩ := h2.mapD hm
    obtain ⟨en, clk, q1, q2, q3, _, _, q4⟩ := hM.own
    have r1 := h1 x (by simp [ho, Op.operands]) _ hx
    have r2 := hkey.ex _ _ _ (h1 ix (by simp [ho, Op.operands]) _ hi)
    generalize hy1 : a.eval x = m at r1
    obtain rfl : m = .map (some bl) := by
      cases r1 with
      | mp h => rw [hg] at h; cases h; rfl
    have tup : ∀ {yv : Value} {bv : Bool}, Rep w g y yv → Rep w g (.t [y, .k (.bool bv)]) (.tuple #[yv, .bool bv]) := fun h => .t rfl fun j v x hj hv => by
      match j with
      | 0 => simp at hj hv; subst hj; subst hv; exact h
      | 1 => simp at hj hv; subst hj; subst hv; exact .k _
      | j + 2 => simp at hj
    rcases M.K.find w hk en.toList (d_keys hks q2 q4) with ⟨p1, p2⟩ | ⟨j, z, p1, p2, p3⟩
    · obtain ⟨hyz, hb⟩ := hget.no fun p hp e1 => by
        obtain ⟨j, hj⟩ := List.mem_iff_getElem?.1 hp
        have hlt : j < en.size := by have := (List.getElem?_eq_some_iff.1 hj).1; omega
        have := q4 j p.1 p.2 _ hj (Array.getElem?_eq_getElem hlt)
        exact p2 _ (Array.getElem_mem_toList hlt) (this.1.trans e1)
      subst hb
      refine ⟨.tuple #[zv, .bool false], ?_, tup (by rw [hyz]; exact hz _ _)⟩
      simp [execOp, ho, hy1, r2, Instr.lookup, run_underlying hu, MapKept.run_getObj_map q1, M.K.check w _ hk, p1, hzv w, Result.andThen]
    · obtain ⟨p, hp, e1, e2⟩ := d_at q2 q4 j z (by simpa using p2)
      obtain ⟨hy, hb⟩ := hget.yes p (List.mem_of_getElem? hp) (e1.symm.trans p3)
      rw [hy] at e2
      subst hb
      refine ⟨.tuple #[z.val, .bool true], ?_, tup e2.of_bare⟩
      simp [execOp, ho, hy1, r2, Instr.lookup, run_underlying hu, MapKept.run_getObj_map q1, M.K.check w _ hk, p1, Result.andThen]
theorem Does.setND {T i kt : Nat} {x ix y : Operand} {u v v' : V} {kv zv : Value} {es : List (Value × V)} {st : Option (List Nat × Nat)} (M : MapTy P T kt zv) (hkey : KeyV P kt u kv) (hks : KeysV P kt es)
    (ho : o.op = .mapUpdate T x ix y) (hx : evo env x = some (.mp i)) (hi : evo env ix = some u) (hy : evo env y = some v) (hb : v.bare = some v') (hno : MNo es kv) : Does P o env (.k undef) [(i, some (.d es st), some (.d (es ++ [(kv, v')]) none))] := by
  refine ⟨fun F g a w mem h1 h2 h3 h4 _ K' Q hK => ?_⟩
  obtain ⟨e, hu, hzv⟩ := M.ex
  obtain ⟨l, hk⟩ := hkey.k
  have hm := h4 _ _ _ mem_one
  obtain ⟨b, off, hg, hM⟩ := h2.mapD hm
  obtain ⟨en, clk, q1, q2, q3, q5, _, q4⟩ := hM.own
  have r1 := h1 x (by simp [ho, Op.operands]) _ hx
  have r2 := hkey.ex _ _ _ (h1 ix (by simp [ho, Op.operands]) _ hi)
  have r3 := (h1 y (by simp [ho, Op.operands]) _ hy).to_bare hb
  generalize hy1 : a.eval x = m at r1
  obtain rfl : m = .map (some b) := by
    cases r1 with
    | mp h => rw [hg] at h; cases h; rfl
  have hne : ∀ z ∈ en.toList, z.key ≠ kv := fun z hz => by
    obtain ⟨j, hj⟩ := List.mem_iff_getElem?.1 hz
    obtain ⟨p, hp, e, _⟩ := d_at q2 q4 j z (by simpa using hj)
    rw [e]
    exact hno.no _ (List.mem_of_getElem? hp)
  rcases M.K.find w hk en.toList (d_keys hks q2 q4) with ⟨p1, p2⟩ | ⟨j, z, p1, p2, p3⟩
  · obtain ⟨k1, k2, k3⟩ := h2.setMapD h3 (clk := clk + 1) (es' := es ++ [(kv, v')]) (en' := en.push { key := kv, val := a.eval y, born := clk }) hm hg hM (by simp [q2]) (fun j z hj => by
      rw [Array.getElem?_push] at hj
      split at hj
      · cases hj; simp
      · have := q3 j z hj; omega) (by
      rw [Array.toList_push, List.map_append, List.nodup_append]
      refine ⟨q5, by simp, fun x hx y hy => ?_⟩
      simp only [List.map_cons, List.map_nil, List.mem_singleton] at hy
      subst hy
      obtain ⟨z, hz, rfl⟩ := List.mem_map.1 hx
      obtain ⟨j, hj⟩ := List.mem_iff_getElem?.1 hz
      have := q3 j z (by simpa using hj)
      omega) (fun j k v z h1 h2 => by
      rw [Array.getElem?_push] at h2
      split at h2
      · rename_i e1
        cases h2
        rw [e1, q2, List.getElem?_append_right (Nat.le_refl _)] at h1
        simp at h1
        obtain ⟨rfl, rfl⟩ := h1
        exact ⟨rfl, r3⟩
      · have hlt := (Array.getElem?_eq_some_iff.1 h2).1
        rw [List.getElem?_append_left (by omega)] at h1
        exact q4 j k v z h1 h2)
    unfold Oper.wp
    have hrun : (execOp a.eval o).run P w = .ok .skip { w with heap := w.heap.setIfInBounds b (.map (en.push { key := kv, val := a.eval y, born := clk }) (clk + 1)) } := by
      simp [execOp, ho, hy1, r2, Instr.mapUpdate, run_underlying hu, MapKept.run_getObj_map q1, M.K.check w _ hk, p1, Result.andThen, MapKept.run_setObj_map _ q1]
    rw [hrun]
    exact hK _ g _ k1 k2 k3 (.k _)
  · exact absurd p3 (hne z (List.mem_of_getElem? p2))
theorem Does.setOD {T i kt s : Nat} {x ix y : Operand} {u v v' v0 : V} {kv zv : Value} {es : List (Value × V)} {st : Option (List Nat × Nat)} (M : MapTy P T kt zv) (hkey : KeyV P kt u kv) (hks : KeysV P kt es)
  (ho : o.op = .mapUpdate T x ix y) (hx : evo env x = some (.mp i)) (hi : evo env ix = some u) (hy : evo env y = some v) (hb : v.bare = some v') (hat' : MAt es s kv v0) : Does P o env (.k undef) [(i, some (.d es st), some (.d (es.set s (kv, v')) none))] := by
 refine ⟨fun F g a w mem h1 h2 h3 h4 _ K' Q hK => ?_⟩
 obtain ⟨e, hu, hzv⟩ := M.ex
 obtain ⟨l, hk⟩ := hkey.k
 have hp := hat'.at_
 have hm := h4 _ _ _ mem_one
 obtain ⟨b, off, hg, hM⟩ := h2.mapD hm
 obtain ⟨en, clk, q1, q2, q3, q5, _, q4⟩ := hM.own
 have r1 := h1 x (by simp [ho, Op.operands]) _ hx
 have r2 := hkey.ex _ _ _ (h1 ix (by simp [ho, Op.operands]) _ hi)
 have r3 := (h1 y (by simp [ho, Op.operands]) _ hy).to_bare hb
 generalize hy1 : a.eval x = m at r1
 obtain rfl : m = .map (some b) := by
  cases r1 with
  | mp h => rw [hg] at h; cases h; rfl
 rcases M.K.find w hk en.toList (d_keys hks q2 q4) with ⟨p1, p2⟩ | ⟨j, z, p1, p2, p3⟩
 ·have hlt : s < en.size := by have := (List.getElem?_eq_some_iff.1 hp).1; omega
  exact absurd (q4 s _ _ _ hp (Array.getElem?_eq_getElem hlt)).1 (p2 _ (Array.getElem_mem_toList hlt))
 ·have hj : en[j]? = some z := by simpa using p2
  obtain ⟨p, hp1, hp2, hp3⟩ := d_at q2 q4 j z hj
  obtain rfl : j = s := hat'.one j p hp1 (hp2.symm.trans p3)
  have hbn : (en.modify j fun e => { e with key := kv, val := a.eval y }).toList.map (·.born) = en.toList.map (·.born) := by
   apply List.ext_getElem?
   intro k
   simp only [List.getElem?_map, Array.getElem?_toList, Array.getElem?_modify]
   split
   ·cases en[k]? <;> rfl
   ·rfl
  have hsz : (en.modify j fun e => { e with key := kv, val := a.eval y }).size = en.size := by simp
  obtain ⟨k1, k2, k3⟩ := h2.setMapD h3 (clk := clk) (es' := es.set j (kv, v')) (en' := en.modify j fun e => { e with key := kv, val := a.eval y }) hm hg hM (by rw [hsz, q2]; simp) (fun k z' hz' => by
   rw [Array.getElem?_modify] at hz'
   split at hz'
   ·rename_i e1
    subst e1
    rw [hj] at hz'
    simp at hz'
    subst hz'
    exact q3 j z hj
   ·exact q3 k z' hz') (by rw [hbn]; exact q5) (fun k k' v z' h1 h2 => by
   rw [Array.getElem?_modify] at h2
   rw [List.getElem?_set] at h1
   split at h2
   ·rename_i e1
    subst e1
    rw [hj] at h2
    simp at h2
    subst h2
    have hlt : j < es.length := (List.getElem?_eq_some_iff.1 hp).1
    rw [if_pos rfl, if_pos hlt] at h1
    cases h1
    exact ⟨rfl, r3⟩
   ·rename_i e1
    rw [if_neg (fun e => e1 e)] at h1
    exact q4 k k' v z' h1 h2)
  unfold Oper.wp
  have hrun : (execOp a.eval o).run P w = .ok .skip { w with heap := w.heap.setIfInBounds b (.map (en.modify j fun e => { e with key := kv, val := a.eval y }) clk) } := by
   have hst := M.K.stays w hk
   simp [execOp, ho, hy1, r2, Instr.mapUpdate, run_underlying hu, MapKept.run_getObj_map q1, M.K.check w _ hk, p1, hj, p3, hst, Result.andThen, MapKept.run_setObj_map _ q1]
  rw [hrun]
  exact hK _ g _ k1 k2 k3 (.k _)
structure MDel (es : List (Value × V)) (kv : Value) (es' : List (Value × V)) : Prop where
 no : (∀ p ∈ es, p.1 ≠ kv) → es' = es
 at_ : ∀ (s : Nat) p, es[s]? = some p → p.1 = kv → es' = es.eraseIdx s
theorem Does.delD {T Tk i kt : Nat} {x ix : Operand} {u : V} {kv zv : Value} {es es' : List (Value × V)} {st : Option (List Nat × Nat)} (M : MapTy P T kt zv) (hkey : KeyV P kt u kv) (hks : KeysV P kt es)
    (ho : o.op = .call { callee := .builtin .delete, args := #[x, ix], argTypes := #[T, Tk] }) (hx : evo env x = some (.mp i)) (hi : evo env ix = some u) (hdel : MDel es kv es') : Does P o env (.t []) [(i, some (.d es st), some (.d es' none))] := by
  refine ⟨fun F g a w mem h1 h2 h3 h4 _ K' Q hK => ?_⟩
  obtain ⟨e, hu, hzv⟩ := M.ex
  obtain ⟨l, hk⟩ := hkey.k
  have hm := h4 _ _ _ mem_one
  obtain ⟨b, off, hg, hM⟩ := h2.mapD hm
  obtain ⟨en, clk, q1, q2, q3, q5, _, q4⟩ := hM.own
  have r1 := h1 x (by simp [ho, Op.operands, Call.operands]) _ hx
  have r2 := hkey.ex _ _ _ (h1 ix (by simp [ho, Op.operands, Call.operands]) _ hi)
  generalize hy1 : a.eval x = m at r1
  obtain rfl : m = .map (some b) := by
    cases r1 with
    | mp h => rw [hg] at h; cases h; rfl
  rcases M.K.find w hk en.toList (d_keys hks q2 q4) with ⟨p1, p2⟩ | ⟨j, z, p1, p2, p3⟩
  · have hes : es' = es := hdel.no fun p hp e1 => by
      obtain ⟨j, hj⟩ := List.mem_iff_getElem?.1 hp
      have hlt : j < en.size := by have := (List.getElem?_eq_some_iff.1 hj).1; omega
      have := q4 j p.1 p.2 _ hj (Array.getElem?_eq_getElem hlt)
      exact p2 _ (Array.getElem_mem_toList hlt) (this.1.trans e1)
    subst hes
    obtain ⟨k1, k2, k3⟩ := h2.setMapD h3 (clk := clk) (es' := es') (en' := en) hm hg hM q2 q3 q5 q4
    unfold Oper.wp
    have hrun : (execOp a.eval o).run P w = .ok (.value (.tuple #[])) { w with heap := w.heap.setIfInBounds b (.map en clk) } := by
      simp [execOp, ho, resolve, invoke, builtin, hy1, r2, Builtin.delete_, run_underlying hu, MapKept.run_getObj_map q1, M.K.check w _ hk, p1, Result.andThen, MapKept.run_setObj_map _ q1]
    rw [hrun]
    exact hK _ g _ k1 k2 k3 (.t rfl fun j' v y' hj' => by simp at hj')
  · have hj : en[j]? = some z := by simpa using p2
    obtain ⟨p, hp1, hp2, hp3⟩ := d_at q2 q4 j z hj
    have hes : es' = es.eraseIdx j := hdel.at_ j p hp1 (hp2.symm.trans p3)
    subst hes
    have hlt : j < en.size := (Array.getElem?_eq_some_iff.1 hj).1
    have hel : (en.eraseIdxIfInBounds j).toList = en.toList.eraseIdx j := by simp
    have hget : ∀ k, (en.eraseIdxIfInBounds j)[k]? = (en.toList.eraseIdx j)[k]? := fun k => by rw [← hel, Array.getElem?_toList]
    obtain ⟨k1, k2, k3⟩ := h2.setMapD h3 (clk := clk) (es' := es.eraseIdx j) (en' := en.eraseIdxIfInBounds j) hm hg hM (by rw [← Array.length_toList, hel, List.length_eraseIdx, List.length_eraseIdx]; simp [q2]) (fun k z' hz' => by
      rw [hget, List.getElem?_eraseIdx] at hz'
      split at hz'
      · exact q3 _ z' (by simpa using hz')
      · exact q3 _ z' (by simpa using hz')) (by rw [hel]; exact q5.sublist ((List.eraseIdx_sublist _ _).map _)) (fun k k' v z' h1 h2 => by
      rw [hget, List.getElem?_eraseIdx] at h2
      rw [List.getElem?_eraseIdx] at h1
      split at h2
      · rename_i e1
        rw [if_pos e1] at h1
        exact q4 _ k' v z' h1 (by simpa using h2)
      · rename_i e1
        rw [if_neg e1] at h1
        exact q4 _ k' v z' h1 (by simpa using h2))
    unfold Oper.wp
    have hrun : (execOp a.eval o).run P w = .ok (.value (.tuple #[])) { w with heap := w.heap.setIfInBounds b (.map (en.eraseIdxIfInBounds j) clk) } := by
      simp [execOp, ho, resolve, invoke, builtin, hy1, r2, Builtin.delete_, run_underlying hu, MapKept.run_getObj_map q1, M.K.check w _ hk, p1, Result.andThen, MapKept.run_setObj_map _ q1]
    rw [hrun]
    exact hK _ g _ k1 k2 k3 (.t rfl fun j' v y' hj' => by simp at hj')
end
section
variable {P : Program} {F : Fr0} {N : Nat} {ops : Array Oper} {chk : List (Nat × Tch) → Bool} {K : Env → Mem → Prop} {acc : List (Nat × Tch)} {env : Env} {mem : Mem} {i d : Nat} {o : Oper} {rs : List (Nat × Oper)}
structure DelMap (d : Nat) : Prop where
 on : True
theorem DR.mkD {T : Nat} (_h : DelMap d) (hg : gd ops env o = some true) (hds : o.dst = some d) (ho : o.op = .makeMap T none) (ht : aget mem d = none) (hd : Nat.blt d N = true) (hK : DR P F N ops chk K rs ((i, [(d, none, some (.d [] none))]) :: acc) ((d, .mp d) :: env) ((d, .d [] none) :: mem)) : DR P F N ops chk K ((i, o) :: rs) acc env mem :=
 DR.nn hg hds (Does.makeMapD d ho) ht hd hK
theorem DR.lkD {j T kt : Nat} {x ix : Operand} {u y0 y : V} {kv zv : Value} {es : List (Value × V)} {st : Option (List Nat × Nat)} (hg : gd ops env o = some true) (hds : o.dst = some d) (ho : o.op = .lookup T x ix false) (hx : evo env x = some (.mp j)) (hi : evo env ix = some u) (hm : aget mem j = some (.d es st))
  (M : MapTy P T kt zv) (hkey : KeyV P kt u kv) (hks : KeysV P kt es) (hget : MGet es kv y0 y) (hz : ∀ w g, Rep w g y0 zv) (hd : Nat.blt d N = true) (hK : DR P F N ops chk K rs ((i, [(j, some (.d es st), none)]) :: acc) ((d, y) :: env) mem) : DR P F N ops chk K ((i, o) :: rs) acc env mem :=
 DR.rr hg hds (Does.lookVD M hkey hks ho hx hi hz hget) hm hd hK
theorem DR.loD {j T kt : Nat} {x ix : Operand} {u y0 y : V} {b : Bool} {kv zv : Value} {es : List (Value × V)} {st : Option (List Nat × Nat)} (hg : gd ops env o = some true) (hds : o.dst = some d) (ho : o.op = .lookup T x ix true) (hx : evo env x = some (.mp j)) (hi : evo env ix = some u) (hm : aget mem j = some (.d es st))
  (M : MapTy P T kt zv) (hkey : KeyV P kt u kv) (hks : KeysV P kt es) (hget : MGetO es kv y0 y b) (hz : ∀ w g, Rep w g y0 zv) (hd : Nat.blt d N = true) (hK : DR P F N ops chk K rs ((i, [(j, some (.d es st), none)]) :: acc) ((d, .t [y, .k (.bool b)]) :: env) mem) : DR P F N ops chk K ((i, o) :: rs) acc env mem :=
 DR.rr hg hds (Does.lookOD M hkey hks ho hx hi hz hget) hm hd hK
theorem DR.snD {j T kt : Nat} {x ix y : Operand} {u v v' : V} {kv zv : Value} {es es' : List (Value × V)} {st : Option (List Nat × Nat)} (hg : gd ops env o = some true) (hds : o.dst = none) (ho : o.op = .mapUpdate T x ix y) (hx : evo env x = some (.mp j)) (hi : evo env ix = some u) (hy : evo env y = some v) (hm : aget mem j = some (.d es st))
  (M : MapTy P T kt zv) (hkey : KeyV P kt u kv) (hks : KeysV P kt es) (hno : MNo es kv) (hb : v.bare = some v') (hes : es ++ [(kv, v')] = es') (hK : DR P F N ops chk K rs ((i, [(j, some (.d es st), some (.d es' none))]) :: acc) env ((j, .d es' none) :: mem)) : DR P F N ops chk K ((i, o) :: rs) acc env mem := by
 subst hes
 exact DR.ss hg hds (Does.setND M hkey hks ho hx hi hy hb hno) hm hK
theorem DR.soD {j T kt s : Nat} {x ix y : Operand} {u v v' v0 : V} {kv zv : Value} {es es' : List (Value × V)} {st : Option (List Nat × Nat)} (hg : gd ops env o = some true) (hds : o.dst = none) (ho : o.op = .mapUpdate T x ix y) (hx : evo env x = some (.mp j)) (hi : evo env ix = some u) (hy : evo env y = some v) (hm : aget mem j = some (.d es st))
  (M : MapTy P T kt zv) (hkey : KeyV P kt u kv) (hks : KeysV P kt es) (hat : MAt es s kv v0) (hb : v.bare = some v') (hes : es.set s (kv, v') = es') (hK : DR P F N ops chk K rs ((i, [(j, some (.d es st), some (.d es' none))]) :: acc) env ((j, .d es' none) :: mem)) : DR P F N ops chk K ((i, o) :: rs) acc env mem := by
 subst hes
 exact DR.ss hg hds (Does.setOD M hkey hks ho hx hi hy hb hat) hm hK
theorem DR.deD {j T Tk kt : Nat} {x ix : Operand} {u : V} {kv zv : Value} {es es' : List (Value × V)} {st : Option (List Nat × Nat)} (hg : gd ops env o = some true) (hds : o.dst = none) (ho : o.op = .call { callee := .builtin .delete, args := #[x, ix], argTypes := #[T, Tk] }) (hx : evo env x = some (.mp j)) (hi : evo env ix = some u) (hm : aget mem j = some (.d es st))
  (M : MapTy P T kt zv) (hkey : KeyV P kt u kv) (hks : KeysV P kt es) (hdel : MDel es kv es') (hK : DR P F N ops chk K rs ((i, [(j, some (.d es st), some (.d es' none))]) :: acc) env ((j, .d es' none) :: mem)) : DR P F N ops chk K ((i, o) :: rs) acc env mem :=
 DR.ss hg hds (Does.delD M hkey hks ho hx hi hdel) hm hK
end
end Lf
open Go.RowKit Rg
namespace Lf
section
variable {P : Program} {o : Oper} {env : Env}
theorem Does.copySb {T Tx E Ex j off n cap k : Nat} {x y : Operand} {t : Option Nat} {cs cs' ys : List V} (X : TOk P) {ti xi ei : TI} (ho : o.op = .call { callee := .builtin .copy, args := #[x, y], argTypes := #[T, Tx] }) (hx : evo env x = some (.sb j off n cap)) (hy : evo env y = some (.s t ys))
  (hT : aget X.tab T = some ti) (hd : ti.d = .sl E) (hE : aget X.tab E = some ei) (hs1 : Nat.beq ei.size 1 = true) (hX : aget X.tab Tx = some xi) (hdx : xi.d = .sl Ex) (hys : ∀ e ∈ ys, e.cells = [e]) (hkn : (if ys.length ≤ n then ys.length else n) = k) (hle : off + n ≤ cs.length) (hcs : splice cs off (ys.take k) = cs') :
  Does P o env (.k (.int .i64 (k : Int))) [(j, some (.b cs), some (.b cs'))] := by
 subst hcs
 refine ⟨fun F g a w mem h1 h2 h3 h4 _ K Q hK => ?_⟩
 have e1s := Nat.eq_of_beq_eq_true hs1
 have hi := h4 _ _ _ mem_one
 have hrx := h1 x (by simp [ho, Op.operands, Call.operands]) _ hx
 have hry := h1 y (by simp [ho, Op.operands, Call.operands]) _ hy
 have hk1 : k ≤ n ∧ k ≤ ys.length := by rw [← hkn]; split <;> omega
 have htl : (ys.take k).length = k := by rw [List.length_take]; omega
 have hyt : ∀ e ∈ ys.take k, e.cells = [e] := fun e he => hys e (List.mem_of_mem_take he)
 have hyl : ∀ e ∈ ys.take k, e.cells.length = ei.size := fun e he => by rw [hyt e he, e1s]; rfl
 have hflat : ∀ {l : List V}, (∀ e ∈ l, e.cells = [e]) → l.flatMap V.cells = l := fun {l} h => by
  induction l with
  | nil => rfl
  | cons e r ih => rw [List.flatMap_cons, h e List.mem_cons_self, ih fun x hx => h x (List.mem_cons_of_mem _ hx)]; rfl
 obtain ⟨b, bo, q1, _, hB⟩ := h2.box hi
 have hxx : a.eval x = .slice (some ⟨b, bo + off, none⟩) n cap := by
  generalize a.eval x = y at hrx
  cases hrx with
  | sb hp => rw [q1] at hp; cases hp; rfl
 have hmin : Nat.min ys.length n = k := by simp only [Nat.min_def]; exact hkn
 unfold Oper.wp
 rcases Nat.eq_zero_or_pos k with h0 | h0
 ·subst h0
  have hrun : (execOp a.eval o).run P w = .ok (.value (.int .i64 0)) w := by
   generalize hyy : a.eval y = yv at hry
   cases hry with
   | s0 =>
    have f0 : (Builtin.firstCells ei.size 0 (.slice none 0 0)).run P w = .ok #[] w := rfl
    simp [execOp, ho, resolve, invoke, builtin, hxx, hyy, Builtin.copy_, run_underlying ((X.get hT).sl hd), Builtin.lenOf, (X.get hE).run_size, f0, storeCells, goInt]
   | se q =>
    have f0 := run_firstCells_some (P := P) w ei.size 0 q 0 0 [] (by simp) (by simp)
    simp [execOp, ho, resolve, invoke, builtin, hxx, hyy, Builtin.copy_, run_underlying ((X.get hT).sl hd), Builtin.lenOf, (X.get hE).run_size, f0, storeCells, goInt]
   | @s _ _ _ b2 off' cap' size' xs hn hm hp hs hx' hc ht =>
    have f0 := run_firstCells_some (P := P) w ei.size 0 ⟨b2, off', none⟩ ys.length cap' [] (by simp) (by simp)
    simp [execOp, ho, resolve, invoke, builtin, hxx, hyy, Builtin.copy_, run_underlying ((X.get hT).sl hd), Builtin.lenOf, hmin, (X.get hE).run_size, f0, storeCells, goInt]
  rw [hrun]
  refine hK _ g _ (Ev.refl g _) (h2.congr fun i => ?_) h3 (.k _)
  show aget mem i = aget ((j, _) :: mem) i
  rw [aget_cons]
  split
  ·rename_i e; subst e
   rw [List.take_zero, show splice cs off [] = cs by simp [splice]]; exact hi
  ·rfl
 ·generalize hyy : a.eval y = yv at hry
  cases hry with
  | s0 => simp at hmin; omega
  | se => simp at hmin; omega
  | @s _ _ _ b2 off' cap' size' xs hn hm hp hs hx' hc ht =>
   have hpre : ∀ (i : Nat) u, ((ys.take k).flatMap V.cells)[i]? = some u → (ys.flatMap V.cells)[i]? = some u := fun i u hj => by
    have e : ys.flatMap V.cells = (ys.take k).flatMap V.cells ++ (ys.drop k).flatMap V.cells := by rw [← List.flatMap_append, List.take_append_drop]
    rw [e, List.getElem?_append_left (List.getElem?_eq_some_iff.1 hj).1]
    exact hj
   have hrt : Rep w g (.s none (ys.take k)) (.slice (some ⟨b2, off', none⟩) (ys.take k).length cap') :=
    .s xs (by omega) hm hp (fun e he => hs e (List.mem_of_mem_take he)) (fun i u hj => hx' i u (hpre i u hj)) (fun i u hj => hc i u (hpre i u hj)) fun r hr => by cases hr
   obtain ⟨news, hsrc, hone2, hfl, hrep2⟩ := rep_src (P := P) ((X.get hX).sl hdx) hrt hyl
   rw [hflat hyt] at hfl hrep2
   have hfc : (Builtin.firstCells ei.size k (.slice (some ⟨b2, off', none⟩) ys.length cap')).run P w = .ok news.toArray w := by
    have := hsrc.cells
    rw [htl] at this
    exact this
   obtain ⟨k1, k2, k3, k4⟩ := h2.store h3 hi q1 (o := off) (us := ys.take k) (xs := news) (by rw [htl]; omega) hfl (fun u hu => hone2 u hu u (by rw [hyt u hu]; exact List.mem_singleton_self u)) (fun i u x hj hx => (hrep2 i u x hj hx).of_bare)
   have hst := run_storeCells_cells (P := P) b (bo + off) news 0 w (by simpa using fun i hj => (k1 i hj).1) (by simpa using fun i hj => (k1 i hj).2) hsrc.one
   simp only [Nat.add_zero] at hst
   have hrun : (execOp a.eval o).run P w = .ok (.value (.int .i64 (k : Int))) (w.setCells b (bo + off) news) := by
    simp [execOp, ho, resolve, invoke, builtin, hxx, hyy, Builtin.copy_, run_underlying ((X.get hT).sl hd), Builtin.lenOf, hmin, (X.get hE).run_size, hfc, hst, goInt]
   rw [hrun]
   exact hK _ g _ k2 k3 k4 (.k _)
end
section
variable {P : Program} {F : Fr0} {N : Nat} {ops : Array Oper} {chk : List (Nat × Tch) → Bool} {K : Env → Mem → Prop} {acc : List (Nat × Tch)} {env : Env} {mem : Mem} {i j d : Nat} {o : Oper} {rs : List (Nat × Oper)}
theorem DR.cpX {T Tx E Ex off n cap k : Nat} {x y : Operand} {t : Option Nat} {cs cs' ys : List V} (X : TOk P) {ti xi ei : TI} (ho : o.op = .call { callee := .builtin .copy, args := #[x, y], argTypes := #[T, Tx] }) (hg : gd ops env o = some true) (hds : o.dst = some d) (hx : evo env x = some (.sb j off n cap)) (hy : evo env y = some (.s t ys)) (hm : aget mem j = some (.b cs)) (hT : aget X.tab T = some ti) (hdt : ti.d = .sl E) (hE : aget X.tab E = some ei) (hs1 : Nat.beq ei.size 1 = true) (hX : aget X.tab Tx = some xi) (hdx : xi.d = .sl Ex)
  (hys : ∀ e ∈ ys, e.cells = [e]) (hkn : (if ys.length ≤ n then ys.length else n) = k) (hle : off + n ≤ cs.length) (hcs : splice cs off (ys.take k) = cs') (hd : Nat.blt d N = true)
  (hK : DR P F N ops chk K rs ((i, [(j, some (.b cs), some (.b cs'))]) :: acc) ((d, .k (.int .i64 (k : Int))) :: env) ((j, .b cs') :: mem)) : DR P F N ops chk K ((i, o) :: rs) acc env mem :=
 DR.ww hg hds (Does.copySb X ho hx hy hT hdt hE hs1 hX hdx hys hkn hle hcs) hm hd hK
end
end Lf
namespace Lf
set_option maxRecDepth 20000 in
def tab : Tab := [
 (1, ⟨.fn, 1, 8, [.fn]⟩),
 (2, ⟨.int .i64, 1, 8, [.int .i64]⟩),
 (3, ⟨.int .i64, 1, 8, [.int .i64]⟩),
 (4, ⟨.bool, 1, 1, [.bool]⟩),
 (5, ⟨.int .u8, 1, 1, [.int .u8]⟩),
 (6, ⟨.int .u8, 1, 1, [.int .u8]⟩),
 (7, ⟨.st [(0, 2), (1, 3), (2, 4), (3, 6)], 4, 24, [.int .i64, .int .i64, .bool, .int .u8]⟩),
 (8, ⟨.st [(0, 2), (1, 3), (2, 4), (3, 6)], 4, 24, [.int .i64, .int .i64, .bool, .int .u8]⟩),
 (9, ⟨.str, 1, 16, [.str]⟩),
 (10, ⟨.str, 1, 16, [.str]⟩),
 (11, ⟨.str, 1, 16, [.str]⟩),
 (12, ⟨.int .u64, 1, 8, [.int .u64]⟩),
 (13, ⟨.st [(0, 9), (1, 12)], 2, 24, [.str, .int .u64]⟩),
 (14, ⟨.st [(0, 9), (1, 12)], 2, 24, [.str, .int .u64]⟩),
 (15, ⟨.ptr 452, 1, 8, [.ptr]⟩),
 (16, ⟨.ptr 455, 1, 8, [.ptr]⟩),
 (17, ⟨.ptr 463, 1, 8, [.ptr]⟩),
 (18, ⟨.st [(0, 17)], 1, 8, [.ptr]⟩),
 (19, ⟨.st [(0, 17)], 1, 8, [.ptr]⟩),
 (20, ⟨.ifc, 1, 16, [.ifc]⟩),
 (21, ⟨.int .i32, 1, 4, [.int .i32]⟩),
 (22, ⟨.arr 8 5, 8, 8, [.int .u8, .int .u8, .int .u8, .int .u8, .int .u8, .int .u8, .int .u8, .int .u8]⟩),
 (23, ⟨.arr 8 5, 8, 8, [.int .u8, .int .u8, .int .u8, .int .u8, .int .u8, .int .u8, .int .u8, .int .u8]⟩),
 (24, ⟨.int .u64, 1, 8, [.int .u64]⟩),
 (25, ⟨.arr 4 24, 4, 32, [.int .u64, .int .u64, .int .u64, .int .u64]⟩),
 (26, ⟨.arr 4 24, 4, 32, [.int .u64, .int .u64, .int .u64, .int .u64]⟩),
 (27, ⟨.sl 5, 1, 24, [.sl]⟩),
 (28, ⟨.st [(0, 23), (8, 23), (16, 4), (17, 24), (18, 24), (19, 24), (20, 26), (24, 27)], 25, 104, [.int .u8, .int .u8, .int .u8, .int .u8, .int .u8, .int .u8, .int .u8, .int .u8, .int .u8, .int .u8, .int .u8, .int .u8, .int .u8, .int .u8, .int .u8, .int .u8, .bool, .int .u64, .int .u64, .int .u64, .int .u64, .int .u64, .int .u64, .int .u64, .sl]⟩),
 (29, ⟨.st [(0, 23), (8, 23), (16, 4), (17, 24), (18, 24), (19, 24), (20, 26), (24, 27)], 25, 104, [.int .u8, .int .u8, .int .u8, .int .u8, .int .u8, .int .u8, .int .u8, .int .u8, .int .u8, .int .u8, .int .u8, .int .u8, .int .u8, .int .u8, .int .u8, .int .u8, .bool, .int .u64, .int .u64, .int .u64, .int .u64, .int .u64, .int .u64, .int .u64, .sl]⟩),
 (30, ⟨.fn, 1, 8, [.fn]⟩),
 (31, ⟨.int .i64, 1, 8, [.int .i64]⟩),
 (33, ⟨.fn, 1, 8, [.fn]⟩),
 (34, ⟨.fn, 1, 8, [.fn]⟩),
 (35, ⟨.fn, 1, 8, [.fn]⟩),
 (36, ⟨.fn, 1, 8, [.fn]⟩),
 (37, ⟨.arr 32 5, 32, 32, [.int .u8, .int .u8, .int .u8, .int .u8, .int .u8, .int .u8, .int .u8, .int .u8, .int .u8, .int .u8, .int .u8, .int .u8, .int .u8, .int .u8, .int .u8, .int .u8, .int .u8, .int .u8, .int .u8, .int .u8, .int .u8, .int .u8, .int .u8, .int .u8, .int .u8, .int .u8, .int .u8, .int .u8, .int .u8, .int .u8, .int .u8, .int .u8]⟩),
 (38, ⟨.arr 32 5, 32, 32, [.int .u8, .int .u8, .int .u8, .int .u8, .int .u8, .int .u8, .int .u8, .int .u8, .int .u8, .int .u8, .int .u8, .int .u8, .int .u8, .int .u8, .int .u8, .int .u8, .int .u8, .int .u8, .int .u8, .int .u8, .int .u8, .int .u8, .int .u8, .int .u8, .int .u8, .int .u8, .int .u8, .int .u8, .int .u8, .int .u8, .int .u8, .int .u8]⟩),
 (39, ⟨.st [(0, 38), (32, 24), (33, 24), (34, 23), (42, 24), (43, 24), (44, 38), (76, 38), (108, 38), (140, 38), (172, 38)], 204, 232, [.int .u8, .int .u8, .int .u8, .int .u8, .int .u8, .int .u8, .int .u8, .int .u8, .int .u8, .int .u8, .int .u8, .int .u8, .int .u8, .int .u8, .int .u8, .int .u8, .int .u8, .int .u8, .int .u8, .int .u8, .int .u8, .int .u8, .int .u8, .int .u8, .int .u8, .int .u8, .int .u8, .int .u8, .int .u8, .int .u8, .int .u8, .int .u8, .int .u64, .int .u64, .int .u8, .int .u8, .int .u8, .int .u8, .int .u8, .int .u8, .int .u8, .int .u8, .int .u64, .int .u64, .int .u8, .int .u8, .int .u8, .int .u8, .int .u8, .int .u8, .int .u8, .int .u8, .int .u8, .int .u8, .int .u8, .int .u8, .int .u8, .int .u8, .int .u8, .int .u8, .int .u8, .int .u8, .int .u8, .int .u8, .int .u8, .int .u8, .int .u8, .int .u8, .int .u8, .int .u8, .int .u8, .int .u8, .int .u8, .int .u8, .int .u8, .int .u8, .int .u8, .int .u8, .int .u8, .int .u8, .int .u8, .int .u8, .int .u8, .int .u8, .int .u8, .int .u8, .int .u8, .int .u8, .int .u8, .int .u8, .int .u8, .int .u8, .int .u8, .int .u8, .int .u8, .int .u8, .int .u8, .int .u8, .int .u8, .int .u8, .int .u8, .int .u8, .int .u8, .int .u8, .int .u8, .int .u8, .int .u8, .int .u8, .int .u8, .int .u8, .int .u8, .int .u8, .int .u8, .int .u8, .int .u8, .int .u8, .int .u8, .int .u8, .int .u8, .int .u8, .int .u8, .int .u8, .int .u8, .int .u8, .int .u8, .int .u8, .int .u8, .int .u8, .int .u8, .int .u8, .int .u8, .int .u8, .int .u8, .int .u8, .int .u8, .int .u8, .int .u8, .int .u8, .int .u8, .int .u8, .int .u8, .int .u8, .int .u8, .int .u8, .int .u8, .int .u8, .int .u8, .int .u8, .int .u8, .int .u8, .int .u8, .int .u8, .int .u8, .int .u8, .int .u8, .int .u8, .int .u8, .int .u8, .int .u8, .int .u8, .int .u8, .int .u8, .int .u8, .int .u8, .int .u8, .int .u8, .int .u8, .int .u8, .int .u8, .int .u8, .int .u8, .int .u8, .int .u8, .int .u8, .int .u8, .int .u8, .int .u8, .int .u8, .int .u8, .int .u8, .int .u8, .int .u8, .int .u8, .int .u8, .int .u8, .int .u8, .int .u8, .int .u8, .int .u8, .int .u8, .int .u8, .int .u8, .int .u8, .int .u8, .int .u8, .int .u8, .int .u8, .int .u8, .int .u8, .int .u8, .int .u8, .int .u8, .int .u8, .int .u8]⟩),
 (40, ⟨.st [(0, 38), (32, 24), (33, 24), (34, 23), (42, 24), (43, 24), (44, 38), (76, 38), (108, 38), (140, 38), (172, 38)], 204, 232, [.int .u8, .int .u8, .int .u8, .int .u8, .int .u8, .int .u8, .int .u8, .int .u8, .int .u8, .int .u8, .int .u8, .int .u8, .int .u8, .int .u8, .int .u8, .int .u8, .int .u8, .int .u8, .int .u8, .int .u8, .int .u8, .int .u8, .int .u8, .int .u8, .int .u8, .int .u8, .int .u8, .int .u8, .int .u8, .int .u8, .int .u8, .int .u8, .int .u64, .int .u64, .int .u8, .int .u8, .int .u8, .int .u8, .int .u8, .int .u8, .int .u8, .int .u8, .int .u64, .int .u64, .int .u8, .int .u8, .int .u8, .int .u8, .int .u8, .int .u8, .int .u8, .int .u8, .int .u8, .int .u8, .int .u8, .int .u8, .int .u8, .int .u8, .int .u8, .int .u8, .int .u8, .int .u8, .int .u8, .int .u8, .int .u8, .int .u8, .int .u8, .int .u8, .int .u8, .int .u8, .int .u8, .int .u8, .int .u8, .int .u8, .int .u8, .int .u8, .int .u8, .int .u8, .int .u8, .int .u8, .int .u8, .int .u8, .int .u8, .int .u8, .int .u8, .int .u8, .int .u8, .int .u8, .int .u8, .int .u8, .int .u8, .int .u8, .int .u8, .int .u8, .int .u8, .int .u8, .int .u8, .int .u8, .int .u8, .int .u8, .int .u8, .int .u8, .int .u8, .int .u8, .int .u8, .int .u8, .int .u8, .int .u8, .int .u8, .int .u8, .int .u8, .int .u8, .int .u8, .int .u8, .int .u8, .int .u8, .int .u8, .int .u8, .int .u8, .int .u8, .int .u8, .int .u8, .int .u8, .int .u8, .int .u8, .int .u8, .int .u8, .int .u8, .int .u8, .int .u8, .int .u8, .int .u8, .int .u8, .int .u8, .int .u8, .int .u8, .int .u8, .int .u8, .int .u8, .int .u8, .int .u8, .int .u8, .int .u8, .int .u8, .int .u8, .int .u8, .int .u8, .int .u8, .int .u8, .int .u8, .int .u8, .int .u8, .int .u8, .int .u8, .int .u8, .int .u8, .int .u8, .int .u8, .int .u8, .int .u8, .int .u8, .int .u8, .int .u8, .int .u8, .int .u8, .int .u8, .int .u8, .int .u8, .int .u8, .int .u8, .int .u8, .int .u8, .int .u8, .int .u8, .int .u8, .int .u8, .int .u8, .int .u8, .int .u8, .int .u8, .int .u8, .int .u8, .int .u8, .int .u8, .int .u8, .int .u8, .int .u8, .int .u8, .int .u8, .int .u8, .int .u8, .int .u8, .int .u8, .int .u8, .int .u8, .int .u8, .int .u8, .int .u8, .int .u8, .int .u8, .int .u8, .int .u8, .int .u8, .int .u8]⟩),
 (41, ⟨.sl 24, 1, 24, [.sl]⟩),
 (42, ⟨.st [(0, 40), (204, 41), (205, 41)], 206, 280, [.int .u8, .int .u8, .int .u8, .int .u8, .int .u8, .int .u8, .int .u8, .int .u8, .int .u8, .int .u8, .int .u8, .int .u8, .int .u8, .int .u8, .int .u8, .int .u8, .int .u8, .int .u8, .int .u8, .int .u8, .int .u8, .int .u8, .int .u8, .int .u8, .int .u8, .int .u8, .int .u8, .int .u8, .int .u8, .int .u8, .int .u8, .int .u8, .int .u64, .int .u64, .int .u8, .int .u8, .int .u8, .int .u8, .int .u8, .int .u8, .int .u8, .int .u8, .int .u64, .int .u64, .int .u8, .int .u8, .int .u8, .int .u8, .int .u8, .int .u8, .int .u8, .int .u8, .int .u8, .int .u8, .int .u8, .int .u8, .int .u8, .int .u8, .int .u8, .int .u8, .int .u8, .int .u8, .int .u8, .int .u8, .int .u8, .int .u8, .int .u8, .int .u8, .int .u8, .int .u8, .int .u8, .int .u8, .int .u8, .int .u8, .int .u8, .int .u8, .int .u8, .int .u8, .int .u8, .int .u8, .int .u8, .int .u8, .int .u8, .int .u8, .int .u8, .int .u8, .int .u8, .int .u8, .int .u8, .int .u8, .int .u8, .int .u8, .int .u8, .int .u8, .int .u8, .int .u8, .int .u8, .int .u8, .int .u8, .int .u8, .int .u8, .int .u8, .int .u8, .int .u8, .int .u8, .int .u8, .int .u8, .int .u8, .int .u8, .int .u8, .int .u8, .int .u8, .int .u8, .int .u8, .int .u8, .int .u8, .int .u8, .int .u8, .int .u8, .int .u8, .int .u8, .int .u8, .int .u8, .int .u8, .int .u8, .int .u8, .int .u8, .int .u8, .int .u8, .int .u8, .int .u8, .int .u8, .int .u8, .int .u8, .int .u8, .int .u8, .int .u8, .int .u8, .int .u8, .int .u8, .int .u8, .int .u8, .int .u8, .int .u8, .int .u8, .int .u8, .int .u8, .int .u8, .int .u8, .int .u8, .int .u8, .int .u8, .int .u8, .int .u8, .int .u8, .int .u8, .int .u8, .int .u8, .int .u8, .int .u8, .int .u8, .int .u8, .int .u8, .int .u8, .int .u8, .int .u8, .int .u8, .int .u8, .int .u8, .int .u8, .int .u8, .int .u8, .int .u8, .int .u8, .int .u8, .int .u8, .int .u8, .int .u8, .int .u8, .int .u8, .int .u8, .int .u8, .int .u8, .int .u8, .int .u8, .int .u8, .int .u8, .int .u8, .int .u8, .int .u8, .int .u8, .int .u8, .int .u8, .int .u8, .int .u8, .int .u8, .int .u8, .int .u8, .int .u8, .int .u8, .int .u8, .int .u8, .int .u8, .int .u8, .sl, .sl]⟩),
 (43, ⟨.st [(0, 40), (204, 41), (205, 41)], 206, 280, [.int .u8, .int .u8, .int .u8, .int .u8, .int .u8, .int .u8, .int .u8, .int .u8, .int .u8, .int .u8, .int .u8, .int .u8, .int .u8, .int .u8, .int .u8, .int .u8, .int .u8, .int .u8, .int .u8, .int .u8, .int .u8, .int .u8, .int .u8, .int .u8, .int .u8, .int .u8, .int .u8, .int .u8, .int .u8, .int .u8, .int .u8, .int .u8, .int .u64, .int .u64, .int .u8, .int .u8, .int .u8, .int .u8, .int .u8, .int .u8, .int .u8, .int .u8, .int .u64, .int .u64, .int .u8, .int .u8, .int .u8, .int .u8, .int .u8, .int .u8, .int .u8, .int .u8, .int .u8, .int .u8, .int .u8, .int .u8, .int .u8, .int .u8, .int .u8, .int .u8, .int .u8, .int .u8, .int .u8, .int .u8, .int .u8, .int .u8, .int .u8, .int .u8, .int .u8, .int .u8, .int .u8, .int .u8, .int .u8, .int .u8, .int .u8, .int .u8, .int .u8, .int .u8, .int .u8, .int .u8, .int .u8, .int .u8, .int .u8, .int .u8, .int .u8, .int .u8, .int .u8, .int .u8, .int .u8, .int .u8, .int .u8, .int .u8, .int .u8, .int .u8, .int .u8, .int .u8, .int .u8, .int .u8, .int .u8, .int .u8, .int .u8, .int .u8, .int .u8, .int .u8, .int .u8, .int .u8, .int .u8, .int .u8, .int .u8, .int .u8, .int .u8, .int .u8, .int .u8, .int .u8, .int .u8, .int .u8, .int .u8, .int .u8, .int .u8, .int .u8, .int .u8, .int .u8, .int .u8, .int .u8, .int .u8, .int .u8, .int .u8, .int .u8, .int .u8, .int .u8, .int .u8, .int .u8, .int .u8, .int .u8, .int .u8, .int .u8, .int .u8, .int .u8, .int .u8, .int .u8, .int .u8, .int .u8, .int .u8, .int .u8, .int .u8, .int .u8, .int .u8, .int .u8, .int .u8, .int .u8, .int .u8, .int .u8, .int .u8, .int .u8, .int .u8, .int .u8, .int .u8, .int .u8, .int .u8, .int .u8, .int .u8, .int .u8, .int .u8, .int .u8, .int .u8, .int .u8, .int .u8, .int .u8, .int .u8, .int .u8, .int .u8, .int .u8, .int .u8, .int .u8, .int .u8, .int .u8, .int .u8, .int .u8, .int .u8, .int .u8, .int .u8, .int .u8, .int .u8, .int .u8, .int .u8, .int .u8, .int .u8, .int .u8, .int .u8, .int .u8, .int .u8, .int .u8, .int .u8, .int .u8, .int .u8, .int .u8, .int .u8, .int .u8, .int .u8, .int .u8, .int .u8, .int .u8, .int .u8, .int .u8, .sl, .sl]⟩),
 (45, ⟨.fn, 1, 8, [.fn]⟩),
 (46, ⟨.fn, 1, 8, [.fn]⟩),
 (47, ⟨.fn, 1, 8, [.fn]⟩),
 (48, ⟨.fn, 1, 8, [.fn]⟩),
 (50, ⟨.fn, 1, 8, [.fn]⟩),
 (51, ⟨.fn, 1, 8, [.fn]⟩),
 (52, ⟨.fn, 1, 8, [.fn]⟩),
 (53, ⟨.fn, 1, 8, [.fn]⟩),
 (54, ⟨.sl 214, 1, 24, [.sl]⟩),
 (55, ⟨.st [(0, 24), (1, 26), (5, 27), (6, 54)], 7, 88, [.int .u64, .int .u64, .int .u64, .int .u64, .int .u64, .sl, .sl]⟩),
 (56, ⟨.st [(0, 24), (1, 26), (5, 27), (6, 54)], 7, 88, [.int .u64, .int .u64, .int .u64, .int .u64, .int .u64, .sl, .sl]⟩),
 (57, ⟨.st [(0, 23), (8, 56)], 15, 96, [.int .u8, .int .u8, .int .u8, .int .u8, .int .u8, .int .u8, .int .u8, .int .u8, .int .u64, .int .u64, .int .u64, .int .u64, .int .u64, .sl, .sl]⟩),
 (58, ⟨.st [(0, 23), (8, 56)], 15, 96, [.int .u8, .int .u8, .int .u8, .int .u8, .int .u8, .int .u8, .int .u8, .int .u8, .int .u64, .int .u64, .int .u64, .int .u64, .int .u64, .sl, .sl]⟩),
 (59, ⟨.sl 58, 1, 24, [.sl]⟩),
 (60, ⟨.sl 179, 1, 24, [.sl]⟩),
 (61, ⟨.st [(0, 4), (1, 24), (2, 38), (34, 60)], 35, 72, [.bool, .int .u64, .int .u8, .int .u8, .int .u8, .int .u8, .int .u8, .int .u8, .int .u8, .int .u8, .int .u8, .int .u8, .int .u8, .int .u8, .int .u8, .int .u8, .int .u8, .int .u8, .int .u8, .int .u8, .int .u8, .int .u8, .int .u8, .int .u8, .int .u8, .int .u8, .int .u8, .int .u8, .int .u8, .int .u8, .int .u8, .int .u8, .int .u8, .int .u8, .sl]⟩),
 (62, ⟨.st [(0, 4), (1, 24), (2, 38), (34, 60)], 35, 72, [.bool, .int .u64, .int .u8, .int .u8, .int .u8, .int .u8, .int .u8, .int .u8, .int .u8, .int .u8, .int .u8, .int .u8, .int .u8, .int .u8, .int .u8, .int .u8, .int .u8, .int .u8, .int .u8, .int .u8, .int .u8, .int .u8, .int .u8, .int .u8, .int .u8, .int .u8, .int .u8, .int .u8, .int .u8, .int .u8, .int .u8, .int .u8, .int .u8, .int .u8, .sl]⟩),
 (64, ⟨.fn, 1, 8, [.fn]⟩),
 (65, ⟨.st [(0, 24), (1, 24), (2, 23)], 10, 24, [.int .u64, .int .u64, .int .u8, .int .u8, .int .u8, .int .u8, .int .u8, .int .u8, .int .u8, .int .u8]⟩),
 (66, ⟨.st [(0, 24), (1, 24), (2, 23)], 10, 24, [.int .u64, .int .u64, .int .u8, .int .u8, .int .u8, .int .u8, .int .u8, .int .u8, .int .u8, .int .u8]⟩),
 (67, ⟨.sl 69, 1, 24, [.sl]⟩),
 (68, ⟨.st [(0, 4), (1, 27), (2, 67)], 3, 56, [.bool, .sl, .sl]⟩),
 (69, ⟨.st [(0, 4), (1, 27), (2, 67)], 3, 56, [.bool, .sl, .sl]⟩),
 (71, ⟨.fn, 1, 8, [.fn]⟩),
 (73, ⟨.fn, 1, 8, [.fn]⟩),
 (74, ⟨.fn, 1, 8, [.fn]⟩),
 (75, ⟨.fn, 1, 8, [.fn]⟩),
 (76, ⟨.fn, 1, 8, [.fn]⟩),
 (77, ⟨.fn, 1, 8, [.fn]⟩),
 (78, ⟨.fn, 1, 8, [.fn]⟩),
 (79, ⟨.fn, 1, 8, [.fn]⟩),
 (80, ⟨.fn, 1, 8, [.fn]⟩),
 (81, ⟨.sl 100, 1, 24, [.sl]⟩),
 (83, ⟨.fn, 1, 8, [.fn]⟩),
 (84, ⟨.st [(0, 40), (204, 24), (205, 41)], 206, 264, [.int .u8, .int .u8, .int .u8, .int .u8, .int .u8, .int .u8, .int .u8, .int .u8, .int .u8, .int .u8, .int .u8, .int .u8, .int .u8, .int .u8, .int .u8, .int .u8, .int .u8, .int .u8, .int .u8, .int .u8, .int .u8, .int .u8, .int .u8, .int .u8, .int .u8, .int .u8, .int .u8, .int .u8, .int .u8, .int .u8, .int .u8, .int .u8, .int .u64, .int .u64, .int .u8, .int .u8, .int .u8, .int .u8, .int .u8, .int .u8, .int .u8, .int .u8, .int .u64, .int .u64, .int .u8, .int .u8, .int .u8, .int .u8, .int .u8, .int .u8, .int .u8, .int .u8, .int .u8, .int .u8, .int .u8, .int .u8, .int .u8, .int .u8, .int .u8, .int .u8, .int .u8, .int .u8, .int .u8, .int .u8, .int .u8, .int .u8, .int .u8, .int .u8, .int .u8, .int .u8, .int .u8, .int .u8, .int .u8, .int .u8, .int .u8, .int .u8, .int .u8, .int .u8, .int .u8, .int .u8, .int .u8, .int .u8, .int .u8, .int .u8, .int .u8, .int .u8, .int .u8, .int .u8, .int .u8, .int .u8, .int .u8, .int .u8, .int .u8, .int .u8, .int .u8, .int .u8, .int .u8, .int .u8, .int .u8, .int .u8, .int .u8, .int .u8, .int .u8, .int .u8, .int .u8, .int .u8, .int .u8, .int .u8, .int .u8, .int .u8, .int .u8, .int .u8, .int .u8, .int .u8, .int .u8, .int .u8, .int .u8, .int .u8, .int .u8, .int .u8, .int .u8, .int .u8, .int .u8, .int .u8, .int .u8, .int .u8, .int .u8, .int .u8, .int .u8, .int .u8, .int .u8, .int .u8, .int .u8, .int .u8, .int .u8, .int .u8, .int .u8, .int .u8, .int .u8, .int .u8, .int .u8, .int .u8, .int .u8, .int .u8, .int .u8, .int .u8, .int .u8, .int .u8, .int .u8, .int .u8, .int .u8, .int .u8, .int .u8, .int .u8, .int .u8, .int .u8, .int .u8, .int .u8, .int .u8, .int .u8, .int .u8, .int .u8, .int .u8, .int .u8, .int .u8, .int .u8, .int .u8, .int .u8, .int .u8, .int .u8, .int .u8, .int .u8, .int .u8, .int .u8, .int .u8, .int .u8, .int .u8, .int .u8, .int .u8, .int .u8, .int .u8, .int .u8, .int .u8, .int .u8, .int .u8, .int .u8, .int .u8, .int .u8, .int .u8, .int .u8, .int .u8, .int .u8, .int .u8, .int .u8, .int .u8, .int .u8, .int .u8, .int .u8, .int .u8, .int .u8, .int .u8, .int .u8, .int .u8, .int .u8, .int .u64, .sl]⟩),
 (85, ⟨.st [(0, 40), (204, 24), (205, 41)], 206, 264, [.int .u8, .int .u8, .int .u8, .int .u8, .int .u8, .int .u8, .int .u8, .int .u8, .int .u8, .int .u8, .int .u8, .int .u8, .int .u8, .int .u8, .int .u8, .int .u8, .int .u8, .int .u8, .int .u8, .int .u8, .int .u8, .int .u8, .int .u8, .int .u8, .int .u8, .int .u8, .int .u8, .int .u8, .int .u8, .int .u8, .int .u8, .int .u8, .int .u64, .int .u64, .int .u8, .int .u8, .int .u8, .int .u8, .int .u8, .int .u8, .int .u8, .int .u8, .int .u64, .int .u64, .int .u8, .int .u8, .int .u8, .int .u8, .int .u8, .int .u8, .int .u8, .int .u8, .int .u8, .int .u8, .int .u8, .int .u8, .int .u8, .int .u8, .int .u8, .int .u8, .int .u8, .int .u8, .int .u8, .int .u8, .int .u8, .int .u8, .int .u8, .int .u8, .int .u8, .int .u8, .int .u8, .int .u8, .int .u8, .int .u8, .int .u8, .int .u8, .int .u8, .int .u8, .int .u8, .int .u8, .int .u8, .int .u8, .int .u8, .int .u8, .int .u8, .int .u8, .int .u8, .int .u8, .int .u8, .int .u8, .int .u8, .int .u8, .int .u8, .int .u8, .int .u8, .int .u8, .int .u8, .int .u8, .int .u8, .int .u8, .int .u8, .int .u8, .int .u8, .int .u8, .int .u8, .int .u8, .int .u8, .int .u8, .int .u8, .int .u8, .int .u8, .int .u8, .int .u8, .int .u8, .int .u8, .int .u8, .int .u8, .int .u8, .int .u8, .int .u8, .int .u8, .int .u8, .int .u8, .int .u8, .int .u8, .int .u8, .int .u8, .int .u8, .int .u8, .int .u8, .int .u8, .int .u8, .int .u8, .int .u8, .int .u8, .int .u8, .int .u8, .int .u8, .int .u8, .int .u8, .int .u8, .int .u8, .int .u8, .int .u8, .int .u8, .int .u8, .int .u8, .int .u8, .int .u8, .int .u8, .int .u8, .int .u8, .int .u8, .int .u8, .int .u8, .int .u8, .int .u8, .int .u8, .int .u8, .int .u8, .int .u8, .int .u8, .int .u8, .int .u8, .int .u8, .int .u8, .int .u8, .int .u8, .int .u8, .int .u8, .int .u8, .int .u8, .int .u8, .int .u8, .int .u8, .int .u8, .int .u8, .int .u8, .int .u8, .int .u8, .int .u8, .int .u8, .int .u8, .int .u8, .int .u8, .int .u8, .int .u8, .int .u8, .int .u8, .int .u8, .int .u8, .int .u8, .int .u8, .int .u8, .int .u8, .int .u8, .int .u8, .int .u8, .int .u8, .int .u8, .int .u8, .int .u8, .int .u8, .int .u8, .int .u64, .sl]⟩),
 (86, ⟨.sl 340, 1, 24, [.sl]⟩),
 (87, ⟨.st [(0, 3), (1, 23), (9, 23), (17, 26), (21, 27), (22, 24), (23, 4)], 24, 96, [.int .i64, .int .u8, .int .u8, .int .u8, .int .u8, .int .u8, .int .u8, .int .u8, .int .u8, .int .u8, .int .u8, .int .u8, .int .u8, .int .u8, .int .u8, .int .u8, .int .u8, .int .u64, .int .u64, .int .u64, .int .u64, .sl, .int .u64, .bool]⟩),
 (88, ⟨.st [(0, 3), (1, 23), (9, 23), (17, 26), (21, 27), (22, 24), (23, 4)], 24, 96, [.int .i64, .int .u8, .int .u8, .int .u8, .int .u8, .int .u8, .int .u8, .int .u8, .int .u8, .int .u8, .int .u8, .int .u8, .int .u8, .int .u8, .int .u8, .int .u8, .int .u8, .int .u64, .int .u64, .int .u64, .int .u64, .sl, .int .u64, .bool]⟩),
 (89, ⟨.st [(0, 3), (1, 23), (9, 26), (13, 88)], 37, 144, [.int .i64, .int .u8, .int .u8, .int .u8, .int .u8, .int .u8, .int .u8, .int .u8, .int .u8, .int .u64, .int .u64, .int .u64, .int .u64, .int .i64, .int .u8, .int .u8, .int .u8, .int .u8, .int .u8, .int .u8, .int .u8, .int .u8, .int .u8, .int .u8, .int .u8, .int .u8, .int .u8, .int .u8, .int .u8, .int .u8, .int .u64, .int .u64, .int .u64, .int .u64, .sl, .int .u64, .bool]⟩),
 (90, ⟨.st [(0, 3), (1, 23), (9, 26), (13, 88)], 37, 144, [.int .i64, .int .u8, .int .u8, .int .u8, .int .u8, .int .u8, .int .u8, .int .u8, .int .u8, .int .u64, .int .u64, .int .u64, .int .u64, .int .i64, .int .u8, .int .u8, .int .u8, .int .u8, .int .u8, .int .u8, .int .u8, .int .u8, .int .u8, .int .u8, .int .u8, .int .u8, .int .u8, .int .u8, .int .u8, .int .u8, .int .u64, .int .u64, .int .u64, .int .u64, .sl, .int .u64, .bool]⟩),
 (91, ⟨.sl 298, 1, 24, [.sl]⟩),
 (92, ⟨.st [(0, 3), (1, 85), (207, 86), (208, 90), (245, 91)], 246, 464, [.int .i64, .int .u8, .int .u8, .int .u8, .int .u8, .int .u8, .int .u8, .int .u8, .int .u8, .int .u8, .int .u8, .int .u8, .int .u8, .int .u8, .int .u8, .int .u8, .int .u8, .int .u8, .int .u8, .int .u8, .int .u8, .int .u8, .int .u8, .int .u8, .int .u8, .int .u8, .int .u8, .int .u8, .int .u8, .int .u8, .int .u8, .int .u8, .int .u8, .int .u64, .int .u64, .int .u8, .int .u8, .int .u8, .int .u8, .int .u8, .int .u8, .int .u8, .int .u8, .int .u64, .int .u64, .int .u8, .int .u8, .int .u8, .int .u8, .int .u8, .int .u8, .int .u8, .int .u8, .int .u8, .int .u8, .int .u8, .int .u8, .int .u8, .int .u8, .int .u8, .int .u8, .int .u8, .int .u8, .int .u8, .int .u8, .int .u8, .int .u8, .int .u8, .int .u8, .int .u8, .int .u8, .int .u8, .int .u8, .int .u8, .int .u8, .int .u8, .int .u8, .int .u8, .int .u8, .int .u8, .int .u8, .int .u8, .int .u8, .int .u8, .int .u8, .int .u8, .int .u8, .int .u8, .int .u8, .int .u8, .int .u8, .int .u8, .int .u8, .int .u8, .int .u8, .int .u8, .int .u8, .int .u8, .int .u8, .int .u8, .int .u8, .int .u8, .int .u8, .int .u8, .int .u8, .int .u8, .int .u8, .int .u8, .int .u8, .int .u8, .int .u8, .int .u8, .int .u8, .int .u8, .int .u8, .int .u8, .int .u8, .int .u8, .int .u8, .int .u8, .int .u8, .int .u8, .int .u8, .int .u8, .int .u8, .int .u8, .int .u8, .int .u8, .int .u8, .int .u8, .int .u8, .int .u8, .int .u8, .int .u8, .int .u8, .int .u8, .int .u8, .int .u8, .int .u8, .int .u8, .int .u8, .int .u8, .int .u8, .int .u8, .int .u8, .int .u8, .int .u8, .int .u8, .int .u8, .int .u8, .int .u8, .int .u8, .int .u8, .int .u8, .int .u8, .int .u8, .int .u8, .int .u8, .int .u8, .int .u8, .int .u8, .int .u8, .int .u8, .int .u8, .int .u8, .int .u8, .int .u8, .int .u8, .int .u8, .int .u8, .int .u8, .int .u8, .int .u8, .int .u8, .int .u8, .int .u8, .int .u8, .int .u8, .int .u8, .int .u8, .int .u8, .int .u8, .int .u8, .int .u8, .int .u8, .int .u8, .int .u8, .int .u8, .int .u8, .int .u8, .int .u8, .int .u8, .int .u8, .int .u8, .int .u8, .int .u8, .int .u8, .int .u8, .int .u8, .int .u8, .int .u8, .int .u8, .int .u8, .int .u8, .int .u8, .int .u64, .sl, .sl, .int .i64, .int .u8, .int .u8, .int .u8, .int .u8, .int .u8, .int .u8, .int .u8, .int .u8, .int .u64, .int .u64, .int .u64, .int .u64, .int .i64, .int .u8, .int .u8, .int .u8, .int .u8, .int .u8, .int .u8, .int .u8, .int .u8, .int .u8, .int .u8, .int .u8, .int .u8, .int .u8, .int .u8, .int .u8, .int .u8, .int .u64, .int .u64, .int .u64, .int .u64, .sl, .int .u64, .bool, .sl]⟩),
 (93, ⟨.st [(0, 3), (1, 85), (207, 86), (208, 90), (245, 91)], 246, 464, [.int .i64, .int .u8, .int .u8, .int .u8, .int .u8, .int .u8, .int .u8, .int .u8, .int .u8, .int .u8, .int .u8, .int .u8, .int .u8, .int .u8, .int .u8, .int .u8, .int .u8, .int .u8, .int .u8, .int .u8, .int .u8, .int .u8, .int .u8, .int .u8, .int .u8, .int .u8, .int .u8, .int .u8, .int .u8, .int .u8, .int .u8, .int .u8, .int .u8, .int .u64, .int .u64, .int .u8, .int .u8, .int .u8, .int .u8, .int .u8, .int .u8, .int .u8, .int .u8, .int .u64, .int .u64, .int .u8, .int .u8, .int .u8, .int .u8, .int .u8, .int .u8, .int .u8, .int .u8, .int .u8, .int .u8, .int .u8, .int .u8, .int .u8, .int .u8, .int .u8, .int .u8, .int .u8, .int .u8, .int .u8, .int .u8, .int .u8, .int .u8, .int .u8, .int .u8, .int .u8, .int .u8, .int .u8, .int .u8, .int .u8, .int .u8, .int .u8, .int .u8, .int .u8, .int .u8, .int .u8, .int .u8, .int .u8, .int .u8, .int .u8, .int .u8, .int .u8, .int .u8, .int .u8, .int .u8, .int .u8, .int .u8, .int .u8, .int .u8, .int .u8, .int .u8, .int .u8, .int .u8, .int .u8, .int .u8, .int .u8, .int .u8, .int .u8, .int .u8, .int .u8, .int .u8, .int .u8, .int .u8, .int .u8, .int .u8, .int .u8, .int .u8, .int .u8, .int .u8, .int .u8, .int .u8, .int .u8, .int .u8, .int .u8, .int .u8, .int .u8, .int .u8, .int .u8, .int .u8, .int .u8, .int .u8, .int .u8, .int .u8, .int .u8, .int .u8, .int .u8, .int .u8, .int .u8, .int .u8, .int .u8, .int .u8, .int .u8, .int .u8, .int .u8, .int .u8, .int .u8, .int .u8, .int .u8, .int .u8, .int .u8, .int .u8, .int .u8, .int .u8, .int .u8, .int .u8, .int .u8, .int .u8, .int .u8, .int .u8, .int .u8, .int .u8, .int .u8, .int .u8, .int .u8, .int .u8, .int .u8, .int .u8, .int .u8, .int .u8, .int .u8, .int .u8, .int .u8, .int .u8, .int .u8, .int .u8, .int .u8, .int .u8, .int .u8, .int .u8, .int .u8, .int .u8, .int .u8, .int .u8, .int .u8, .int .u8, .int .u8, .int .u8, .int .u8, .int .u8, .int .u8, .int .u8, .int .u8, .int .u8, .int .u8, .int .u8, .int .u8, .int .u8, .int .u8, .int .u8, .int .u8, .int .u8, .int .u8, .int .u8, .int .u8, .int .u8, .int .u8, .int .u8, .int .u8, .int .u8, .int .u8, .int .u8, .int .u64, .sl, .sl, .int .i64, .int .u8, .int .u8, .int .u8, .int .u8, .int .u8, .int .u8, .int .u8, .int .u8, .int .u64, .int .u64, .int .u64, .int .u64, .int .i64, .int .u8, .int .u8, .int .u8, .int .u8, .int .u8, .int .u8, .int .u8, .int .u8, .int .u8, .int .u8, .int .u8, .int .u8, .int .u8, .int .u8, .int .u8, .int .u8, .int .u64, .int .u64, .int .u64, .int .u64, .sl, .int .u64, .bool, .sl]⟩),
 (94, ⟨.sl 93, 1, 24, [.sl]⟩),
 (95, ⟨.st [(0, 31), (1, 24), (2, 27)], 3, 40, [.int .i64, .int .u64, .sl]⟩),
 (96, ⟨.st [(0, 31), (1, 24), (2, 27)], 3, 40, [.int .i64, .int .u64, .sl]⟩),
 (97, ⟨.st [(0, 26), (4, 27), (5, 96), (8, 60)], 9, 120, [.int .u64, .int .u64, .int .u64, .int .u64, .sl, .int .i64, .int .u64, .sl, .sl]⟩),
 (98, ⟨.st [(0, 26), (4, 27), (5, 96), (8, 60)], 9, 120, [.int .u64, .int .u64, .int .u64, .int .u64, .sl, .int .i64, .int .u64, .sl, .sl]⟩),
 (99, ⟨.st [(0, 31), (1, 24), (2, 98)], 11, 136, [.int .i64, .int .u64, .int .u64, .int .u64, .int .u64, .int .u64, .sl, .int .i64, .int .u64, .sl, .sl]⟩),
 (100, ⟨.st [(0, 31), (1, 24), (2, 98)], 11, 136, [.int .i64, .int .u64, .int .u64, .int .u64, .int .u64, .int .u64, .sl, .int .i64, .int .u64, .sl, .sl]⟩),
 (101, ⟨.fn, 1, 8, [.fn]⟩),
 (102, ⟨.fn, 1, 8, [.fn]⟩),
 (103, ⟨.fn, 1, 8, [.fn]⟩),
 (105, ⟨.fn, 1, 8, [.fn]⟩),
 (106, ⟨.sl 29, 1, 24, [.sl]⟩),
 (107, ⟨.st [(0, 40), (204, 106)], 205, 256, [.int .u8, .int .u8, .int .u8, .int .u8, .int .u8, .int .u8, .int .u8, .int .u8, .int .u8, .int .u8, .int .u8, .int .u8, .int .u8, .int .u8, .int .u8, .int .u8, .int .u8, .int .u8, .int .u8, .int .u8, .int .u8, .int .u8, .int .u8, .int .u8, .int .u8, .int .u8, .int .u8, .int .u8, .int .u8, .int .u8, .int .u8, .int .u8, .int .u64, .int .u64, .int .u8, .int .u8, .int .u8, .int .u8, .int .u8, .int .u8, .int .u8, .int .u8, .int .u64, .int .u64, .int .u8, .int .u8, .int .u8, .int .u8, .int .u8, .int .u8, .int .u8, .int .u8, .int .u8, .int .u8, .int .u8, .int .u8, .int .u8, .int .u8, .int .u8, .int .u8, .int .u8, .int .u8, .int .u8, .int .u8, .int .u8, .int .u8, .int .u8, .int .u8, .int .u8, .int .u8, .int .u8, .int .u8, .int .u8, .int .u8, .int .u8, .int .u8, .int .u8, .int .u8, .int .u8, .int .u8, .int .u8, .int .u8, .int .u8, .int .u8, .int .u8, .int .u8, .int .u8, .int .u8, .int .u8, .int .u8, .int .u8, .int .u8, .int .u8, .int .u8, .int .u8, .int .u8, .int .u8, .int .u8, .int .u8, .int .u8, .int .u8, .int .u8, .int .u8, .int .u8, .int .u8, .int .u8, .int .u8, .int .u8, .int .u8, .int .u8, .int .u8, .int .u8, .int .u8, .int .u8, .int .u8, .int .u8, .int .u8, .int .u8, .int .u8, .int .u8, .int .u8, .int .u8, .int .u8, .int .u8, .int .u8, .int .u8, .int .u8, .int .u8, .int .u8, .int .u8, .int .u8, .int .u8, .int .u8, .int .u8, .int .u8, .int .u8, .int .u8, .int .u8, .int .u8, .int .u8, .int .u8, .int .u8, .int .u8, .int .u8, .int .u8, .int .u8, .int .u8, .int .u8, .int .u8, .int .u8, .int .u8, .int .u8, .int .u8, .int .u8, .int .u8, .int .u8, .int .u8, .int .u8, .int .u8, .int .u8, .int .u8, .int .u8, .int .u8, .int .u8, .int .u8, .int .u8, .int .u8, .int .u8, .int .u8, .int .u8, .int .u8, .int .u8, .int .u8, .int .u8, .int .u8, .int .u8, .int .u8, .int .u8, .int .u8, .int .u8, .int .u8, .int .u8, .int .u8, .int .u8, .int .u8, .int .u8, .int .u8, .int .u8, .int .u8, .int .u8, .int .u8, .int .u8, .int .u8, .int .u8, .int .u8, .int .u8, .int .u8, .int .u8, .int .u8, .int .u8, .int .u8, .int .u8, .int .u8, .int .u8, .sl]⟩),
 (108, ⟨.st [(0, 40), (204, 106)], 205, 256, [.int .u8, .int .u8, .int .u8, .int .u8, .int .u8, .int .u8, .int .u8, .int .u8, .int .u8, .int .u8, .int .u8, .int .u8, .int .u8, .int .u8, .int .u8, .int .u8, .int .u8, .int .u8, .int .u8, .int .u8, .int .u8, .int .u8, .int .u8, .int .u8, .int .u8, .int .u8, .int .u8, .int .u8, .int .u8, .int .u8, .int .u8, .int .u8, .int .u64, .int .u64, .int .u8, .int .u8, .int .u8, .int .u8, .int .u8, .int .u8, .int .u8, .int .u8, .int .u64, .int .u64, .int .u8, .int .u8, .int .u8, .int .u8, .int .u8, .int .u8, .int .u8, .int .u8, .int .u8, .int .u8, .int .u8, .int .u8, .int .u8, .int .u8, .int .u8, .int .u8, .int .u8, .int .u8, .int .u8, .int .u8, .int .u8, .int .u8, .int .u8, .int .u8, .int .u8, .int .u8, .int .u8, .int .u8, .int .u8, .int .u8, .int .u8, .int .u8, .int .u8, .int .u8, .int .u8, .int .u8, .int .u8, .int .u8, .int .u8, .int .u8, .int .u8, .int .u8, .int .u8, .int .u8, .int .u8, .int .u8, .int .u8, .int .u8, .int .u8, .int .u8, .int .u8, .int .u8, .int .u8, .int .u8, .int .u8, .int .u8, .int .u8, .int .u8, .int .u8, .int .u8, .int .u8, .int .u8, .int .u8, .int .u8, .int .u8, .int .u8, .int .u8, .int .u8, .int .u8, .int .u8, .int .u8, .int .u8, .int .u8, .int .u8, .int .u8, .int .u8, .int .u8, .int .u8, .int .u8, .int .u8, .int .u8, .int .u8, .int .u8, .int .u8, .int .u8, .int .u8, .int .u8, .int .u8, .int .u8, .int .u8, .int .u8, .int .u8, .int .u8, .int .u8, .int .u8, .int .u8, .int .u8, .int .u8, .int .u8, .int .u8, .int .u8, .int .u8, .int .u8, .int .u8, .int .u8, .int .u8, .int .u8, .int .u8, .int .u8, .int .u8, .int .u8, .int .u8, .int .u8, .int .u8, .int .u8, .int .u8, .int .u8, .int .u8, .int .u8, .int .u8, .int .u8, .int .u8, .int .u8, .int .u8, .int .u8, .int .u8, .int .u8, .int .u8, .int .u8, .int .u8, .int .u8, .int .u8, .int .u8, .int .u8, .int .u8, .int .u8, .int .u8, .int .u8, .int .u8, .int .u8, .int .u8, .int .u8, .int .u8, .int .u8, .int .u8, .int .u8, .int .u8, .int .u8, .int .u8, .int .u8, .int .u8, .int .u8, .int .u8, .int .u8, .int .u8, .int .u8, .int .u8, .int .u8, .int .u8, .int .u8, .sl]⟩),
 (109, ⟨.sl 62, 1, 24, [.sl]⟩),
 (111, ⟨.fn, 1, 8, [.fn]⟩),
 (113, ⟨.fn, 1, 8, [.fn]⟩),
 (114, ⟨.ptr 24, 1, 8, [.ptr]⟩),
 (115, ⟨.arr 4 114, 4, 32, [.ptr, .ptr, .ptr, .ptr]⟩),
 (116, ⟨.arr 7 27, 7, 168, [.sl, .sl, .sl, .sl, .sl, .sl, .sl]⟩),
 (117, ⟨.arr 6 27, 6, 144, [.sl, .sl, .sl, .sl, .sl, .sl]⟩),
 (119, ⟨.fn, 1, 8, [.fn]⟩),
 (120, ⟨.fn, 1, 8, [.fn]⟩),
 (121, ⟨.fn, 1, 8, [.fn]⟩),
 (122, ⟨.fn, 1, 8, [.fn]⟩),
 (123, ⟨.ptr 56, 1, 8, [.ptr]⟩),
 (124, ⟨.fn, 1, 8, [.fn]⟩),
 (125, ⟨.fn, 1, 8, [.fn]⟩),
 (126, ⟨.st [(0, 31), (1, 24), (2, 27), (3, 23), (11, 24), (12, 60), (13, 59)], 14, 104, [.int .i64, .int .u64, .sl, .int .u8, .int .u8, .int .u8, .int .u8, .int .u8, .int .u8, .int .u8, .int .u8, .int .u64, .sl, .sl]⟩),
 (127, ⟨.st [(0, 31), (1, 24), (2, 27), (3, 23), (11, 24), (12, 60), (13, 59)], 14, 104, [.int .i64, .int .u64, .sl, .int .u8, .int .u8, .int .u8, .int .u8, .int .u8, .int .u8, .int .u8, .int .u8, .int .u64, .sl, .sl]⟩),
 (128, ⟨.fn, 1, 8, [.fn]⟩),
 (129, ⟨.fn, 1, 8, [.fn]⟩),
 (130, ⟨.fn, 1, 8, [.fn]⟩),
 (131, ⟨.sl 27, 1, 24, [.sl]⟩),
 (132, ⟨.fn, 1, 8, [.fn]⟩),
 (134, ⟨.fn, 1, 8, [.fn]⟩),
 (135, ⟨.fn, 1, 8, [.fn]⟩),
 (136, ⟨.fn, 1, 8, [.fn]⟩),
 (137, ⟨.fn, 1, 8, [.fn]⟩),
 (138, ⟨.fn, 1, 8, [.fn]⟩),
 (139, ⟨.ptr 142, 1, 8, [.ptr]⟩),
 (140, ⟨.fn, 1, 8, [.fn]⟩),
 (141, ⟨.st [(0, 43), (206, 86)], 207, 304, [.int .u8, .int .u8, .int .u8, .int .u8, .int .u8, .int .u8, .int .u8, .int .u8, .int .u8, .int .u8, .int .u8, .int .u8, .int .u8, .int .u8, .int .u8, .int .u8, .int .u8, .int .u8, .int .u8, .int .u8, .int .u8, .int .u8, .int .u8, .int .u8, .int .u8, .int .u8, .int .u8, .int .u8, .int .u8, .int .u8, .int .u8, .int .u8, .int .u64, .int .u64, .int .u8, .int .u8, .int .u8, .int .u8, .int .u8, .int .u8, .int .u8, .int .u8, .int .u64, .int .u64, .int .u8, .int .u8, .int .u8, .int .u8, .int .u8, .int .u8, .int .u8, .int .u8, .int .u8, .int .u8, .int .u8, .int .u8, .int .u8, .int .u8, .int .u8, .int .u8, .int .u8, .int .u8, .int .u8, .int .u8, .int .u8, .int .u8, .int .u8, .int .u8, .int .u8, .int .u8, .int .u8, .int .u8, .int .u8, .int .u8, .int .u8, .int .u8, .int .u8, .int .u8, .int .u8, .int .u8, .int .u8, .int .u8, .int .u8, .int .u8, .int .u8, .int .u8, .int .u8, .int .u8, .int .u8, .int .u8, .int .u8, .int .u8, .int .u8, .int .u8, .int .u8, .int .u8, .int .u8, .int .u8, .int .u8, .int .u8, .int .u8, .int .u8, .int .u8, .int .u8, .int .u8, .int .u8, .int .u8, .int .u8, .int .u8, .int .u8, .int .u8, .int .u8, .int .u8, .int .u8, .int .u8, .int .u8, .int .u8, .int .u8, .int .u8, .int .u8, .int .u8, .int .u8, .int .u8, .int .u8, .int .u8, .int .u8, .int .u8, .int .u8, .int .u8, .int .u8, .int .u8, .int .u8, .int .u8, .int .u8, .int .u8, .int .u8, .int .u8, .int .u8, .int .u8, .int .u8, .int .u8, .int .u8, .int .u8, .int .u8, .int .u8, .int .u8, .int .u8, .int .u8, .int .u8, .int .u8, .int .u8, .int .u8, .int .u8, .int .u8, .int .u8, .int .u8, .int .u8, .int .u8, .int .u8, .int .u8, .int .u8, .int .u8, .int .u8, .int .u8, .int .u8, .int .u8, .int .u8, .int .u8, .int .u8, .int .u8, .int .u8, .int .u8, .int .u8, .int .u8, .int .u8, .int .u8, .int .u8, .int .u8, .int .u8, .int .u8, .int .u8, .int .u8, .int .u8, .int .u8, .int .u8, .int .u8, .int .u8, .int .u8, .int .u8, .int .u8, .int .u8, .int .u8, .int .u8, .int .u8, .int .u8, .int .u8, .int .u8, .int .u8, .int .u8, .int .u8, .int .u8, .int .u8, .int .u8, .int .u8, .sl, .sl, .sl]⟩),
 (142, ⟨.st [(0, 43), (206, 86)], 207, 304, [.int .u8, .int .u8, .int .u8, .int .u8, .int .u8, .int .u8, .int .u8, .int .u8, .int .u8, .int .u8, .int .u8, .int .u8, .int .u8, .int .u8, .int .u8, .int .u8, .int .u8, .int .u8, .int .u8, .int .u8, .int .u8, .int .u8, .int .u8, .int .u8, .int .u8, .int .u8, .int .u8, .int .u8, .int .u8, .int .u8, .int .u8, .int .u8, .int .u64, .int .u64, .int .u8, .int .u8, .int .u8, .int .u8, .int .u8, .int .u8, .int .u8, .int .u8, .int .u64, .int .u64, .int .u8, .int .u8, .int .u8, .int .u8, .int .u8, .int .u8, .int .u8, .int .u8, .int .u8, .int .u8, .int .u8, .int .u8, .int .u8, .int .u8, .int .u8, .int .u8, .int .u8, .int .u8, .int .u8, .int .u8, .int .u8, .int .u8, .int .u8, .int .u8, .int .u8, .int .u8, .int .u8, .int .u8, .int .u8, .int .u8, .int .u8, .int .u8, .int .u8, .int .u8, .int .u8, .int .u8, .int .u8, .int .u8, .int .u8, .int .u8, .int .u8, .int .u8, .int .u8, .int .u8, .int .u8, .int .u8, .int .u8, .int .u8, .int .u8, .int .u8, .int .u8, .int .u8, .int .u8, .int .u8, .int .u8, .int .u8, .int .u8, .int .u8, .int .u8, .int .u8, .int .u8, .int .u8, .int .u8, .int .u8, .int .u8, .int .u8, .int .u8, .int .u8, .int .u8, .int .u8, .int .u8, .int .u8, .int .u8, .int .u8, .int .u8, .int .u8, .int .u8, .int .u8, .int .u8, .int .u8, .int .u8, .int .u8, .int .u8, .int .u8, .int .u8, .int .u8, .int .u8, .int .u8, .int .u8, .int .u8, .int .u8, .int .u8, .int .u8, .int .u8, .int .u8, .int .u8, .int .u8, .int .u8, .int .u8, .int .u8, .int .u8, .int .u8, .int .u8, .int .u8, .int .u8, .int .u8, .int .u8, .int .u8, .int .u8, .int .u8, .int .u8, .int .u8, .int .u8, .int .u8, .int .u8, .int .u8, .int .u8, .int .u8, .int .u8, .int .u8, .int .u8, .int .u8, .int .u8, .int .u8, .int .u8, .int .u8, .int .u8, .int .u8, .int .u8, .int .u8, .int .u8, .int .u8, .int .u8, .int .u8, .int .u8, .int .u8, .int .u8, .int .u8, .int .u8, .int .u8, .int .u8, .int .u8, .int .u8, .int .u8, .int .u8, .int .u8, .int .u8, .int .u8, .int .u8, .int .u8, .int .u8, .int .u8, .int .u8, .int .u8, .int .u8, .int .u8, .int .u8, .int .u8, .int .u8, .int .u8, .sl, .sl, .sl]⟩),
 (143, ⟨.fn, 1, 8, [.fn]⟩),
 (144, ⟨.sl 146, 1, 24, [.sl]⟩),
 (145, ⟨.st [(0, 3), (1, 27), (2, 27), (3, 144)], 4, 80, [.int .i64, .sl, .sl, .sl]⟩),
 (146, ⟨.st [(0, 3), (1, 27), (2, 27), (3, 144)], 4, 80, [.int .i64, .sl, .sl, .sl]⟩),
 (148, ⟨.fn, 1, 8, [.fn]⟩),
 (149, ⟨.fn, 1, 8, [.fn]⟩),
 (150, ⟨.fn, 1, 8, [.fn]⟩),
 (151, ⟨.ptr 155, 1, 8, [.ptr]⟩),
 (152, ⟨.fn, 1, 8, [.fn]⟩),
 (153, ⟨.fn, 1, 8, [.fn]⟩),
 (154, ⟨.st [(0, 59), (1, 66), (11, 40), (215, 106), (216, 109)], 217, 328, [.sl, .int .u64, .int .u64, .int .u8, .int .u8, .int .u8, .int .u8, .int .u8, .int .u8, .int .u8, .int .u8, .int .u8, .int .u8, .int .u8, .int .u8, .int .u8, .int .u8, .int .u8, .int .u8, .int .u8, .int .u8, .int .u8, .int .u8, .int .u8, .int .u8, .int .u8, .int .u8, .int .u8, .int .u8, .int .u8, .int .u8, .int .u8, .int .u8, .int .u8, .int .u8, .int .u8, .int .u8, .int .u8, .int .u8, .int .u8, .int .u8, .int .u8, .int .u8, .int .u64, .int .u64, .int .u8, .int .u8, .int .u8, .int .u8, .int .u8, .int .u8, .int .u8, .int .u8, .int .u64, .int .u64, .int .u8, .int .u8, .int .u8, .int .u8, .int .u8, .int .u8, .int .u8, .int .u8, .int .u8, .int .u8, .int .u8, .int .u8, .int .u8, .int .u8, .int .u8, .int .u8, .int .u8, .int .u8, .int .u8, .int .u8, .int .u8, .int .u8, .int .u8, .int .u8, .int .u8, .int .u8, .int .u8, .int .u8, .int .u8, .int .u8, .int .u8, .int .u8, .int .u8, .int .u8, .int .u8, .int .u8, .int .u8, .int .u8, .int .u8, .int .u8, .int .u8, .int .u8, .int .u8, .int .u8, .int .u8, .int .u8, .int .u8, .int .u8, .int .u8, .int .u8, .int .u8, .int .u8, .int .u8, .int .u8, .int .u8, .int .u8, .int .u8, .int .u8, .int .u8, .int .u8, .int .u8, .int .u8, .int .u8, .int .u8, .int .u8, .int .u8, .int .u8, .int .u8, .int .u8, .int .u8, .int .u8, .int .u8, .int .u8, .int .u8, .int .u8, .int .u8, .int .u8, .int .u8, .int .u8, .int .u8, .int .u8, .int .u8, .int .u8, .int .u8, .int .u8, .int .u8, .int .u8, .int .u8, .int .u8, .int .u8, .int .u8, .int .u8, .int .u8, .int .u8, .int .u8, .int .u8, .int .u8, .int .u8, .int .u8, .int .u8, .int .u8, .int .u8, .int .u8, .int .u8, .int .u8, .int .u8, .int .u8, .int .u8, .int .u8, .int .u8, .int .u8, .int .u8, .int .u8, .int .u8, .int .u8, .int .u8, .int .u8, .int .u8, .int .u8, .int .u8, .int .u8, .int .u8, .int .u8, .int .u8, .int .u8, .int .u8, .int .u8, .int .u8, .int .u8, .int .u8, .int .u8, .int .u8, .int .u8, .int .u8, .int .u8, .int .u8, .int .u8, .int .u8, .int .u8, .int .u8, .int .u8, .int .u8, .int .u8, .int .u8, .int .u8, .int .u8, .int .u8, .int .u8, .int .u8, .int .u8, .int .u8, .int .u8, .int .u8, .int .u8, .int .u8, .int .u8, .int .u8, .int .u8, .int .u8, .int .u8, .sl, .sl]⟩),
 (155, ⟨.st [(0, 59), (1, 66), (11, 40), (215, 106), (216, 109)], 217, 328, [.sl, .int .u64, .int .u64, .int .u8, .int .u8, .int .u8, .int .u8, .int .u8, .int .u8, .int .u8, .int .u8, .int .u8, .int .u8, .int .u8, .int .u8, .int .u8, .int .u8, .int .u8, .int .u8, .int .u8, .int .u8, .int .u8, .int .u8, .int .u8, .int .u8, .int .u8, .int .u8, .int .u8, .int .u8, .int .u8, .int .u8, .int .u8, .int .u8, .int .u8, .int .u8, .int .u8, .int .u8, .int .u8, .int .u8, .int .u8, .int .u8, .int .u8, .int .u8, .int .u64, .int .u64, .int .u8, .int .u8, .int .u8, .int .u8, .int .u8, .int .u8, .int .u8, .int .u8, .int .u64, .int .u64, .int .u8, .int .u8, .int .u8, .int .u8, .int .u8, .int .u8, .int .u8, .int .u8, .int .u8, .int .u8, .int .u8, .int .u8, .int .u8, .int .u8, .int .u8, .int .u8, .int .u8, .int .u8, .int .u8, .int .u8, .int .u8, .int .u8, .int .u8, .int .u8, .int .u8, .int .u8, .int .u8, .int .u8, .int .u8, .int .u8, .int .u8, .int .u8, .int .u8, .int .u8, .int .u8, .int .u8, .int .u8, .int .u8, .int .u8, .int .u8, .int .u8, .int .u8, .int .u8, .int .u8, .int .u8, .int .u8, .int .u8, .int .u8, .int .u8, .int .u8, .int .u8, .int .u8, .int .u8, .int .u8, .int .u8, .int .u8, .int .u8, .int .u8, .int .u8, .int .u8, .int .u8, .int .u8, .int .u8, .int .u8, .int .u8, .int .u8, .int .u8, .int .u8, .int .u8, .int .u8, .int .u8, .int .u8, .int .u8, .int .u8, .int .u8, .int .u8, .int .u8, .int .u8, .int .u8, .int .u8, .int .u8, .int .u8, .int .u8, .int .u8, .int .u8, .int .u8, .int .u8, .int .u8, .int .u8, .int .u8, .int .u8, .int .u8, .int .u8, .int .u8, .int .u8, .int .u8, .int .u8, .int .u8, .int .u8, .int .u8, .int .u8, .int .u8, .int .u8, .int .u8, .int .u8, .int .u8, .int .u8, .int .u8, .int .u8, .int .u8, .int .u8, .int .u8, .int .u8, .int .u8, .int .u8, .int .u8, .int .u8, .int .u8, .int .u8, .int .u8, .int .u8, .int .u8, .int .u8, .int .u8, .int .u8, .int .u8, .int .u8, .int .u8, .int .u8, .int .u8, .int .u8, .int .u8, .int .u8, .int .u8, .int .u8, .int .u8, .int .u8, .int .u8, .int .u8, .int .u8, .int .u8, .int .u8, .int .u8, .int .u8, .int .u8, .int .u8, .int .u8, .int .u8, .int .u8, .int .u8, .int .u8, .int .u8, .int .u8, .int .u8, .int .u8, .int .u8, .int .u8, .int .u8, .int .u8, .int .u8, .sl, .sl]⟩),
 (156, ⟨.fn, 1, 8, [.fn]⟩),
 (157, ⟨.fn, 1, 8, [.fn]⟩),
 (158, ⟨.fn, 1, 8, [.fn]⟩),
 (159, ⟨.fn, 1, 8, [.fn]⟩),
 (161, ⟨.fn, 1, 8, [.fn]⟩),
 (162, ⟨.fn, 1, 8, [.fn]⟩),
 (163, ⟨.fn, 1, 8, [.fn]⟩),
 (165, ⟨.fn, 1, 8, [.fn]⟩),
 (167, ⟨.fn, 1, 8, [.fn]⟩),
 (168, ⟨.arr 8 24, 8, 64, [.int .u64, .int .u64, .int .u64, .int .u64, .int .u64, .int .u64, .int .u64, .int .u64]⟩),
 (169, ⟨.fn, 1, 8, [.fn]⟩),
 (170, ⟨.ptr 224, 1, 8, [.ptr]⟩),
 (172, ⟨.fn, 1, 8, [.fn]⟩),
 (173, ⟨.sl 58, 1, 24, [.sl]⟩),
 (174, ⟨.fn, 1, 8, [.fn]⟩),
 (175, ⟨.arr 3 5, 3, 3, [.int .u8, .int .u8, .int .u8]⟩),
 (176, ⟨.fn, 1, 8, [.fn]⟩),
 (177, ⟨.sl 26, 1, 24, [.sl]⟩),
 (178, ⟨.st [(0, 23), (8, 177), (9, 27)], 10, 56, [.int .u8, .int .u8, .int .u8, .int .u8, .int .u8, .int .u8, .int .u8, .int .u8, .sl, .sl]⟩),
 (179, ⟨.st [(0, 23), (8, 177), (9, 27)], 10, 56, [.int .u8, .int .u8, .int .u8, .int .u8, .int .u8, .int .u8, .int .u8, .int .u8, .sl, .sl]⟩),
 (180, ⟨.st [], 0, 0, []⟩),
 (181, ⟨.st [], 0, 0, []⟩),
 (183, ⟨.st [(0, 27)], 1, 24, [.sl]⟩),
 (184, ⟨.st [(0, 27)], 1, 24, [.sl]⟩),
 (185, ⟨.fn, 1, 8, [.fn]⟩),
 (186, ⟨.fn, 1, 8, [.fn]⟩),
 (188, ⟨.fn, 1, 8, [.fn]⟩),
 (189, ⟨.fn, 1, 8, [.fn]⟩),
 (190, ⟨.sl 198, 1, 24, [.sl]⟩),
 (191, ⟨.st [(0, 24), (1, 26), (5, 38), (37, 38)], 69, 104, [.int .u64, .int .u64, .int .u64, .int .u64, .int .u64, .int .u8, .int .u8, .int .u8, .int .u8, .int .u8, .int .u8, .int .u8, .int .u8, .int .u8, .int .u8, .int .u8, .int .u8, .int .u8, .int .u8, .int .u8, .int .u8, .int .u8, .int .u8, .int .u8, .int .u8, .int .u8, .int .u8, .int .u8, .int .u8, .int .u8, .int .u8, .int .u8, .int .u8, .int .u8, .int .u8, .int .u8, .int .u8, .int .u8, .int .u8, .int .u8, .int .u8, .int .u8, .int .u8, .int .u8, .int .u8, .int .u8, .int .u8, .int .u8, .int .u8, .int .u8, .int .u8, .int .u8, .int .u8, .int .u8, .int .u8, .int .u8, .int .u8, .int .u8, .int .u8, .int .u8, .int .u8, .int .u8, .int .u8, .int .u8, .int .u8, .int .u8, .int .u8, .int .u8, .int .u8]⟩),
 (192, ⟨.st [(0, 24), (1, 26), (5, 38), (37, 38)], 69, 104, [.int .u64, .int .u64, .int .u64, .int .u64, .int .u64, .int .u8, .int .u8, .int .u8, .int .u8, .int .u8, .int .u8, .int .u8, .int .u8, .int .u8, .int .u8, .int .u8, .int .u8, .int .u8, .int .u8, .int .u8, .int .u8, .int .u8, .int .u8, .int .u8, .int .u8, .int .u8, .int .u8, .int .u8, .int .u8, .int .u8, .int .u8, .int .u8, .int .u8, .int .u8, .int .u8, .int .u8, .int .u8, .int .u8, .int .u8, .int .u8, .int .u8, .int .u8, .int .u8, .int .u8, .int .u8, .int .u8, .int .u8, .int .u8, .int .u8, .int .u8, .int .u8, .int .u8, .int .u8, .int .u8, .int .u8, .int .u8, .int .u8, .int .u8, .int .u8, .int .u8, .int .u8, .int .u8, .int .u8, .int .u8, .int .u8, .int .u8, .int .u8, .int .u8, .int .u8]⟩),
 (194, ⟨.fn, 1, 8, [.fn]⟩),
 (195, ⟨.fn, 1, 8, [.fn]⟩),
 (196, ⟨.fn, 1, 8, [.fn]⟩),
 (197, ⟨.st [(0, 27), (1, 27)], 2, 48, [.sl, .sl]⟩),
 (198, ⟨.st [(0, 27), (1, 27)], 2, 48, [.sl, .sl]⟩),
 (199, ⟨.fn, 1, 8, [.fn]⟩),
 (201, ⟨.fn, 1, 8, [.fn]⟩),
 (202, ⟨.fn, 1, 8, [.fn]⟩),
 (203, ⟨.fn, 1, 8, [.fn]⟩),
 (204, ⟨.fn, 1, 8, [.fn]⟩),
 (205, ⟨.fn, 1, 8, [.fn]⟩),
 (206, ⟨.fn, 1, 8, [.fn]⟩),
 (207, ⟨.fn, 1, 8, [.fn]⟩),
 (208, ⟨.fn, 1, 8, [.fn]⟩),
 (209, ⟨.fn, 1, 8, [.fn]⟩),
 (210, ⟨.fn, 1, 8, [.fn]⟩),
 (211, ⟨.fn, 1, 8, [.fn]⟩),
 (212, ⟨.fn, 1, 8, [.fn]⟩),
 (213, ⟨.st [(0, 26), (4, 26)], 8, 64, [.int .u64, .int .u64, .int .u64, .int .u64, .int .u64, .int .u64, .int .u64, .int .u64]⟩),
 (214, ⟨.st [(0, 26), (4, 26)], 8, 64, [.int .u64, .int .u64, .int .u64, .int .u64, .int .u64, .int .u64, .int .u64, .int .u64]⟩),
 (215, ⟨.fn, 1, 8, [.fn]⟩),
 (216, ⟨.fn, 1, 8, [.fn]⟩),
 (217, ⟨.ifc, 1, 16, [.ifc]⟩),
 (218, ⟨.ifc, 1, 16, [.ifc]⟩),
 (219, ⟨.ptr 271, 1, 8, [.ptr]⟩),
 (220, ⟨.fn, 1, 8, [.fn]⟩),
 (221, ⟨.st [(0, 26), (4, 27)], 5, 56, [.int .u64, .int .u64, .int .u64, .int .u64, .sl]⟩),
 (222, ⟨.st [(0, 26), (4, 27)], 5, 56, [.int .u64, .int .u64, .int .u64, .int .u64, .sl]⟩),
 (223, ⟨.st [(0, 66), (10, 218), (11, 219), (12, 60), (13, 24)], 14, 80, [.int .u64, .int .u64, .int .u8, .int .u8, .int .u8, .int .u8, .int .u8, .int .u8, .int .u8, .int .u8, .ifc, .ptr, .sl, .int .u64]⟩),
 (224, ⟨.st [(0, 66), (10, 218), (11, 219), (12, 60), (13, 24)], 14, 80, [.int .u64, .int .u64, .int .u8, .int .u8, .int .u8, .int .u8, .int .u8, .int .u8, .int .u8, .int .u8, .ifc, .ptr, .sl, .int .u64]⟩),
 (225, ⟨.fn, 1, 8, [.fn]⟩),
 (226, ⟨.st [(0, 88), (24, 23), (32, 23), (40, 26), (44, 3)], 45, 152, [.int .i64, .int .u8, .int .u8, .int .u8, .int .u8, .int .u8, .int .u8, .int .u8, .int .u8, .int .u8, .int .u8, .int .u8, .int .u8, .int .u8, .int .u8, .int .u8, .int .u8, .int .u64, .int .u64, .int .u64, .int .u64, .sl, .int .u64, .bool, .int .u8, .int .u8, .int .u8, .int .u8, .int .u8, .int .u8, .int .u8, .int .u8, .int .u8, .int .u8, .int .u8, .int .u8, .int .u8, .int .u8, .int .u8, .int .u8, .int .u64, .int .u64, .int .u64, .int .u64, .int .i64]⟩),
 (227, ⟨.st [(0, 88), (24, 23), (32, 23), (40, 26), (44, 3)], 45, 152, [.int .i64, .int .u8, .int .u8, .int .u8, .int .u8, .int .u8, .int .u8, .int .u8, .int .u8, .int .u8, .int .u8, .int .u8, .int .u8, .int .u8, .int .u8, .int .u8, .int .u8, .int .u64, .int .u64, .int .u64, .int .u64, .sl, .int .u64, .bool, .int .u8, .int .u8, .int .u8, .int .u8, .int .u8, .int .u8, .int .u8, .int .u8, .int .u8, .int .u8, .int .u8, .int .u8, .int .u8, .int .u8, .int .u8, .int .u8, .int .u64, .int .u64, .int .u64, .int .u64, .int .i64]⟩),
 (228, ⟨.fn, 1, 8, [.fn]⟩),
 (229, ⟨.sl 9, 1, 24, [.sl]⟩),
 (230, ⟨.fn, 1, 8, [.fn]⟩),
 (232, ⟨.fn, 1, 8, [.fn]⟩),
 (233, ⟨.fn, 1, 8, [.fn]⟩),
 (235, ⟨.fn, 1, 8, [.fn]⟩),
 (236, ⟨.ptr 184, 1, 8, [.ptr]⟩),
 (237, ⟨.fn, 1, 8, [.fn]⟩),
 (238, ⟨.fn, 1, 8, [.fn]⟩),
 (240, ⟨.fn, 1, 8, [.fn]⟩),
 (241, ⟨.fn, 1, 8, [.fn]⟩),
 (242, ⟨.fn, 1, 8, [.fn]⟩),
 (243, ⟨.fn, 1, 8, [.fn]⟩),
 (244, ⟨.fn, 1, 8, [.fn]⟩),
 (245, ⟨.st [(0, 3), (1, 23), (9, 26)], 13, 48, [.int .i64, .int .u8, .int .u8, .int .u8, .int .u8, .int .u8, .int .u8, .int .u8, .int .u8, .int .u64, .int .u64, .int .u64, .int .u64]⟩),
 (246, ⟨.st [(0, 3), (1, 23), (9, 26)], 13, 48, [.int .i64, .int .u8, .int .u8, .int .u8, .int .u8, .int .u8, .int .u8, .int .u8, .int .u8, .int .u64, .int .u64, .int .u64, .int .u64]⟩),
 (248, ⟨.fn, 1, 8, [.fn]⟩),
 (249, ⟨.fn, 1, 8, [.fn]⟩),
 (250, ⟨.arr 8 24, 8, 64, [.int .u64, .int .u64, .int .u64, .int .u64, .int .u64, .int .u64, .int .u64, .int .u64]⟩),
 (251, ⟨.st [(0, 250), (8, 37), (40, 3)], 41, 104, [.int .u64, .int .u64, .int .u64, .int .u64, .int .u64, .int .u64, .int .u64, .int .u64, .int .u8, .int .u8, .int .u8, .int .u8, .int .u8, .int .u8, .int .u8, .int .u8, .int .u8, .int .u8, .int .u8, .int .u8, .int .u8, .int .u8, .int .u8, .int .u8, .int .u8, .int .u8, .int .u8, .int .u8, .int .u8, .int .u8, .int .u8, .int .u8, .int .u8, .int .u8, .int .u8, .int .u8, .int .u8, .int .u8, .int .u8, .int .u8, .int .i64]⟩),
 (252, ⟨.st [(0, 250), (8, 37), (40, 3)], 41, 104, [.int .u64, .int .u64, .int .u64, .int .u64, .int .u64, .int .u64, .int .u64, .int .u64, .int .u8, .int .u8, .int .u8, .int .u8, .int .u8, .int .u8, .int .u8, .int .u8, .int .u8, .int .u8, .int .u8, .int .u8, .int .u8, .int .u8, .int .u8, .int .u8, .int .u8, .int .u8, .int .u8, .int .u8, .int .u8, .int .u8, .int .u8, .int .u8, .int .u8, .int .u8, .int .u8, .int .u8, .int .u8, .int .u8, .int .u8, .int .u8, .int .i64]⟩),
 (253, ⟨.fn, 1, 8, [.fn]⟩),
 (254, ⟨.fn, 1, 8, [.fn]⟩),
 (255, ⟨.ifc, 1, 16, [.ifc]⟩),
 (256, ⟨.ifc, 1, 16, [.ifc]⟩),
 (257, ⟨.fn, 1, 8, [.fn]⟩),
 (258, ⟨.fn, 1, 8, [.fn]⟩),
 (259, ⟨.fn, 1, 8, [.fn]⟩),
 (260, ⟨.fn, 1, 8, [.fn]⟩),
 (261, ⟨.ptr 131, 1, 8, [.ptr]⟩),
 (262, ⟨.fn, 1, 8, [.fn]⟩),
 (263, ⟨.fn, 1, 8, [.fn]⟩),
 (264, ⟨.int .u64, 1, 8, [.int .u64]⟩),
 (265, ⟨.fn, 1, 8, [.fn]⟩),
 (266, ⟨.fn, 1, 8, [.fn]⟩),
 (267, ⟨.map 9 222, 1, 8, [.map]⟩),
 (268, ⟨.sl 334, 1, 24, [.sl]⟩),
 (269, ⟨.sl 3, 1, 24, [.sl]⟩),
 (270, ⟨.st [(0, 267), (1, 268), (2, 269)], 3, 56, [.map, .sl, .sl]⟩),
 (271, ⟨.st [(0, 267), (1, 268), (2, 269)], 3, 56, [.map, .sl, .sl]⟩),
 (272, ⟨.fn, 1, 8, [.fn]⟩),
 (273, ⟨.fn, 1, 8, [.fn]⟩),
 (274, ⟨.fn, 1, 8, [.fn]⟩),
 (275, ⟨.fn, 1, 8, [.fn]⟩),
 (276, ⟨.fn, 1, 8, [.fn]⟩),
 (277, ⟨.fn, 1, 8, [.fn]⟩),
 (278, ⟨.fn, 1, 8, [.fn]⟩),
 (279, ⟨.fn, 1, 8, [.fn]⟩),
 (280, ⟨.fn, 1, 8, [.fn]⟩),
 (281, ⟨.fn, 1, 8, [.fn]⟩),
 (282, ⟨.fn, 1, 8, [.fn]⟩),
 (283, ⟨.fn, 1, 8, [.fn]⟩),
 (284, ⟨.fn, 1, 8, [.fn]⟩),
 (285, ⟨.fn, 1, 8, [.fn]⟩),
 (286, ⟨.fn, 1, 8, [.fn]⟩),
 (287, ⟨.fn, 1, 8, [.fn]⟩),
 (288, ⟨.ptr 293, 1, 8, [.ptr]⟩),
 (289, ⟨.map 23 192, 1, 8, [.map]⟩),
 (290, ⟨.map 23 27, 1, 8, [.map]⟩),
 (291, ⟨.map 348 26, 1, 8, [.map]⟩),
 (292, ⟨.st [(0, 38), (32, 289), (33, 290), (34, 291)], 35, 56, [.int .u8, .int .u8, .int .u8, .int .u8, .int .u8, .int .u8, .int .u8, .int .u8, .int .u8, .int .u8, .int .u8, .int .u8, .int .u8, .int .u8, .int .u8, .int .u8, .int .u8, .int .u8, .int .u8, .int .u8, .int .u8, .int .u8, .int .u8, .int .u8, .int .u8, .int .u8, .int .u8, .int .u8, .int .u8, .int .u8, .int .u8, .int .u8, .map, .map, .map]⟩),
 (293, ⟨.st [(0, 38), (32, 289), (33, 290), (34, 291)], 35, 56, [.int .u8, .int .u8, .int .u8, .int .u8, .int .u8, .int .u8, .int .u8, .int .u8, .int .u8, .int .u8, .int .u8, .int .u8, .int .u8, .int .u8, .int .u8, .int .u8, .int .u8, .int .u8, .int .u8, .int .u8, .int .u8, .int .u8, .int .u8, .int .u8, .int .u8, .int .u8, .int .u8, .int .u8, .int .u8, .int .u8, .int .u8, .int .u8, .map, .map, .map]⟩),
 (295, ⟨.fn, 1, 8, [.fn]⟩),
 (296, ⟨.fn, 1, 8, [.fn]⟩),
 (297, ⟨.st [(0, 131), (1, 27)], 2, 48, [.sl, .sl]⟩),
 (298, ⟨.st [(0, 131), (1, 27)], 2, 48, [.sl, .sl]⟩),
 (299, ⟨.ptr 252, 1, 8, [.ptr]⟩),
 (300, ⟨.fn, 1, 8, [.fn]⟩),
 (301, ⟨.fn, 1, 8, [.fn]⟩),
 (302, ⟨.st [(0, 27), (1, 27)], 2, 48, [.sl, .sl]⟩),
 (303, ⟨.st [(0, 27), (1, 27)], 2, 48, [.sl, .sl]⟩),
 (304, ⟨.fn, 1, 8, [.fn]⟩),
 (305, ⟨.st [(0, 27), (1, 256)], 2, 40, [.sl, .ifc]⟩),
 (306, ⟨.st [(0, 27), (1, 256)], 2, 40, [.sl, .ifc]⟩),
 (307, ⟨.fn, 1, 8, [.fn]⟩),
 (308, ⟨.arr 16 256, 16, 256, [.ifc, .ifc, .ifc, .ifc, .ifc, .ifc, .ifc, .ifc, .ifc, .ifc, .ifc, .ifc, .ifc, .ifc, .ifc, .ifc]⟩),
 (309, ⟨.st [(0, 308), (16, 27)], 17, 280, [.ifc, .ifc, .ifc, .ifc, .ifc, .ifc, .ifc, .ifc, .ifc, .ifc, .ifc, .ifc, .ifc, .ifc, .ifc, .ifc, .sl]⟩),
 (310, ⟨.st [(0, 308), (16, 27)], 17, 280, [.ifc, .ifc, .ifc, .ifc, .ifc, .ifc, .ifc, .ifc, .ifc, .ifc, .ifc, .ifc, .ifc, .ifc, .ifc, .ifc, .sl]⟩),
 (311, ⟨.fn, 1, 8, [.fn]⟩),
 (312, ⟨.fn, 1, 8, [.fn]⟩),
 (313, ⟨.fn, 1, 8, [.fn]⟩),
 (314, ⟨.st [(0, 3), (1, 27), (2, 27), (3, 131)], 4, 80, [.int .i64, .sl, .sl, .sl]⟩),
 (315, ⟨.st [(0, 3), (1, 27), (2, 27), (3, 131)], 4, 80, [.int .i64, .sl, .sl, .sl]⟩),
 (317, ⟨.fn, 1, 8, [.fn]⟩),
 (318, ⟨.fn, 1, 8, [.fn]⟩),
 (320, ⟨.fn, 1, 8, [.fn]⟩),
 (321, ⟨.fn, 1, 8, [.fn]⟩),
 (322, ⟨.fn, 1, 8, [.fn]⟩),
 (323, ⟨.ptr 328, 1, 8, [.ptr]⟩),
 (324, ⟨.st [(0, 27)], 1, 24, [.sl]⟩),
 (325, ⟨.st [(0, 27)], 1, 24, [.sl]⟩),
 (326, ⟨.map 3 180, 1, 8, [.map]⟩),
 (327, ⟨.st [(0, 27), (1, 27), (2, 24), (3, 325), (4, 177), (5, 326), (6, 3), (7, 27)], 8, 144, [.sl, .sl, .int .u64, .sl, .sl, .map, .int .i64, .sl]⟩),
 (328, ⟨.st [(0, 27), (1, 27), (2, 24), (3, 325), (4, 177), (5, 326), (6, 3), (7, 27)], 8, 144, [.sl, .sl, .int .u64, .sl, .sl, .map, .int .i64, .sl]⟩),
 (329, ⟨.ptr 331, 1, 8, [.ptr]⟩),
 (330, ⟨.st [(0, 170), (1, 23), (9, 23), (17, 26), (21, 4), (22, 3), (23, 27)], 24, 96, [.ptr, .int .u8, .int .u8, .int .u8, .int .u8, .int .u8, .int .u8, .int .u8, .int .u8, .int .u8, .int .u8, .int .u8, .int .u8, .int .u8, .int .u8, .int .u8, .int .u8, .int .u64, .int .u64, .int .u64, .int .u64, .bool, .int .i64, .sl]⟩),
 (331, ⟨.st [(0, 170), (1, 23), (9, 23), (17, 26), (21, 4), (22, 3), (23, 27)], 24, 96, [.ptr, .int .u8, .int .u8, .int .u8, .int .u8, .int .u8, .int .u8, .int .u8, .int .u8, .int .u8, .int .u8, .int .u8, .int .u8, .int .u8, .int .u8, .int .u8, .int .u8, .int .u64, .int .u64, .int .u64, .int .u64, .bool, .int .i64, .sl]⟩),
 (332, ⟨.fn, 1, 8, [.fn]⟩),
 (333, ⟨.st [(0, 9), (1, 222), (6, 4)], 7, 80, [.str, .int .u64, .int .u64, .int .u64, .int .u64, .sl, .bool]⟩),
 (334, ⟨.st [(0, 9), (1, 222), (6, 4)], 7, 80, [.str, .int .u64, .int .u64, .int .u64, .int .u64, .sl, .bool]⟩),
 (335, ⟨.fn, 1, 8, [.fn]⟩),
 (336, ⟨.fn, 1, 8, [.fn]⟩),
 (337, ⟨.map 340 3, 1, 8, [.map]⟩),
 (338, ⟨.fn, 1, 8, [.fn]⟩),
 (339, ⟨.st [(0, 24), (1, 38)], 33, 40, [.int .u64, .int .u8, .int .u8, .int .u8, .int .u8, .int .u8, .int .u8, .int .u8, .int .u8, .int .u8, .int .u8, .int .u8, .int .u8, .int .u8, .int .u8, .int .u8, .int .u8, .int .u8, .int .u8, .int .u8, .int .u8, .int .u8, .int .u8, .int .u8, .int .u8, .int .u8, .int .u8, .int .u8, .int .u8, .int .u8, .int .u8, .int .u8, .int .u8]⟩),
 (340, ⟨.st [(0, 24), (1, 38)], 33, 40, [.int .u64, .int .u8, .int .u8, .int .u8, .int .u8, .int .u8, .int .u8, .int .u8, .int .u8, .int .u8, .int .u8, .int .u8, .int .u8, .int .u8, .int .u8, .int .u8, .int .u8, .int .u8, .int .u8, .int .u8, .int .u8, .int .u8, .int .u8, .int .u8, .int .u8, .int .u8, .int .u8, .int .u8, .int .u8, .int .u8, .int .u8, .int .u8, .int .u8]⟩),
 (341, ⟨.st [(0, 246)], 13, 48, [.int .i64, .int .u8, .int .u8, .int .u8, .int .u8, .int .u8, .int .u8, .int .u8, .int .u8, .int .u64, .int .u64, .int .u64, .int .u64]⟩),
 (342, ⟨.st [(0, 246)], 13, 48, [.int .i64, .int .u8, .int .u8, .int .u8, .int .u8, .int .u8, .int .u8, .int .u8, .int .u8, .int .u64, .int .u64, .int .u64, .int .u64]⟩),
 (344, ⟨.fn, 1, 8, [.fn]⟩),
 (345, ⟨.fn, 1, 8, [.fn]⟩),
 (346, ⟨.fn, 1, 8, [.fn]⟩),
 (347, ⟨.st [(0, 23), (8, 26)], 12, 40, [.int .u8, .int .u8, .int .u8, .int .u8, .int .u8, .int .u8, .int .u8, .int .u8, .int .u64, .int .u64, .int .u64, .int .u64]⟩),
 (348, ⟨.st [(0, 23), (8, 26)], 12, 40, [.int .u8, .int .u8, .int .u8, .int .u8, .int .u8, .int .u8, .int .u8, .int .u8, .int .u64, .int .u64, .int .u64, .int .u64]⟩),
 (349, ⟨.fn, 1, 8, [.fn]⟩),
 (350, ⟨.fn, 1, 8, [.fn]⟩),
 (351, ⟨.fn, 1, 8, [.fn]⟩),
 (352, ⟨.fn, 1, 8, [.fn]⟩),
 (353, ⟨.fn, 1, 8, [.fn]⟩),
 (354, ⟨.fn, 1, 8, [.fn]⟩),
 (356, ⟨.fn, 1, 8, [.fn]⟩),
 (357, ⟨.fn, 1, 8, [.fn]⟩),
 (358, ⟨.fn, 1, 8, [.fn]⟩),
 (359, ⟨.ifc, 1, 16, [.ifc]⟩),
 (360, ⟨.ifc, 1, 16, [.ifc]⟩),
 (361, ⟨.st [(0, 31)], 1, 8, [.int .i64]⟩),
 (362, ⟨.st [(0, 31)], 1, 8, [.int .i64]⟩),
 (364, ⟨.fn, 1, 8, [.fn]⟩),
 (365, ⟨.fn, 1, 8, [.fn]⟩),
 (366, ⟨.fn, 1, 8, [.fn]⟩),
 (367, ⟨.fn, 1, 8, [.fn]⟩),
 (368, ⟨.fn, 1, 8, [.fn]⟩),
 (369, ⟨.fn, 1, 8, [.fn]⟩),
 (370, ⟨.fn, 1, 8, [.fn]⟩),
 (371, ⟨.fn, 1, 8, [.fn]⟩),
 (372, ⟨.fn, 1, 8, [.fn]⟩),
 (373, ⟨.fn, 1, 8, [.fn]⟩),
 (374, ⟨.fn, 1, 8, [.fn]⟩),
 (375, ⟨.fn, 1, 8, [.fn]⟩),
 (376, ⟨.fn, 1, 8, [.fn]⟩),
 (377, ⟨.fn, 1, 8, [.fn]⟩),
 (378, ⟨.fn, 1, 8, [.fn]⟩),
 (379, ⟨.st [], 0, 0, []⟩),
 (381, ⟨.fn, 1, 8, [.fn]⟩),
 (382, ⟨.fn, 1, 8, [.fn]⟩),
 (383, ⟨.fn, 1, 8, [.fn]⟩),
 (384, ⟨.fn, 1, 8, [.fn]⟩),
 (385, ⟨.fn, 1, 8, [.fn]⟩),
 (386, ⟨.fn, 1, 8, [.fn]⟩),
 (387, ⟨.fn, 1, 8, [.fn]⟩),
 (388, ⟨.fn, 1, 8, [.fn]⟩),
 (389, ⟨.fn, 1, 8, [.fn]⟩),
 (390, ⟨.int .i64, 1, 8, [.int .i64]⟩),
 (392, ⟨.fn, 1, 8, [.fn]⟩),
 (393, ⟨.fn, 1, 8, [.fn]⟩),
 (394, ⟨.fn, 1, 8, [.fn]⟩),
 (395, ⟨.fn, 1, 8, [.fn]⟩),
 (396, ⟨.fn, 1, 8, [.fn]⟩),
 (397, ⟨.fn, 1, 8, [.fn]⟩),
 (398, ⟨.int .u32, 1, 4, [.int .u32]⟩),
 (400, ⟨.fn, 1, 8, [.fn]⟩),
 (402, ⟨.fn, 1, 8, [.fn]⟩),
 (404, ⟨.fn, 1, 8, [.fn]⟩),
 (405, ⟨.fn, 1, 8, [.fn]⟩),
 (406, ⟨.fn, 1, 8, [.fn]⟩),
 (408, ⟨.fn, 1, 8, [.fn]⟩),
 (409, ⟨.fn, 1, 8, [.fn]⟩),
 (410, ⟨.fn, 1, 8, [.fn]⟩),
 (412, ⟨.fn, 1, 8, [.fn]⟩),
 (413, ⟨.fn, 1, 8, [.fn]⟩),
 (415, ⟨.fn, 1, 8, [.fn]⟩),
 (416, ⟨.fn, 1, 8, [.fn]⟩),
 (417, ⟨.fn, 1, 8, [.fn]⟩),
 (418, ⟨.fn, 1, 8, [.fn]⟩),
 (419, ⟨.int .u64, 1, 8, [.int .u64]⟩),
 (420, ⟨.fn, 1, 8, [.fn]⟩),
 (421, ⟨.fn, 1, 8, [.fn]⟩),
 (422, ⟨.fn, 1, 8, [.fn]⟩),
 (423, ⟨.ptr 3, 1, 8, [.ptr]⟩),
 (424, ⟨.fn, 1, 8, [.fn]⟩),
 (426, ⟨.fn, 1, 8, [.fn]⟩),
 (427, ⟨.fn, 1, 8, [.fn]⟩),
 (428, ⟨.ptr 325, 1, 8, [.ptr]⟩),
 (429, ⟨.fn, 1, 8, [.fn]⟩),
 (430, ⟨.fn, 1, 8, [.fn]⟩),
 (432, ⟨.fn, 1, 8, [.fn]⟩),
 (434, ⟨.fn, 1, 8, [.fn]⟩),
 (435, ⟨.ptr 419, 1, 8, [.ptr]⟩),
 (436, ⟨.fn, 1, 8, [.fn]⟩),
 (438, ⟨.fn, 1, 8, [.fn]⟩),
 (439, ⟨.fn, 1, 8, [.fn]⟩),
 (440, ⟨.fn, 1, 8, [.fn]⟩),
 (441, ⟨.fn, 1, 8, [.fn]⟩),
 (442, ⟨.arr 24 5, 24, 24, [.int .u8, .int .u8, .int .u8, .int .u8, .int .u8, .int .u8, .int .u8, .int .u8, .int .u8, .int .u8, .int .u8, .int .u8, .int .u8, .int .u8, .int .u8, .int .u8, .int .u8, .int .u8, .int .u8, .int .u8, .int .u8, .int .u8, .int .u8, .int .u8]⟩),
 (444, ⟨.fn, 1, 8, [.fn]⟩),
 (445, ⟨.fn, 1, 8, [.fn]⟩),
 (446, ⟨.fn, 1, 8, [.fn]⟩),
 (447, ⟨.arr 20 24, 20, 160, [.int .u64, .int .u64, .int .u64, .int .u64, .int .u64, .int .u64, .int .u64, .int .u64, .int .u64, .int .u64, .int .u64, .int .u64, .int .u64, .int .u64, .int .u64, .int .u64, .int .u64, .int .u64, .int .u64, .int .u64]⟩),
 (448, ⟨.arr 65 5, 65, 65, [.int .u8, .int .u8, .int .u8, .int .u8, .int .u8, .int .u8, .int .u8, .int .u8, .int .u8, .int .u8, .int .u8, .int .u8, .int .u8, .int .u8, .int .u8, .int .u8, .int .u8, .int .u8, .int .u8, .int .u8, .int .u8, .int .u8, .int .u8, .int .u8, .int .u8, .int .u8, .int .u8, .int .u8, .int .u8, .int .u8, .int .u8, .int .u8, .int .u8, .int .u8, .int .u8, .int .u8, .int .u8, .int .u8, .int .u8, .int .u8, .int .u8, .int .u8, .int .u8, .int .u8, .int .u8, .int .u8, .int .u8, .int .u8, .int .u8, .int .u8, .int .u8, .int .u8, .int .u8, .int .u8, .int .u8, .int .u8, .int .u8, .int .u8, .int .u8, .int .u8, .int .u8, .int .u8, .int .u8, .int .u8, .int .u8]⟩),
 (449, ⟨.arr 64 5, 64, 64, [.int .u8, .int .u8, .int .u8, .int .u8, .int .u8, .int .u8, .int .u8, .int .u8, .int .u8, .int .u8, .int .u8, .int .u8, .int .u8, .int .u8, .int .u8, .int .u8, .int .u8, .int .u8, .int .u8, .int .u8, .int .u8, .int .u8, .int .u8, .int .u8, .int .u8, .int .u8, .int .u8, .int .u8, .int .u8, .int .u8, .int .u8, .int .u8, .int .u8, .int .u8, .int .u8, .int .u8, .int .u8, .int .u8, .int .u8, .int .u8, .int .u8, .int .u8, .int .u8, .int .u8, .int .u8, .int .u8, .int .u8, .int .u8, .int .u8, .int .u8, .int .u8, .int .u8, .int .u8, .int .u8, .int .u8, .int .u8, .int .u8, .int .u8, .int .u8, .int .u8, .int .u8, .int .u8, .int .u8, .int .u8]⟩),
 (450, ⟨.fn, 1, 8, [.fn]⟩),
 (451, ⟨.st [(0, 17), (1, 17), (2, 17), (3, 9)], 4, 40, [.ptr, .ptr, .ptr, .str]⟩),
 (452, ⟨.st [(0, 17), (1, 17), (2, 17), (3, 9)], 4, 40, [.ptr, .ptr, .ptr, .str]⟩),
 (453, ⟨.arr 0 16, 0, 0, []⟩),
 (454, ⟨.st [(0, 453)], 0, 0, []⟩),
 (455, ⟨.st [(0, 453)], 0, 0, []⟩),
 (456, ⟨.int .u8, 1, 1, [.int .u8]⟩),
 (457, ⟨.int .u8, 1, 1, [.int .u8]⟩),
 (458, ⟨.fn, 1, 8, [.fn]⟩),
 (459, ⟨.ptr 5, 1, 8, [.ptr]⟩),
 (460, ⟨.int .i32, 1, 4, [.int .i32]⟩),
 (461, ⟨.int .i32, 1, 4, [.int .i32]⟩),
 (462, ⟨.st [(0, 12), (1, 12), (2, 398), (3, 456), (4, 5), (5, 5), (6, 457), (7, 458), (8, 459), (9, 460), (10, 461)], 11, 48, [.int .u64, .int .u64, .int .u32, .int .u8, .int .u8, .int .u8, .int .u8, .fn, .ptr, .int .i32, .int .i32]⟩),
 (463, ⟨.st [(0, 12), (1, 12), (2, 398), (3, 456), (4, 5), (5, 5), (6, 457), (7, 458), (8, 459), (9, 460), (10, 461)], 11, 48, [.int .u64, .int .u64, .int .u32, .int .u8, .int .u8, .int .u8, .int .u8, .fn, .ptr, .int .i32, .int .i32]⟩),
 (464, ⟨.fn, 1, 8, [.fn]⟩),
 (467, ⟨.fn, 1, 8, [.fn]⟩),
 (468, ⟨.fn, 1, 8, [.fn]⟩),
 (469, ⟨.fn, 1, 8, [.fn]⟩),
 (470, ⟨.fn, 1, 8, [.fn]⟩),
 (471, ⟨.fn, 1, 8, [.fn]⟩),
 (472, ⟨.fn, 1, 8, [.fn]⟩),
 (473, ⟨.fn, 1, 8, [.fn]⟩)]
theorem tab_ok : (tab.all fun x => x.2.chk Tryz.prog x.1) = true := by kernel_rfl
def tt : TOk Tryz.prog := ⟨tab, tab_ok⟩
theorem mixed : Tryz.prog.follows .mixedOrders = true := by kernel_rfl
end Lf
end Go.Proofs.YtpaafpmofhajfaaGreatDoor

/- A part of the proof: texts joined. -/
import Derived.Test.YtclkpjefklahfaaDoorQ2f04c0c
/- Buffers: room appended, the beginning of one, from when on it stays; slice literals that are written as boxes; the walk's steps. -/
namespace Go.Proofs.YtclkpjefklahfaaDoor
open Go.RowKit Rg
namespace Lf
section
variable {P : Program} {o : Oper} {env : Env}
/-- append of so many noughts onto what a buffer has. -/
theorem run_appZ {T Tx E ty n c k : Nat} {kd kx : IntKind} {ei : TI} (hu : P.underlying T = some (.slice E)) (hx : P.underlying Tx = some (.int kx)) (hE : TIok P E ei) (hp : 0 < ei.size) {a : Option Nat} {xs : List Value} {w : World} (hown : w.oRow 0 E ei.size (.slice (a.map fun b => ⟨b, 0, none⟩) n c) n xs) (hk : 0 < k) (hmax : n + k ≤ 140737488355328) (hb : (n + k) * ei.bytes ≤ 140737488355328) :
    ∃ v' w' news, (Builtin.append_ #[T, Tx] ty #[.slice (a.map fun b => ⟨b, 0, none⟩) n c, .int kd (k : Int)]).run P w = .ok v' w' ∧ w'.oRow 0 E ei.size v' (n + k) (xs ++ news) ∧ w.grownBy w' (Value.ownBlock (.slice (a.map fun b => ⟨b, 0, none⟩) n c)) ∧ AppR w w' a n c v' k ∧
      (∀ (j : Nat) x, news[j]? = some x → ∃ zz, ei.zero[j % ei.size]? = some zz ∧ zz.is x = true) ∧ (∀ u ∈ news, u.oneCell' = true) := by
  obtain ⟨i, hi, hsz, hby, z, hz, hzl, hzs, hzz, _⟩ := hE.info
  rw [← hsz] at hown hzs hp ⊢
  rw [← hby] at hb
  have h63 : n + k ≤ maxLen := by simp only [maxLen]; omega
  have hw : IntKind.i64.wrap (k : Int) = (k : Int) := wrap_i64 (by omega)
  have h2 : k * i.bytes ≤ (n + k) * i.bytes := Nat.mul_le_mul_right _ (by omega)
  have h4 : ¬ (281474976710656 < (k : Int) * (i.bytes : Int)) := by
    have : (k : Int) * (i.bytes : Int) = ((k * i.bytes : Nat) : Int) := by rw [Int.natCast_mul]
    rw [this]; omega
  have h5 : ¬ ((k : Int) < 0) := by omega
  have hks : ¬ (k * i.size = 0) := by have := Nat.mul_pos hk hp; omega
  have hks2 : ¬ (k = 0 ∨ i.size = 0) := by omega
  let news : List Value := (Builtin.zeroCells z.cells k).toList
  have hnl : news.length = k * i.size := by simp [news, size_zeroCells, hzs]
  have hng : ∀ (j : Nat) x, news[j]? = some x → ∃ zz, ei.zero[j % i.size]? = some zz ∧ zz.is x = true := fun j x hj => by
    have hjl := (List.getElem?_eq_some_iff.1 hj).1
    have hm : j % i.size < i.size := Nat.mod_lt _ hp
    have hzj : ei.zero[j % i.size]? = some (ei.zero[j % i.size]'(by rw [hzl, hzs]; exact hm)) := List.getElem?_eq_getElem _
    obtain ⟨y, hy, his⟩ := hzz _ _ hzj
    refine ⟨_, hzj, ?_⟩
    have : x = y := by
      simp only [news, Builtin.zeroCells, Array.toList_map, Array.toList_range, List.getElem?_map, hzs] at hj
      rw [List.getElem?_range (by rw [← hnl]; exact hjl)] at hj
      simp only [Option.map_some, Option.some.injEq] at hj
      rw [← hj]
      have hys : z.cells[j % i.size]? = some y := by simpa using hy
      rw [getElem!_def, hys]
    rw [this]; exact his
  have hone : ∀ u ∈ news, u.oneCell' = true := fun u hu => by
    obtain ⟨j, hj⟩ := List.getElem?_of_mem hu
    obtain ⟨zz, _, his⟩ := hng j u hj
    exact (Z.rep (w := w) (g := ⟨fun _ _ => True, fun _ => none, fun _ => none⟩) his).oneCell (Z.one zz)
  have hlen : (xs ++ news).length = (n + k) * i.size := by rw [List.length_append, hown.1, hnl, Nat.add_mul]
  have grown : ∀ (old : Nat) (row : Option Nat), old < n + k → ∀ rest : Array Value, rest.size = (grownCap w (n + k) old E - (n + k)) * i.size →
      (w.drew.alloc (.cells ((xs ++ news).toArray ++ rest) E)).oRow 0 E i.size
        (.slice (some ⟨w.heap.size, 0, none⟩) (n + k) (grownCap w (n + k) old E)) (n + k) (xs ++ news) ∧
      w.grownBy (w.drew.alloc (.cells ((xs ++ news).toArray ++ rest) E)) row := by
    intro old row ho rest hrest
    have hge := grownCap_ge w (n + k) old E
    have hcm : grownCap w (n + k) old E ≤ maxLen := grownCap_le_maxLen w (n + k) old E h63
    refine ⟨⟨hlen, .inr ⟨w.heap.size, _, _, _, rfl, Nat.zero_le _, heap_alloc_new w.drew _, hge, hcm, ?_, ?_, .inl rfl⟩⟩, ⟨rfl, rfl, rfl, by simp, fun q hq _ => heap_alloc_old w.drew _ hq⟩⟩
    · simp only [Array.size_append, List.size_toArray, hrest, hlen, ← Nat.add_mul]
      congr 1
      omega
    · simp only [Array.toList_append]
      rw [← hlen]
      exact List.take_left
  have hnew : ∀ (rest : Array Value), ∀ q, q < w.heap.size → (w.drew.alloc (.cells ((xs ++ news).toArray ++ rest) E)).heap[q]? = w.heap[q]? := fun rest q hq => heap_alloc_old w.drew _ hq
  have growr : ∀ (base : Option Addr) (sCap : Nat), sCap < n + k → (Builtin.firstCells i.size n (.slice base n sCap)).run P w.drew = .ok xs.toArray w.drew →
      (Builtin.append_ #[T, Tx] ty #[.slice base n sCap, .int kd (k : Int)]).run P w = .ok (.slice (some ⟨w.heap.size, 0, none⟩) (n + k) (grownCap w (n + k) sCap E)) (w.drew.alloc (.cells ((xs ++ news).toArray ++ Builtin.zeroCells z.cells (grownCap w (n + k) sCap E - (n + k))) E)) := by
    intro base sCap hlt hfc
    have hroom : ¬ (n + k ≤ sCap) := by omega
    have hfit := growslice_fits (old := sCap) (need := n + k) hlt hb
    have h63' : ¬ (9223372036854775807 < (n : Int) + (k : Int)) := by omega
    have h48' : ¬ (281474976710656 < Builtin.nextslicecap (n + k) sCap * i.bytes) := by omega
    simp [Builtin.append_, run_underlying hu, run_underlying hx, sizeOf, typeInfo, zeroValue, hi, hz, asInt, asIntOf, hw, h4, h5, hks2, hroom, h63', h48', Question.forced, hfc, newRow, grownCap]
    rw [if_neg hks]
    congr 2
    congr 1
    apply Array.ext'
    simp [news, List.append_assoc]
  rcases hown.2 with ⟨hv, hn0⟩ | ⟨g, cap, cur, fz, hv, hbg, hg, hnc, hcm, hcs, htake, hfz⟩
  · subst hn0
    have ha : a = none := by cases a with | none => rfl | some b => simp at hv
    subst ha
    have hc0 : c = 0 := by simpa using hv
    subst hc0
    have hx0 : xs = [] := List.eq_nil_of_length_eq_zero (by simpa using hown.1)
    have hr := growr none 0 (by omega) (by subst hx0; simp [Builtin.firstCells])
    obtain ⟨g1, g2⟩ := grown 0 (Value.ownBlock (.slice none 0 0)) (by omega) (Builtin.zeroCells z.cells (grownCap w (0 + k) 0 E - (0 + k))) (by simp [size_zeroCells, hzs])
    exact ⟨_, _, news, hr, g1, g2, .inr ⟨hk, _, rfl, by simp, hnew _⟩, hng, hone⟩
  · have ha : a = some g ∧ cap = c := by
      cases a with
      | none => simp at hv
      | some b => simp at hv; exact ⟨by rw [hv.1], hv.2.symm⟩
    obtain ⟨rfl, rfl⟩ := ha
    rcases Nat.lt_or_ge cap (n + k) with hroom | hroom
    · have hr := growr (some ⟨g, 0, none⟩) cap hroom (run_firstCells_some w.drew i.size n ⟨g, 0, none⟩ n cap xs hown.1 (fun j u hj => by simpa using oRow_cells hown (g := g) rfl j u hj))
      obtain ⟨g1, g2⟩ := grown cap (Value.ownBlock (.slice (some ⟨g, 0, none⟩) n cap)) hroom (Builtin.zeroCells z.cells (grownCap w (n + k) cap E - (n + k))) (by simp [size_zeroCells, hzs])
      exact ⟨_, _, news, hr, g1, g2, .inr ⟨by omega, _, rfl, by simp, hnew _⟩, hng, hone⟩
    · have hfit : n * i.size + news.length ≤ cur.size := by rw [hnl, hcs, ← Nat.add_mul]; exact Nat.mul_le_mul_right _ hroom
      have hcell : ∀ j, j < news.length → (w.cell? ⟨g, n * i.size + j, none⟩).isSome = true := fun j hj => by
        rw [cell_of_row w g _ cur E fz hg]
        simp; omega
      have hfro : ∀ j, j < news.length → w.frozen? ⟨g, n * i.size + j, none⟩ = false := fun j hj => frozen_oRow hg hfz (by omega)
      have hw' : w.setCells g (n * i.size) news = w.setRow g (cur.toList.take (n * i.size) ++ news ++ cur.toList.drop (n * i.size + news.length)).toArray := by
        have r1 := Lf.run_storeCells_free (P := P) g (n * i.size) E fz news 0 cur w hg hfz (by simpa using hfit) hone
        have r2 := run_storeCells_cells (P := P) g (n * i.size) news 0 w (fun j hj => by simpa using hcell j hj) (fun j hj => by simpa using hfro j hj) hone
        rw [r1] at r2
        simp only [Nat.add_zero] at r2
        exact ((Result.ok.inj r2).2).symm
      have hst := run_storeCells_cells (P := P) g (n * i.size) news 0 w (fun j hj => by simpa using hcell j hj) (fun j hj => by simpa using hfro j hj) hone
      simp only [Nat.add_zero] at hst
      have hr : (Builtin.append_ #[T, Tx] ty #[.slice (some ⟨g, 0, none⟩) n cap, .int kd (k : Int)]).run P w = .ok (.slice (some ⟨g, 0, none⟩) (n + k) cap) (w.setCells g (n * i.size) news) := by
        simp [Builtin.append_, run_underlying hu, run_underlying hx, sizeOf, typeInfo, zeroValue, hi, hz, asInt, asIntOf, hw, h4, h5, hks2, hroom, Addr.add_lit]
        rw [if_neg hks, show (Builtin.zeroCells z.cells k).toList = news from rfl, hst]
        rfl
      rw [hw'] at hr
      refine ⟨_, _, news, hr, ⟨hlen, .inr ⟨g, cap, _, _, rfl, hbg, setRow_heap w g cur _ E _ hg, hroom, hcm, ?_, ?_, hfz.imp id fun h => ?_⟩⟩, ⟨rfl, rfl, rfl, by simp, fun q _ hq => setRow_other w g q _ (fun e => hq (by simp [Value.ownBlock, e]))⟩, .inl rfl, hng, hone⟩
      · simp only [List.size_toArray, List.length_append, List.length_take, List.length_drop, Array.length_toList]
        omega
      · rw [htake, ← hlen]
        exact List.take_left
      · simp only [List.size_toArray, List.length_append, List.length_take, List.length_drop, Array.length_toList]
        omega
theorem flat_rep {zv : V} {sz k j : Nat} {u : V} (hz : zv.cells.length = sz) (hp : 0 < sz) (h : ((List.replicate k zv).flatMap V.cells)[j]? = some u) : zv.cells[j % sz]? = some u := by
  obtain ⟨e, he, hu⟩ := flat_split hp (fun e he => by rw [List.eq_of_mem_replicate he]; exact hz) h
  rw [List.eq_of_mem_replicate (List.mem_of_getElem? he)] at hu
  exact hu
theorem Does.appMakeW {T Tx E i n k sz gen : Nat} {kd kx : IntKind} {x y : Operand} {z : Int} {es : List V} {zv : V} (X : TOk P) {ti xi ei : TI} (ho : o.op = .call { callee := .builtin .append, args := #[x, y], argTypes := #[T, Tx] }) (hx : evo env x = some (.w i gen sz 0 n)) (hy : evo env y = some (.k (.int kd z))) (hz : z = ((k : Nat) : Int)) (hT : aget X.tab T = some ti) (hd : ti.d = .sl E) (hX : aget X.tab Tx = some xi) (hdx : xi.d = .int kx) (hE : aget X.tab E = some ei) (hsz : ei.size = sz)
    (hn : es.length = n) (hk : 0 < k) (hmax : n + k ≤ 140737488355328) (hb : (n + k) * ei.bytes ≤ 140737488355328) (hzv : zv.cells = ei.zero.map Z.v) : Does P o env (.w i (gen + 1) sz 0 (n + k)) [(i, some (.w E sz gen es), some (.w E sz (gen + 1) (es ++ List.replicate k zv)))] := by
  subst hz; subst hsz; subst hn
  refine ⟨fun F g a w mem h1 h2 h3 h4 _ K Q hK => ?_⟩
  have hi := h4 _ _ _ mem_one
  have hrx := h1 x (by simp [ho, Op.operands, Call.operands]) _ hx
  have hry := rep_k (h1 y (by simp [ho, Op.operands, Call.operands]) _ hy)
  obtain ⟨ao, c, ad, e1, hB, hxx, e3, e4⟩ := rep_w h2 hi hrx
  have had := e4 (.inr rfl)
  simp only [Nat.zero_mul] at had
  subst had
  rw [Nat.sub_zero] at hxx
  obtain ⟨xs, hown, hrep⟩ := hB.own
  obtain ⟨v', w', news, hrun, hown', hg, hv, hnz, hone⟩ := run_appZ (P := P) (ty := o.type) (kd := kd) ((X.get hT).sl hd) ((X.get hX).int hdx) (X.get hE) hB.pos hown hk hmax hb
  obtain ⟨_, _, _, _, z0, _, hzl, hzs, _⟩ := (X.get hE).info
  have hzc : zv.cells.length = ei.size := by rw [hzv, List.length_map, hzl, hzs]
  have hcl : ∀ e ∈ es ++ List.replicate k zv, e.cells.length = ei.size ∧ ∀ u ∈ e.cells, u.one = true := fun e he => by
    rcases List.mem_append.1 he with he | he
    · exact hB.cells e he
    · rw [List.eq_of_mem_replicate he]
      refine ⟨hzc, fun u hu => ?_⟩
      rw [hzv] at hu
      obtain ⟨zz, _, rfl⟩ := List.mem_map.1 hu
      exact Z.one zz
  have hfl := flat_len fun e he => (hB.cells e he).1
  obtain ⟨g', a', c', rfl, k1, k2, k3, k4⟩ := h2.growW h3 (n := es.length) (m := k) (es' := es ++ List.replicate k zv) (xs := xs) (news := news) hi e1 (by simp) hcl hown' hg (fun g' he j u x hj hx' => by
    rw [List.flatMap_append] at hj
    rcases Nat.lt_or_ge j xs.length with hlt | hge
    · rw [List.getElem?_append_left (by rw [hfl, ← hown.1]; exact hlt)] at hj
      rw [List.getElem?_append_left hlt] at hx'
      exact (hrep j u x hj hx').mono he.bare
    · rw [List.getElem?_append_right (by rw [hfl, ← hown.1]; exact hge), hfl, ← hown.1] at hj
      rw [List.getElem?_append_right hge] at hx'
      obtain ⟨zz, hz1, hz2⟩ := hnz _ _ hx'
      have hu := flat_rep hzc hB.pos hj
      rw [hzv, List.getElem?_map, hz1] at hu
      cases hu
      exact Z.rep hz2) hv
  unfold Oper.wp
  have hrun' : (execOp a.eval o).run P w = .ok (.value (.slice (Option.map (fun b => ⟨b, 0, none⟩) a') (es.length + k) c')) w' := by
    simp [execOp, ho, resolve, invoke, builtin, hxx, hry, hrun]
  rw [hrun']
  refine hK _ g' w' k2 k3 k4 (.w ⟨a', gen + 1, c', k1, Nat.le_refl _, fun _ => ⟨?_, by omega, fun _ => by simp⟩⟩)
  obtain ⟨a2, c2, q1, q2⟩ := k3.buf (i := i) (aget_self _ _ _)
  rw [k1] at q1; cases q1
  have := (buf_le q2).1
  simp at this; omega
/-! ### From nil on; from when on it stays -/
section
variable {F : Fr0} {N : Nat} {Q : LQ} {mem : Mem}
theorem LC.nilbuf {c : Code} {cs : List V} (i j r E sz : Nat) (hi : aget mem i = some (.b cs)) (hj : cs[j]? = some .nil) (hr : aget mem r = none) (hne : r ≠ i) (hp : Nat.blt 0 sz = true) (h : LC P F N c Q env ((i, .b (cs.set j (.w r 0 sz 0 0))) :: (r, .w E sz 0 []) :: mem)) : LC P F N c Q env mem := ⟨fun g a w hrel => by
  have hown0 : w.oRow 0 E sz (.slice (Option.map (fun b => (⟨b, 0, none⟩ : Addr)) none) 0 0) 0 [] := oRow_nil w 0 E sz
  have hgi : (g.addRow r (none, 0, 0)).rw r = some (none, 0, 0) := by simp [Gh.addRow]
  obtain ⟨he, h2, h3⟩ := hrel.mem.nilRow hrel.kept (m := .w E sz 0 []) hr (.w hgi ⟨Nat.le_of_ble_eq_true hp, by simp, ⟨_, hown0, by simp⟩, fun _ h => by cases h⟩) fun b o ⟨l, c, hp⟩ => by rw [hgi] at hp; cases hp
  have hi2 : aget ((r, M.w E sz 0 []) :: mem) i = some (.b cs) := by rw [aget_ne hne]; exact hi
  obtain ⟨b, off, hb, hlt, hB⟩ := h2.box hi2
  have hjl := (List.getElem?_eq_some_iff.1 hj).1
  have hob : ObjAt (g.addRow r (none, 0, 0)) w i (.b (cs.set j (.w r 0 sz 0 0))) := .b hb hlt ⟨fun u hu => by
    rcases List.mem_or_eq_of_mem_set hu with hu | rfl
    · exact hB.one u hu
    · rfl, fun k u hk => by
    rw [List.getElem?_set] at hk
    by_cases e : j = k
    · subst e
      rw [if_pos rfl, if_pos hjl] at hk
      cases hk
      obtain ⟨a1, a2, x, a3, a4⟩ := hB.at_ j .nil hj
      cases a4
      exact ⟨a1, a2, _, a3, .w ⟨none, 0, 0, hgi, Nat.le_refl _, fun _ => ⟨Nat.le_refl _, rfl, fun _ => rfl⟩⟩⟩
    · rw [if_neg e] at hk
      exact hB.at_ k u hk⟩
  obtain ⟨k1, k2⟩ := h2.step h3 (i := i) (Ev.refl _ w) rfl rfl rfl (fun _ _ _ _ => ⟨rfl, rfl, fun hs => hs⟩) (fun _ _ _ => rfl) (fun _ _ => rfl) (fun _ _ => rfl) hob (fun b' o hp' => .inl ⟨_, hi2, by
    obtain ⟨off', q1, q2, q3⟩ := hp'
    exact ⟨off', q1, q2, by simpa using q3⟩⟩) h2.fut
  exact h.go _ a w ⟨fun t' v hv => by obtain ⟨x, h1, h4⟩ := hrel.env t' v hv; exact ⟨x, h1, h4.mono he⟩, k1, k2, hrel.defers, hrel.size, hrel.big⟩⟩
/-- A buffer that stays from now on. -/
theorem RelM.frzW {g : Gh} {w : World} (h2 : RelM F g mem w) (h3 : Kept F g w) {r E sz gen : Nat} {es : List V} (hr : aget mem r = some (.w E sz gen es)) :
    ∃ g', Ev g w g' w ∧ RelM F g' ((r, .x) :: mem) w ∧ Kept F g' w ∧ ∀ off n x, off + n ≤ es.length → Rep w g (.w r gen sz off n) x → Rep w g' (.s none ((es.drop off).take n)) x := by
  obtain ⟨a, c, hrw, hB⟩ := h2.buf hr
  cases a with
  | none =>
    obtain ⟨h0, hc0⟩ := buf_none hB
    subst h0; subst hc0
    obtain ⟨k1, k2⟩ := h2.step h3 (i := r) (m' := .x) (Ev.refl g w) rfl rfl rfl (fun _ _ _ _ => ⟨rfl, rfl, fun h => h⟩) (fun _ _ _ => rfl) (fun _ _ => rfl) (fun _ _ => rfl) .x (fun _ _ hp => hp.elim) h2.fut
    refine ⟨g, Ev.refl g w, k1, k2, fun off n x hn hx => ?_⟩
    simp at hn
    obtain ⟨rfl, rfl⟩ := hn
    obtain ⟨a', c', ad, e1, _, rfl, _, e4⟩ := rep_w h2 hr hx
    rw [hrw] at e1; cases e1
    have := e4 (.inr rfl)
    subst this
    exact .s0 fun _ h => by cases h
  | some b =>
    obtain ⟨hev, k1, k2⟩ := h2.frz h3 (i := r) (b := b) (off := 0) (n := es.length * sz) hr fun o _ _ => ⟨_, _, hrw⟩
    refine ⟨_, hev, k1, k2, fun off n x hn hx => ?_⟩
    obtain ⟨a', c', ad, e1, _, rfl, e3, e4⟩ := rep_w h2 hr hx
    rw [hrw] at e1; cases e1
    obtain ⟨xs, hown, hrep⟩ := hB.own
    have hes : ∀ e ∈ es, e.cells.length = sz := fun e he => (hB.cells e he).1
    have hcm := buf_le hB
    have hlen : ((es.drop off).take n).length = n := by simp; omega
    rcases Nat.lt_or_ge off c with hoc | hoc
    · have had := e4 (.inl hoc)
      subst had
      have hin : ∀ (j : Nat) u, (((es.drop off).take n).flatMap V.cells)[j]? = some u → (es.flatMap V.cells)[off * sz + j]? = some u := fun j u hj => by
        refine flat_cut off (off + n) hes ?_
        rw [Nat.add_sub_cancel_left]; exact hj
      simp only [Option.map_some]
      generalize hq : (es.drop off).take n = es' at *
      subst hlen
      refine .s (size := sz) (fun j => xs.getD (off * sz + j) undef) (by omega) (by omega) hB.pos (fun e he => hB.cells e (List.mem_of_mem_drop (List.mem_of_mem_take (hq ▸ he)))) (fun j u hj => ?_) (fun j u hj => ?_) fun _ h => by cases h
      · have hjc := hin j u hj
        have hjl := (List.getElem?_eq_some_iff.1 hjc).1
        rw [flat_len hes] at hjl
        have hjl2 : off * sz + j < xs.length := by rw [hown.1]; exact hjl
        refine ⟨hB.lt rfl, .inr ⟨rfl, Nat.zero_le _, by omega⟩, ?_⟩
        rw [own_cell hown hjl2, List.getD_eq_getElem?_getD, List.getElem?_eq_getElem hjl2]
        rfl
      · have hjc := hin j u hj
        have hjl := (List.getElem?_eq_some_iff.1 hjc).1
        rw [flat_len hes] at hjl
        have hjl2 : off * sz + j < xs.length := by rw [hown.1]; exact hjl
        rw [List.getD_eq_getElem?_getD, List.getElem?_eq_getElem hjl2]
        exact (hrep _ u _ hjc (List.getElem?_eq_getElem hjl2)).mono hev.bare
    · have hn0 : n = 0 := by omega
      subst hn0
      have hco : c - off = 0 := by omega
      rw [List.take_zero, hco]
      cases ad with
      | none => exact .s0 fun _ h => by cases h
      | some q => exact .se q fun _ h => by cases h
theorem LC.frzbuf {c : Code} {cs es es' : List V} {gen off n E sz : Nat} (i j r : Nat) (hi : aget mem i = some (.b cs)) (hj : cs[j]? = some (.w r gen sz off n)) (hr : aget mem r = some (.w E sz gen es)) (hne : r ≠ i) (hn : off + n ≤ es.length) (he : (es.drop off).take n = es') (h : LC P F N c Q env ((i, .b (cs.set j (.s none es'))) :: (r, .x) :: mem)) : LC P F N c Q env mem := ⟨fun g a w hrel => by
  subst he
  obtain ⟨g', hev, h2, h3, hrp⟩ := hrel.mem.frzW hrel.kept hr
  have hi2 : aget ((r, M.x) :: mem) i = some (.b cs) := by rw [aget_ne hne]; exact hi
  obtain ⟨b0, off0, hb0, _, hB0⟩ := hrel.mem.box hi
  obtain ⟨b, bo, hb, hlt, hB⟩ := h2.box hi2
  have hb1 := hev.bx _ _ hb0
  rw [hb] at hb1; cases hb1
  have hjl := (List.getElem?_eq_some_iff.1 hj).1
  have hob : ObjAt g' w i (.b (cs.set j (.s none ((es.drop off).take n)))) := .b hb hlt ⟨fun u hu => by
    rcases List.mem_or_eq_of_mem_set hu with hu | rfl
    · exact hB.one u hu
    · rfl, fun k u hk => by
    rw [List.getElem?_set] at hk
    by_cases e : j = k
    · subst e
      rw [if_pos rfl, if_pos hjl] at hk
      cases hk
      obtain ⟨a1, a2, x, a3, _⟩ := hB.at_ j _ hj
      obtain ⟨_, _, x', b3, b4⟩ := hB0.at_ j _ hj
      rw [a3] at b3; cases b3
      exact ⟨a1, a2, _, a3, hrp off n x hn b4⟩
    · rw [if_neg e] at hk
      exact hB.at_ k u hk⟩
  obtain ⟨k1, k2⟩ := h2.step h3 (i := i) (Ev.refl _ w) rfl rfl rfl (fun _ _ _ _ => ⟨rfl, rfl, fun hs => hs⟩) (fun _ _ _ => rfl) (fun _ _ => rfl) (fun _ _ => rfl) hob (fun b' o hp' => .inl ⟨_, hi2, by
    obtain ⟨off', q1, q2, q3⟩ := hp'
    exact ⟨off', q1, q2, by simpa using q3⟩⟩) h2.fut
  exact h.go _ a w ⟨fun t' v hv => by obtain ⟨x, h1, h4⟩ := hrel.env t' v hv; exact ⟨x, h1, h4.mono hev⟩, k1, k2, hrel.defers, hrel.size, hrel.big⟩⟩
/-- The same for a slot. -/
theorem LC.frztmp {c : Code} {es es' : List V} {gen off n E sz : Nat} (t r : Nat) (ht : aget env t = some (.w r gen sz off n)) (hr : aget mem r = some (.w E sz gen es)) (hn : off + n ≤ es.length) (he : (es.drop off).take n = es') (h : LC P F N c Q ((t, .s none es') :: env) ((r, .x) :: mem)) : LC P F N c Q env mem := ⟨fun g a w hrel => by
  subst he
  obtain ⟨g', hev, h2, h3, hrp⟩ := hrel.mem.frzW hrel.kept hr
  refine h.go _ a w ⟨fun t' v hv => ?_, h2, h3, hrel.defers, hrel.size, hrel.big⟩
  rw [aget_cons] at hv
  split at hv
  · rename_i e; subst e; cases hv
    obtain ⟨x, h1, h4⟩ := hrel.env _ _ ht
    exact ⟨x, h1, hrp off n x hn h4⟩
  · obtain ⟨x, h1, h4⟩ := hrel.env t' v hv; exact ⟨x, h1, h4.mono hev⟩⟩
end
/-! ### Slice literals that are written: boxes -/
/-- The slice literal of slot d is written later: it is a box. -/
structure BoxLit (d : Nat) : Prop where
  t : True
theorem Does.buildSliceB {T E i len : Nat} {ps : List (Nat × Operand)} {vs : List (Nat × V)} {es cs : List V} (X : TOk P) {ti ei : TI} (ho : o.op = .buildSlice T len ps.toArray) (_hb : BoxLit i) (hT : aget X.tab T = some ti) (hd : ti.d = .sl E) (hE : aget X.tab E = some ei) (hpos : Nat.blt 0 ei.size = true) (hv : evp env ps = some vs) (hde : dense 0 vs = some es)
    (hlen : Nat.beq es.length len = true) (h0 : Nat.blt 0 len = true) (hsm : Nat.ble (len * ei.size) 16777216 = true) (hs : ∀ e ∈ es, e.cells.length = ei.size) (ho1 : (es.all V.ok) = true) (hcs : es.flatMap V.cells = cs) : Does P o env (.sb i 0 len len) [(i, none, some (.b cs))] := by
  subst hcs
  refine ⟨fun F g a w mem h1 h2 h3 h4 _ K Q hK => ?_⟩
  obtain rfl := (Nat.eq_of_beq_eq_true hlen).symm
  have h0 : 0 < es.length := Nat.le_of_ble_eq_true h0
  have hp := evp_rep (w := w) (g := g) (a := a) hv (fun x hx u hu => h1 x (by simpa [ho, Op.operands] using hx) u hu)
  obtain ⟨d1, d2, d3, d4⟩ := dense_spec hp hde
  have hpos' : 0 < ei.size := Nat.le_of_ble_eq_true hpos
  have hsm' := Nat.le_of_ble_eq_true hsm
  obtain ⟨ie, hie, hse, _, z, hz, _, hzs, _⟩ := (X.get hE).info
  have hu := (X.get hT).sl hd
  have key : ∃ xs : Array Value, (execOp a.eval o).run P w = .ok (.value (.slice (some ⟨w.heap.size, 0, none⟩) es.length es.length)) (w.alloc (.cells xs E)) ∧ xs.size = es.length * ei.size ∧ (∀ e ∈ es, e.cells.length = ei.size ∧ ∀ u ∈ e.cells, u.one = true) ∧
      ∀ (j : Nat) u y, (es.flatMap V.cells)[j]? = some u → xs[j]? = some y → Rep w g.bare u y := by
    generalize hq : (ps.map fun (i, x) => (i, a.eval x)) = qs at hp d2 d3 d4
    have hone : ∀ (j : Nat) e, es[j]? = some e → ∀ u ∈ e.cells, u.one = true := fun j e hj => by
      have hjl := (List.getElem?_eq_some_iff.1 hj).1
      have hql : j < (qs.map (·.2)).length := by simp; omega
      exact (rep_cells (d4 j e _ hj (List.getElem?_eq_getElem hql)) (List.all_eq_true.1 ho1 e (List.mem_of_getElem? hj))).2.1
    have hone' : ∀ e ∈ es, e.cells.length = ei.size ∧ ∀ u ∈ e.cells, u.one = true := fun e he => by
      obtain ⟨j, hj⟩ := List.getElem?_of_mem he
      exact ⟨hs e he, hone j e hj⟩
    have hcz : ∀ v ∈ qs.map (·.2), v.cells.size = ei.size := fun v hv' => by
      obtain ⟨j, hj⟩ := List.getElem?_of_mem hv'
      have hjl := (List.getElem?_eq_some_iff.1 hj).1
      have hje : j < es.length := by simp at hjl; omega
      have hme := List.getElem_mem hje
      obtain ⟨c1, _, _⟩ := rep_cells (d4 j _ _ (List.getElem?_eq_getElem hje) hj) (List.all_eq_true.1 ho1 _ hme)
      rw [← c1, hs _ hme]
    obtain ⟨r, r1, r2, r3⟩ := Great.fill_dense hpos' (qs.map (·.2)) 0 ((Array.range (es.length * ei.size)).map (z.cells[· % z.cells.size]!)) hcz (by simp; rw [d2, ← d1]; exact Nat.le_refl _)
    rw [← d3] at r1
    refine ⟨r, ?_, by rw [r2]; simp, hone', fun j u y hj hy => ?_⟩
    · have hb := run_buildSlice (P := P) w T E es.length (ps.toArray.map fun (i, x) => (i, a.eval x)) r ie z hu hie hz (by rw [hse]; omega) (by rw [hse]; have := Nat.mul_pos h0 hpos'; omega) (by rw [hse, ops_parts, hq]; exact r1)
      simp only [execOp, ho, Sem.run_bind, hb]
      rfl
    · obtain ⟨e, he, hue⟩ := flat_split hpos' hs hj
      have hjl := (List.getElem?_eq_some_iff.1 hj).1
      rw [flat_len hs] at hjl
      rw [r3 j] at hy
      have hel := (List.getElem?_eq_some_iff.1 he).1
      have hql : j / ei.size < (qs.map (·.2)).length := by simp; omega
      rw [if_pos ⟨by omega, by simp; rw [d2, ← d1]; exact hjl⟩, Nat.sub_zero, List.getElem?_eq_getElem hql] at hy
      exact (rep_cells (d4 _ e _ he (List.getElem?_eq_getElem hql)) (List.all_eq_true.1 ho1 e (List.mem_of_getElem? he))).2.2 _ u y hue (by simpa using hy)
  obtain ⟨xs, hrun, hxs, hs', hrep⟩ := key
  obtain ⟨g', k1, k2, k3, k4⟩ := h2.newBox h3 (i := i) (T := E) (cs := es.flatMap V.cells) (h4 _ _ _ mem_one) (by rw [flat_len hs, hxs]) (fun u hu => by obtain ⟨e, he, hu⟩ := List.mem_flatMap.1 hu; exact (hs' e he).2 u hu) (fun j u x hj hx => (hrep j u x hj hx).of_bare)
  unfold Oper.wp
  rw [hrun]
  refine hK _ g' _ k2 k3 k4 ?_
  have := Rep.sb (w := w.alloc (.cells xs E)) (off := 0) (n := es.length) (cap := es.length) k1
  simpa using this
end
end Lf
end Go.Proofs.YtclkpjefklahfaaDoor

/- Structs of integers and of arrays of integers compared. -/
namespace Go.Proofs.YtclkpjefklahfaaDoor
open Go.RowKit Rg
namespace Lf
/-- Cells that are integers of these kinds. -/
inductive KindsOf : List V → List IntKind → Prop
  | nil : KindsOf [] []
  | cons {k : IntKind} {z : Int} {cs : List V} {ks : List IntKind} (h : KindsOf cs ks) : KindsOf (.k (.int k z) :: cs) (k :: ks)
theorem KindsOf.maps {α : Type} {f : α → V} {k : IntKind} {g : α → Int} (hf : ∀ a, f a = .k (.int k (g a))) {cs : List V} {ks : List IntKind} (h : KindsOf cs ks) : ∀ {l : List α} {n : Nat}, l.length = n → KindsOf (l.map f ++ cs) (List.replicate n k ++ ks)
  | [], _, hn => by subst hn; exact h
  | a :: l, _, hn => by
    subst hn
    rw [List.map_cons, List.length_cons, List.replicate_succ, List.cons_append, List.cons_append, hf]
    exact .cons (KindsOf.maps hf h rfl)
theorem KindsOf.map1 {α : Type} {f : α → V} {k : IntKind} {g : α → Int} (hf : ∀ a, f a = .k (.int k (g a))) {l : List α} {n : Nat} (hn : l.length = n) : KindsOf (l.map f) (List.replicate n k) := by
  have := KindsOf.maps hf .nil hn
  rwa [List.append_nil, List.append_nil] at this
theorem KindsOf.app {a b : List V} {ks ls : List IntKind} (h : KindsOf a ks) (k : KindsOf b ls) : KindsOf (a ++ b) (ks ++ ls) := by
  induction h with
  | nil => exact k
  | cons _ ih => exact .cons ih
theorem KindsOf.spec {cs : List V} {ks : List IntKind} (h : KindsOf cs ks) : cs.length = ks.length ∧ ∀ (j : Nat) k, ks[j]? = some k → ∃ z, cs[j]? = some (.k (.int k z)) := by
  induction h with
  | nil => exact ⟨rfl, fun j k h => by simp at h⟩
  | cons _ ih =>
    refine ⟨by simp [ih.1], fun j k hj => ?_⟩
    cases j with
    | zero => simp at hj; subst hj; exact ⟨_, rfl⟩
    | succ j => simp at hj; simpa using ih.2 j k hj
def tyK (tab : Tab) (t : Nat) : Option (List IntKind) :=
  match aget tab t with
  | some ti => match ti.d with
    | .int k => cond (Nat.beq ti.size 1) (some [k]) none
    | .arr n e => match aget tab e with
      | some ei => match ei.d with
        | .int k => cond (Nat.beq ei.size 1 && Nat.beq ti.size n) (some (List.replicate n k)) none
        | _ => none
      | none => none
    | _ => none
  | none => none
def fldK (tab : Tab) : Nat → List (Nat × Nat) → Option (List IntKind)
  | _, [] => some []
  | off, (o, t) :: r => match cond (Nat.beq o off) (tyK tab t) none with
    | some ks => match fldK tab (off + ks.length) r with
      | some ks' => some (ks ++ ks')
      | none => none
    | none => none
section
variable {P : Program}
theorem part_i {T : Nat} {ti : TI} (h : TIok P T ti) (hd : ti.d.agg = false) {xs : Array Value} {off : Nat} {v : Value} (hx : xs[off]? = some v) (w : World) : (part T xs off).run P w = .ok v w := by
  simp only [part, Sem.run_bind, h.run_agg, hd, Result.andThen_ok]
  simp [hx]
theorem part_a {T : Nat} {ti : TI} (h : TIok P T ti) (hd : ti.d.agg = true) {xs : Array Value} {off : Nat} (hle : off + ti.size ≤ xs.size) (w : World) : (part T xs off).run P w = .ok (.agg (xs.extract off (off + ti.size))) w := by
  simp only [part, Sem.run_bind, h.run_agg, hd, Result.andThen_ok]
  simp [h.run_size]
/-- One field's part. -/
theorem eqPart (X : TOk P) {t : Nat} {ks : List IntKind} (hk : tyK X.tab t = some ks) {xs ys : Array Value} {f g : Nat → Int} {off : Nat} (hx : ∀ (j : Nat) k, ks[j]? = some k → xs[off + j]? = some (.int k (f (off + j)))) (hy : ∀ (j : Nat) k, ks[j]? = some k → ys[off + j]? = some (.int k (g (off + j)))) (d : Nat) (w : World) :
    ∃ a b r, (part t xs off).run P w = .ok a w ∧ (part t ys off).run P w = .ok b w ∧ (Op.equalIn (d + 2) t a b).run P w = .ok r w ∧ (r = true ↔ ∀ j, j < ks.length → f (off + j) = g (off + j)) := by
  unfold tyK at hk
  cases ht : aget X.tab t with
  | none => simp [ht] at hk
  | some ti =>
    simp only [ht] at hk
    have hT := X.get ht
    cases hd : ti.d with
    | int k =>
      simp only [hd] at hk
      cases hb : Nat.beq ti.size 1 with
      | false => simp [hb] at hk
      | true =>
        simp only [hb, cond_true, Option.some.injEq] at hk
        subst hk
        have h1 := hx 0 k rfl
        have h2 := hy 0 k rfl
        have hag : ti.d.agg = false := by rw [hd]; rfl
        refine ⟨_, _, _, part_i hT hag h1 w, part_i hT hag h2 w, run_equalIn_int w (d + 1) t k k _ _ (hT.int hd), ?_⟩
        rw [beq_iff_eq]
        constructor
        · intro h j hj
          have : j = 0 := by simpa using hj
          subst this; exact h
        · intro h; exact h 0 (by simp)
    | arr n e =>
      simp only [hd] at hk
      cases he : aget X.tab e with
      | none => simp [he] at hk
      | some ei =>
        simp only [he] at hk
        cases hde : ei.d with
        | int k =>
          simp only [hde] at hk
          cases hb : (Nat.beq ei.size 1 && Nat.beq ti.size n) with
          | false => simp [hb] at hk
          | true =>
            simp only [hb, cond_true, Option.some.injEq] at hk
            subst hk
            simp only [Bool.and_eq_true] at hb
            have e1 := Nat.eq_of_beq_eq_true hb.1
            have e2 := Nat.eq_of_beq_eq_true hb.2
            have hE := X.get he
            have hag : ti.d.agg = true := by rw [hd]; rfl
            have hget : ∀ j, j < n → (List.replicate n k)[j]? = some k := fun j hj => by simp [hj]
            have hlx : off + ti.size ≤ xs.size ∧ off + ti.size ≤ ys.size ∨ n = 0 := by
              rcases Nat.eq_zero_or_pos n with h0 | h0
              · exact .inr h0
              · have q1 := (Array.getElem?_eq_some_iff.1 (hx (n - 1) k (hget _ (by omega)))).1
                have q2 := (Array.getElem?_eq_some_iff.1 (hy (n - 1) k (hget _ (by omega)))).1
                exact .inl ⟨by omega, by omega⟩
            have hsz : (P.info? e).map (·.size) = some 1 := by rw [hE.size, e1]
            have hxe : ∀ i, i < n → (xs.extract off (off + ti.size))[i]? = some (.int k (f (off + i))) := fun i hi => by
              rw [Array.getElem?_extract, if_pos (by rcases hlx with h | h <;> omega)]
              exact hx i k (hget i hi)
            have hye : ∀ i, i < n → (ys.extract off (off + ti.size))[i]? = some (.int k (g (off + i))) := fun i hi => by
              rw [Array.getElem?_extract, if_pos (by rcases hlx with h | h <;> omega)]
              exact hy i k (hget i hi)
            have pa : ∀ zs : Array Value, (part t zs off).run P w = .ok (.agg (zs.extract off (off + ti.size))) w := fun zs => by
              simp only [part, Sem.run_bind, hT.run_agg, hag, Result.andThen_ok]
              simp [hT.run_size]
            refine ⟨_, _, _, pa xs, pa ys, Eq'.run_equalIn (P := P) (t := t) (e := e) (n := n) (k := k) (d + 1) (fun a b w => run_equalIn_int w d e k k a b (hE.int hde)) (hT.arr hd) (hE.int hde) hsz hxe hye w, ?_⟩
            rw [List.all_eq_true]
            simp only [List.mem_range, beq_iff_eq, List.length_replicate]
        | _ => simp [hde] at hk
    | _ => simp [hd] at hk
theorem eqFlds (X : TOk P) {xs ys : Array Value} {f g : Nat → Int} (d : Nat) (w : World) : ∀ {fs : List Field} {off : Nat} {ks : List IntKind}, (∀ x ∈ fs, x.name ≠ "_") → fldK X.tab off (fs.map fun x => (x.offset, x.type)) = some ks →
    (∀ (j : Nat) k, ks[j]? = some k → xs[off + j]? = some (.int k (f (off + j)))) → (∀ (j : Nat) k, ks[j]? = some k → ys[off + j]? = some (.int k (g (off + j)))) →
    ∃ r, (Op.eqFields (d + 2) xs ys fs).run P w = .ok r w ∧ (r = true ↔ ∀ j, j < ks.length → f (off + j) = g (off + j))
  | [], off, ks, _, hk, _, _ => by simp [fldK] at hk; subst hk; exact ⟨true, rfl, by simp⟩
  | x :: fs, off, ks, hn, hk, hx, hy => by
    simp only [List.map_cons, fldK] at hk
    cases hb : Nat.beq x.offset off with
    | false => simp [hb] at hk
    | true =>
      have ho := Nat.eq_of_beq_eq_true hb
      rw [hb] at hk
      simp only [cond_true] at hk
      cases h1 : tyK X.tab x.type with
      | none => simp [h1] at hk
      | some k1 =>
        simp only [h1] at hk
        cases h2 : fldK X.tab (off + k1.length) (fs.map fun x => (x.offset, x.type)) with
        | none => simp [h2] at hk
        | some k2 =>
          simp only [h2, Option.some.injEq] at hk
          subst hk
          have g1 : ∀ (j : Nat) k, k1[j]? = some k → (k1 ++ k2)[j]? = some k := fun j k hj => by
            have := (List.getElem?_eq_some_iff.1 hj).1
            rw [List.getElem?_append_left this]; exact hj
          have g2 : ∀ (j : Nat) k, k2[j]? = some k → (k1 ++ k2)[k1.length + j]? = some k := fun j k hj => by
            rw [List.getElem?_append_right (by omega), Nat.add_sub_cancel_left]; exact hj
          obtain ⟨a, b, r, p1, p2, p3, p4⟩ := eqPart X h1 (off := off) (f := f) (g := g) (fun j k hj => hx j k (g1 j k hj)) (fun j k hj => hy j k (g1 j k hj)) d w
          obtain ⟨r2, q1, q2⟩ := eqFlds X (xs := xs) (ys := ys) (f := f) (g := g) d w (fs := fs) (off := off + k1.length) (fun y hy' => hn y (by simp [hy'])) h2 (fun j k hj => by rw [Nat.add_assoc]; exact hx _ k (g2 j k hj)) (fun j k hj => by rw [Nat.add_assoc]; exact hy _ k (g2 j k hj))
          have hne := hn x (by simp)
          rw [← ho] at p1 p2
          simp only [Op.eqFields, if_pos hne, Sem.run_bind, p1, p2, p3, Result.andThen_ok]
          cases r with
          | false =>
            refine ⟨false, rfl, ?_⟩
            simp only [Bool.false_eq_true, false_iff] at p4 ⊢
            intro h
            exact p4 fun j hj => h j (by simp; omega)
          | true =>
            have p5 := p4.1 rfl
            refine ⟨r2, ?_, q2.trans ⟨fun h j hj => ?_, fun h j hj => ?_⟩⟩
            · simpa using q1
            · rcases Nat.lt_or_ge j k1.length with hlt | hge
              · exact p5 j hlt
              · have := h (j - k1.length) (by simp at hj; omega)
                rwa [show off + k1.length + (j - k1.length) = off + j by omega] at this
            · have := h (k1.length + j) (by simp; omega)
              rwa [← Nat.add_assoc] at this
def intOf : V → Int
  | .k (.int _ z) => z
  | _ => 0
theorem kinds_vals {w : World} {g : Gh} {cs : List V} {ks : List IntKind} {x : Value} (h : KindsOf cs ks) (hr : Rep w g (.a cs) x) : ∃ xs : Array Value, x = .agg xs ∧ ∀ (j : Nat) k, ks[j]? = some k → xs[j]? = some (.int k (intOf (cs.getD j .nil))) := by
  obtain ⟨h1, h2⟩ := h.spec
  cases hr with
  | @a _ _ vs hl _ hc =>
    refine ⟨vs, rfl, fun j k hj => ?_⟩
    obtain ⟨z, hz⟩ := h2 j k hj
    have hjl := (List.getElem?_eq_some_iff.1 hz).1
    have hv : vs[j]? = some vs[j] := Array.getElem?_eq_getElem (by omega)
    have := rep_k (hc j _ _ hz hv)
    rw [hv, this, List.getD_eq_getElem?_getD, hz]
    rfl
theorem kinds_eq {cs ds : List V} {ks : List IntKind} (h : KindsOf cs ks) (k : KindsOf ds ks) : (∀ j, j < ks.length → intOf (cs.getD (0 + j) .nil) = intOf (ds.getD (0 + j) .nil)) ↔ cs = ds := by
  obtain ⟨h1, h2⟩ := h.spec
  obtain ⟨k1, k2⟩ := k.spec
  constructor
  · intro hh
    apply List.ext_getElem?
    intro j
    rcases Nat.lt_or_ge j ks.length with hj | hj
    · have hk := List.getElem?_eq_getElem hj
      obtain ⟨z, hz⟩ := h2 j _ hk
      obtain ⟨y, hy⟩ := k2 j _ hk
      have := hh j hj
      rw [Nat.zero_add, List.getD_eq_getElem?_getD, List.getD_eq_getElem?_getD, hz, hy] at this
      simp only [Option.getD_some, intOf] at this
      rw [hz, hy, this]
    · rw [List.getElem?_eq_none (by omega), List.getElem?_eq_none (by omega)]
  · rintro rfl j _; rfl
structure EqSt (P : Program) (T : Nat) : Prop where
  held : P.stoodInHeld T = false
  guard : P.eqGuardType P.depth T = false
  names : ((P.fieldsOf T).toList.all fun f => f.name != "_") = true
variable {o : Oper} {env : Env}
theorem run_eqSt (X : TOk P) {T : Nat} {ti : TI} {fs : List (Nat × Nat)} {ks : List IntKind} (hT : aget X.tab T = some ti) (hd : ti.d = .st fs) (hks : fldK X.tab 0 fs = some ks) (hq : EqSt P T) {cs ds : List V} (h1 : KindsOf cs ks) (h2 : KindsOf ds ks) {w : World} {g : Gh} {x y : Value} (hx : Rep w g (.a cs) x) (hy : Rep w g (.a ds) y) (a b : Operand) (ops : BinOp) :
    ∃ xs ys, x = .agg xs ∧ y = .agg ys ∧ (eqGuard ops T a b x y).run P w = .ok () w ∧ (Op.equalIn 10000 T x y).run P w = .ok (@decide (cs = ds) (Classical.propDecidable _)) w := by
  obtain ⟨xs, rfl, hxs⟩ := kinds_vals h1 hx
  obtain ⟨ys, rfl, hys⟩ := kinds_vals h2 hy
  obtain ⟨gs, hu, hg⟩ := (X.get hT).st hd
  have hf : P.fieldsOf T = gs := by unfold Program.fieldsOf; rw [hu]
  refine ⟨xs, ys, rfl, rfl, run_eqGuard_agg w ops T a b xs ys hq.guard, ?_⟩
  rw [run_equalIn_struct w 9999 T xs ys (by rw [hf]; exact hu) hq.held, hf]
  have hn : ∀ x ∈ gs.toList, x.name ≠ "_" := fun x hx => by
    have := hq.names
    rw [hf, List.all_eq_true] at this
    simpa using this x hx
  obtain ⟨r, e1, e2⟩ := eqFlds X (P := P) (xs := xs) (ys := ys) (f := fun j => intOf (cs.getD j .nil)) (g := fun j => intOf (ds.getD j .nil)) 9997 w (fs := gs.toList) (off := 0) (ks := ks) hn (by rw [hg]; exact hks) (fun j k hj => by rw [Nat.zero_add]; exact hxs j k hj) (fun j k hj => by rw [Nat.zero_add]; exact hys j k hj)
  rw [e1]
  congr 1
  rw [Bool.eq_iff_iff, e2, @decide_eq_true_iff _ (Classical.propDecidable _)]
  exact kinds_eq h1 h2
theorem Does.eqSt {T Y : Nat} {x y : Operand} {cs ds : List V} {fs : List (Nat × Nat)} {ks : List IntKind} (X : TOk P) {ti : TI} (ho : o.op = .binOp .eql T x y Y) (hx : evo env x = some (.a cs)) (hy : evo env y = some (.a ds)) (hT : aget X.tab T = some ti) (hd : ti.d = .st fs) (hks : fldK X.tab 0 fs = some ks) (hq : EqSt P T) (h1 : KindsOf cs ks) (h2 : KindsOf ds ks) {r : Bool} (hr' : @decide (cs = ds) (Classical.propDecidable _) = r) : Does P o env (.k (.bool r)) [] :=
  .pure fun F g a w mem hr _ => by
    subst hr'
    obtain ⟨xs, ys, e1, e2, e3, e4⟩ := run_eqSt X hT hd hks hq h1 h2 (hr x (by simp [ho, Op.operands]) _ hx) (hr y (by simp [ho, Op.operands]) _ hy) x y .eql
    rw [e1, e2] at e3 e4
    refine ⟨_, ?_, .k _⟩
    simp only [execOp, ho, e1, e2, Sem.run_bind, e3, Result.andThen_ok, run_eql_struct, e4]
    rfl
theorem Does.neSt {T Y : Nat} {x y : Operand} {cs ds : List V} {fs : List (Nat × Nat)} {ks : List IntKind} (X : TOk P) {ti : TI} (ho : o.op = .binOp .neq T x y Y) (hx : evo env x = some (.a cs)) (hy : evo env y = some (.a ds)) (hT : aget X.tab T = some ti) (hd : ti.d = .st fs) (hks : fldK X.tab 0 fs = some ks) (hq : EqSt P T) (h1 : KindsOf cs ks) (h2 : KindsOf ds ks) {r : Bool} (hr' : @decide (¬ cs = ds) (Classical.propDecidable _) = r) : Does P o env (.k (.bool r)) [] :=
  .pure fun F g a w mem hr _ => by
    subst hr'
    obtain ⟨xs, ys, e1, e2, e3, e4⟩ := run_eqSt X hT hd hks hq h1 h2 (hr x (by simp [ho, Op.operands]) _ hx) (hr y (by simp [ho, Op.operands]) _ hy) x y .neq
    rw [e1, e2] at e3 e4
    refine ⟨.bool (!(@decide (cs = ds) (Classical.propDecidable _))), ?_, ?_⟩
    · simp only [execOp, ho, e1, e2, Sem.run_bind, e3, Result.andThen_ok, run_neq_struct, e4]
      rfl
    · have : (!(@decide (cs = ds) (Classical.propDecidable _))) = @decide (¬ cs = ds) (Classical.propDecidable _) := by
        rw [Bool.eq_iff_iff]; simp
      rw [this]
      exact .k _
end
end Lf
end Go.Proofs.YtclkpjefklahfaaDoor

/- The walk's steps over buffers. -/
namespace Go.Proofs.YtclkpjefklahfaaDoor
open Go.RowKit Rg
namespace Lf
/-- Some of a list written over. -/
def put {α : Type} (l : List α) (off : Nat) (m : List α) : List α := l.take off ++ m ++ l.drop (off + m.length)
theorem put_len {α : Type} {l m : List α} {off : Nat} (h : off + m.length ≤ l.length) : (put l off m).length = l.length := by simp [put]; omega
theorem put_nil {α : Type} {l : List α} {off : Nat} : put l off [] = l := by simp [put]
theorem put_getD {α : Type} {l m : List α} {off j : Nat} (d : α) (h : off + m.length ≤ l.length) : (put l off m).getD j d = if off ≤ j ∧ j < off + m.length then m.getD (j - off) d else l.getD j d := by
  simp only [List.getD_eq_getElem?_getD, put, List.getElem?_append, List.length_append, List.length_take, List.getElem?_take, List.getElem?_drop]
  have e : min off l.length = off := by omega
  rw [e]
  by_cases h1 : j < off
  · rw [if_pos (by omega), if_pos h1, if_pos h1, if_neg (by omega)]
  · by_cases h2 : j < off + m.length
    · rw [if_pos h2, if_neg h1, if_pos (by omega)]
    · rw [if_neg h2, if_neg (by omega)]; congr 2; omega
theorem splice_put {α : Type} {l m : List α} {f : α → V} {off : Nat} : splice (l.map f) off (m.map f) = (put l off m).map f := by
  simp only [splice, put, List.map_append, List.map_take, List.map_drop, List.length_map]
theorem splice_lit {cs us cs' : List V} {o n : Nat} (hl : us.length = n) (he : cs.take o ++ (us ++ cs.drop (o + n)) = cs') : splice cs o us = cs' := by rw [← he, ← hl, splice, List.append_assoc]
theorem splice_nil {es : List V} {off : Nat} : splice es off [] = es := by simp [splice]
theorem set_map {α : Type} {l : List α} {f : α → V} {off : Nat} {x : α} : (l.map f).set off (f x) = (l.set off x).map f := by rw [List.map_set]
theorem cut_mapW {α : Type} {l : List α} {f : α → V} {off n : Nat} : ((l.map f).drop off).take n = ((l.drop off).take n).map f := by rw [List.map_take, List.map_drop]
theorem flat_map1 {α : Type} {f : α → V} (hf : ∀ a, (f a).cells = [f a]) {l : List α} : (l.map f).flatMap V.cells = l.map f := by
  induction l with
  | nil => rfl
  | cons a l ih => rw [List.map_cons, List.flatMap_cons, hf, ih]; rfl
theorem app_rep {α : Type} {l : List α} {f : α → V} {k : Nat} {x : α} : l.map f ++ List.replicate k (f x) = (l ++ List.replicate k x).map f := by rw [List.map_append, List.map_replicate]
section
variable {P : Program} {o : Oper} {env : Env}
theorem Does.cutWs {T E e l h i gen off n sz : Nat} {x : Operand} {lo hi : Option Operand} {es : List V} (X : TOk P) {ti ei : TI} (ho : o.op = .slice T x lo hi none) (hx : evo env x = some (.w i gen sz off n)) (hT : aget X.tab T = some ti) (hd : ti.d = .sl e) (hE : aget X.tab e = some ei) (hsz : ei.size = sz) (hlo : Bd env 0 lo l) (hhi : Bd env n hi h)
    (h1 : l ≤ h) (h2 : h ≤ n) : Does P o env (.w i gen sz (off + l) (h - l)) [(i, some (.w E sz gen es), none)] := by
  subst hsz; exact Does.cutW X ho hx hT hd hE hlo hhi h1 h2
theorem Does.cutWz {T E e l h i gen n sz : Nat} {x : Operand} {lo hi : Option Operand} {es : List V} (X : TOk P) {ti ei : TI} (ho : o.op = .slice T x lo hi none) (hx : evo env x = some (.w i gen sz 0 n)) (hT : aget X.tab T = some ti) (hd : ti.d = .sl e) (hE : aget X.tab e = some ei) (hsz : ei.size = sz) (hlo : Bd env 0 lo l) (hhi : Bd env n hi h)
    (h1 : l ≤ h) (h2 : h ≤ n) {m : Nat} (hm : h - l = m) : Does P o env (.w i gen sz l m) [(i, some (.w E sz gen es), none)] := by
  subst hm
  have := Does.cutWs (E := E) (es := es) X ho hx hT hd hE hsz hlo hhi h1 h2
  rwa [Nat.zero_add] at this
theorem Does.idxW1 {T E e k i gen off n sz : Nat} {x ix : Operand} {kd : IntKind} {z : Int} {es : List V} (X : TOk P) {ti ei : TI} (ho : o.op = .indexAddr T x ix) (hx : evo env x = some (.w i gen sz off n)) (hi : evo env ix = some (.k (.int kd z))) (hz : z = ((k : Nat) : Int)) (hT : aget X.tab T = some ti) (hd : ti.d = .sl e) (hE : aget X.tab e = some ei) (hsz : ei.size = sz) (hs1 : Nat.beq sz 1 = true) (hk : k < n) {q : Nat} (hq : off + k = q) :
    Does P o env (.pw i gen q) [(i, some (.w E sz gen es), none)] := by
  subst hsz; subst hq
  have := Does.idxW (E := E) (es := es) X ho hx hi hz hT hd hE hk
  have e1 := Nat.eq_of_beq_eq_true hs1
  rwa [show (off + k) * ei.size = off + k by rw [e1, Nat.mul_one]] at this
theorem Does.idxWm {T E e k i gen off n sz : Nat} {x ix : Operand} {kd : IntKind} {z : Int} {es : List V} (X : TOk P) {ti ei : TI} (ho : o.op = .indexAddr T x ix) (hx : evo env x = some (.w i gen sz off n)) (hi : evo env ix = some (.k (.int kd z))) (hz : z = ((k : Nat) : Int)) (hT : aget X.tab T = some ti) (hd : ti.d = .sl e) (hE : aget X.tab e = some ei) (hsz : ei.size = sz) (hk : k < n) {q : Nat} (hq : off + k = q) :
    Does P o env (.pw i gen (q * sz)) [(i, some (.w E sz gen es), none)] := by
  subst hsz; subst hq
  exact Does.idxW (E := E) (es := es) X ho hx hi hz hT hd hE hk
end
theorem cells_k {v : Value} : (V.k v).cells = [.k v] := rfl
theorem cells_a {cs : List V} : (V.a cs).cells = cs := rfl
theorem cells_uK {n : Nat} : (uK n).cells = [uK n] := rfl
theorem cells_bK {n : UInt8} : (bK n).cells = [bK n] := rfl
theorem cells_s {o : Option Nat} {es : List V} : (V.s o es).cells = [.s o es] := rfl
theorem cells_nil : V.nil.cells = [.nil] := rfl
/-- Two arrays in an array. -/
theorem vfill_two {z a b : List V} {k : Nat} (hz : z.length = k + k) (ha : a.length = k) (hb : b.length = k) : vfill (fun i => some (i * k, k)) z [(0, .a a), (1, .a b)] = some (a ++ b) := by
  have e1 : splice z 0 a = a ++ z.drop k := by simp [splice, ha]
  have e2 : splice (a ++ z.drop k) k b = a ++ b := by
    unfold splice
    rw [List.take_append, List.take_of_length_le (by omega), ha, Nat.sub_self, List.take_zero, List.append_nil, List.drop_of_length_le (by rw [List.length_append, List.length_drop]; omega), List.append_nil]
  simp only [vfill, V.ok, V.cells, ha, hb, Nat.zero_mul, Nat.one_mul, e1, e2, hz, Nat.beq_refl, List.length_append, List.length_drop, Nat.zero_add, Nat.add_sub_cancel]
  have h1 : Nat.ble k (k + k) = true := Nat.ble_eq_true_of_le (by omega)
  have h2 : Nat.ble (k + k) (k + k) = true := Nat.ble_eq_true_of_le (Nat.le_refl _)
  simp only [h1, h2, Bool.and_self, cond_true]
theorem bare_am2 {α : Type} {f : α → V} {l m : List α} (hf : ∀ a, (f a).bare = some (f a)) : (V.a (l.map f ++ m.map f)).bare = some (.a (l.map f ++ m.map f)) := by rw [← List.map_append]; exact bare_am hf
theorem dense4 {v v' u u' t t' s s' : V} (h : v.bare = some v') (k : u.bare = some u') (l : t.bare = some t') (m : s.bare = some s') : dense 0 [(0, v), (1, u), (2, t), (3, s)] = some [v', u', t', s'] := by simp [dense, h, k, l, m]
theorem flat_a1 {x : List V} : [V.a x].flatMap V.cells = x := by simp [V.cells]
theorem flat_a2 {x y : List V} : [V.a x, V.a y].flatMap V.cells = x ++ y := by simp [V.cells]
/-- A loop by a number and four states. -/
structure LNext5 {β γ δ ε : Type} (I : Nat → β → γ → δ → ε → Env) (J : Nat → β → γ → δ → ε → Mem) (ok : Nat → β → γ → δ → ε → Prop) (μ : Nat → Nat) (i : Nat) (env : Env) (mem : Mem) : Prop where
  ex : ∃ y b c d e, ok y b c d e ∧ μ y < μ i ∧ Sub env mem (I y b c d e) (J y b c d e)
theorem LNext5.go {β γ δ ε : Type} {I : Nat → β → γ → δ → ε → Env} {J : Nat → β → γ → δ → ε → Mem} {ok : Nat → β → γ → δ → ε → Prop} {μ : Nat → Nat} {i : Nat} {env : Env} {mem : Mem} {y : Nat} {b : β} {c : γ} {d : δ} {e : ε} (he : SubE env (I y b c d e)) (hm : SubM mem (J y b c d e)) (hk : (mem.all fun x => Nat.blt x.1 1000 || (aget (J y b c d e) x.1).isSome) = true)
    (hrE : refsE (J y b c d e) (I y b c d e) = true) (hrM : refsM (J y b c d e) (J y b c d e) = true) (hok : ok y b c d e) (hlt : μ y < μ i) : LNext5 I J ok μ i env mem := ⟨y, b, c, d, e, hok, hlt, he, hm, by rw [hk, hrE, hrM]; rfl⟩
theorem LC.loop5 {P : Program} {F : Fr0} {N : Nat} {Q : LQ} {env : Env} {mem : Mem} {β γ δ ε : Type} {k : Code} (I : Nat → β → γ → δ → ε → Env) (J : Nat → β → γ → δ → ε → Mem) (ok : Nat → β → γ → δ → ε → Prop) (μ : Nat → Nat) (i0 : Nat) (b0 : β) (c0 : γ) (d0 : δ) (e0 : ε) (h0 : ok i0 b0 c0 d0 e0) (he : SubE env (I i0 b0 c0 d0 e0)) (hm : SubM mem (J i0 b0 c0 d0 e0)) (hk : (mem.all fun x => Nat.blt x.1 1000 || (aget (J i0 b0 c0 d0 e0) x.1).isSome) = true)
    (hrE : refsE (J i0 b0 c0 d0 e0) (I i0 b0 c0 d0 e0) = true) (hrM : refsM (J i0 b0 c0 d0 e0) (J i0 b0 c0 d0 e0) = true)
    (round : ∀ i b c d e, ok i b c d e → LC P F N k (LThen (LNext5 I J ok μ i) Q) (I i b c d e) (J i b c d e)) : LC P F N (.loop k) Q env mem :=
  LC.loop (fun x : Nat × β × γ × δ × ε => I x.1 x.2.1 x.2.2.1 x.2.2.2.1 x.2.2.2.2) (fun x => J x.1 x.2.1 x.2.2.1 x.2.2.2.1 x.2.2.2.2) (fun x => ok x.1 x.2.1 x.2.2.1 x.2.2.2.1 x.2.2.2.2) (fun x => μ x.1) (i0, b0, c0, d0, e0) h0 ⟨he, hm, by rw [hk, hrE, hrM]; rfl⟩ fun x hx => (round x.1 x.2.1 x.2.2.1 x.2.2.2.1 x.2.2.2.2 hx).mono fun e env' mem' h => by
    cases e with
    | normal => obtain ⟨y, b, c, d, e, h1, h2, h3⟩ := h.ex; exact ⟨(y, b, c, d, e), h1, h2, h3⟩
    | _ => exact h
/-- A loop of at most n rounds is walked round by round. -/
structure RoundsOf (n : Nat) : Prop where
  t : True
theorem LC.roundsM {P : Program} {F : Fr0} {N : Nat} {Q : LQ} {c : Code} {env : Env} {mem : Mem} {n : Nat} (_ : RoundsOf n) (h : LRd P F N c Q n env mem) : LC P F N (.loop c) Q env mem := LC.rounds n h
theorem LRd.go {P : Program} {F : Fr0} {N : Nat} {Q : LQ} {c : Code} {env : Env} {mem : Mem} {n m : Nat} (hn : n = m + 1) (h : LC P F N c (LThen (LRd P F N c Q m) Q) env mem) : LRd P F N c Q n env mem := by subst hn; exact h
section
variable {P : Program} {o : Oper} {env : Env}
theorem Does.buildStN {T : Nat} {ps : List (Nat × Operand)} {fs pl : List (Nat × Nat)} {vs : List (Nat × V)} {cs cs' : List V} (X : TOk P) {ti : TI} (ho : o.op = .build T ps.toArray) (hT : aget X.tab T = some ti) (hd : ti.d = .st fs) (hpl : places X.tab fs = some pl) (hv : evp env ps = some vs) (hc : vfill (fun i => pl[i]?) (ti.zero.map Z.v) vs = some cs) (hn : cs = cs') : Does P o env (.a cs') [] := by
  subst hn; exact Does.buildSt X ho hT hd hpl hv hc
/-- A struct as it is built, nil slices taken for empty ones. -/
theorem Does.buildStC {T : Nat} {ps : List (Nat × Operand)} {fs pl : List (Nat × Nat)} {vs : List (Nat × V)} {cs cs' : List V} (X : TOk P) {ti : TI} (ho : o.op = .build T ps.toArray) (hT : aget X.tab T = some ti) (hd : ti.d = .st fs) (hpl : places X.tab fs = some pl) (hv : evp env ps = some vs) (hc : vfill (fun i => pl[i]?) (ti.zero.map Z.v) vs = some cs) (hn : V.cv.go (fun _ => false) true cs = cs') : Does P o env (.a cs') [] := by
  subst hn
  have h := Does.buildSt X ho hT hd hpl hv hc
  refine ⟨fun F g a w mem h1 h2 h3 h4 h5 K Q hK => h.ex F g a w mem h1 h2 h3 h4 h5 K Q fun x g' w' e1 e2 e3 e4 => hK x g' w' e1 e2 e3 e4.cv⟩
/-- copy into nil. -/
theorem Does.copyNS {T Tx E : Nat} {t : Option Nat} {x y : Operand} {ys : List V} (X : TOk P) {ti ei : TI} (ho : o.op = .call { callee := .builtin .copy, args := #[x, y], argTypes := #[T, Tx] }) (hx : evo env x = some .nil) (hy : evo env y = some (.s t ys)) (hT : aget X.tab T = some ti) (hd : ti.d = .sl E) (hE : aget X.tab E = some ei) : Does P o env (.k (.int .i64 ((0 : Nat) : Int))) [] :=
  .pure fun F g a w mem h1 _ => by
    have hrx := h1 x (by simp [ho, Op.operands, Call.operands]) _ hx
    have hry := h1 y (by simp [ho, Op.operands, Call.operands]) _ hy
    have hxx : a.eval x = .slice none 0 0 := by generalize a.eval x = v at hrx; cases hrx; rfl
    obtain ⟨ad, n, c, hyy⟩ : ∃ ad n c, a.eval y = .slice ad n c := by generalize a.eval y = v at hry; cases hry <;> exact ⟨_, _, _, rfl⟩
    have hfc : (Builtin.firstCells ei.size 0 (.slice ad n c)).run P w = .ok #[] w := by
      cases ad with
      | none => simp [Builtin.firstCells]
      | some q => exact run_firstCells_some w ei.size 0 q n c [] (by simp) (by simp)
    have hmin : (if n = 0 then n else 0) = 0 := by split; assumption; rfl
    refine ⟨_, ?_, .k (.int .i64 0)⟩
    simp [execOp, ho, resolve, invoke, builtin, hxx, hyy, Builtin.copy_, run_underlying ((X.get hT).sl hd), (X.get hE).run_size, Builtin.lenOf, goInt, Nat.min_def, hmin, hfc]
theorem Does.copyNN {T Tx E : Nat} {x y : Operand} (X : TOk P) {ti ei : TI} (ho : o.op = .call { callee := .builtin .copy, args := #[x, y], argTypes := #[T, Tx] }) (hx : evo env x = some .nil) (hy : evo env y = some .nil) (hT : aget X.tab T = some ti) (hd : ti.d = .sl E) (hE : aget X.tab E = some ei) : Does P o env (.k (.int .i64 ((0 : Nat) : Int))) [] :=
  .pure fun F g a w mem h1 _ => by
    have hrx := h1 x (by simp [ho, Op.operands, Call.operands]) _ hx
    have hry := h1 y (by simp [ho, Op.operands, Call.operands]) _ hy
    have hxx : a.eval x = .slice none 0 0 := by generalize a.eval x = v at hrx; cases hrx; rfl
    have hyy : a.eval y = .slice none 0 0 := by generalize a.eval y = v at hry; cases hry; rfl
    refine ⟨_, ?_, .k (.int .i64 0)⟩
    simp [execOp, ho, resolve, invoke, builtin, hxx, hyy, Builtin.copy_, run_underlying ((X.get hT).sl hd), (X.get hE).run_size, Builtin.lenOf, Builtin.firstCells, goInt]
end
section
variable {P : Program} {N : Nat} {ops : Array Oper} {chk : List (Nat × Tch) → Bool} {K : Env → Mem → Prop} {acc : List (Nat × Tch)} {env : Env} {mem : Mem} {i d j : Nat} {o : Oper} {rs : List (Nat × Oper)} {v : V}
theorem DR.cutz {T E e l h gen n sz : Nat} {x : Operand} {lo hi : Option Operand} {es : List V} (X : TOk P) {ti ei : TI} (ho : o.op = .slice T x lo hi none) (hg : gd ops env o = some true) (hds : o.dst = some d) (hx : evo env x = some (.w j gen sz 0 n)) (hm : aget mem j = some (.w E sz gen es)) (_hes : n ≤ es.length) (hT : aget X.tab T = some ti) (hdt : ti.d = .sl e) (hE : aget X.tab e = some ei) (hsz : ei.size = sz) (hlo : Bd env 0 lo l) (hhi : Bd env n hi h)
    (h1 : l ≤ h) (h2 : h ≤ n) {m : Nat} (hn : h - l = m) (hd : Nat.blt d N = true) (hK : DR P N ops chk K rs ((i, [(j, some (.w E sz gen es), none)]) :: acc) ((d, .w j gen sz l m) :: env) mem) : DR P N ops chk K ((i, o) :: rs) acc env mem :=
  DR.rr hg hds (Does.cutWz X ho hx hT hdt hE hsz hlo hhi h1 h2 hn) hm hd hK
theorem DR.cuts {T E e l h gen off n sz : Nat} {x : Operand} {lo hi : Option Operand} {es : List V} (X : TOk P) {ti ei : TI} (ho : o.op = .slice T x lo hi none) (hg : gd ops env o = some true) (hds : o.dst = some d) (hx : evo env x = some (.w j gen sz off n)) (hm : aget mem j = some (.w E sz gen es)) (_hes : off + n ≤ es.length) (hT : aget X.tab T = some ti) (hdt : ti.d = .sl e) (hE : aget X.tab e = some ei) (hsz : ei.size = sz) (hlo : Bd env 0 lo l) (hhi : Bd env n hi h)
    (h1 : l ≤ h) (h2 : h ≤ n) {m : Nat} (hn : h - l = m) (hd : Nat.blt d N = true) (hK : DR P N ops chk K rs ((i, [(j, some (.w E sz gen es), none)]) :: acc) ((d, .w j gen sz (off + l) m) :: env) mem) : DR P N ops chk K ((i, o) :: rs) acc env mem := by
  subst hn
  exact DR.rr hg hds (Does.cutWs X ho hx hT hdt hE hsz hlo hhi h1 h2) hm hd hK
theorem DR.ldW {T E gen sz off : Nat} {x : Operand} {es cs : List V} (X : TOk P) {ti : TI} (ho : o.op = .load T x) (hg : gd ops env o = some true) (hds : o.dst = some d) (hx : evo env x = some (.pw j gen off)) (hm : aget mem j = some (.w E sz gen es)) (hT : aget X.tab T = some ti) (hp : Nat.blt 0 ti.size = true) (hfl : es.flatMap V.cells = cs) (hv : ti.part cs off = some v) (hd : Nat.blt d N = true)
    (hK : DR P N ops chk K rs ((i, [(j, some (.w E sz gen es), none)]) :: acc) ((d, v) :: env) mem) : DR P N ops chk K ((i, o) :: rs) acc env mem := by
  subst hfl
  exact DR.rr hg hds (Does.loadW X ho hx hT hv hp) hm hd hK
theorem DR.stW {T E gen sz off k : Nat} {x y : Operand} {es es2 : List V} {u u' : V} (X : TOk P) {ti : TI} (ho : o.op = .store T x y) (hg : gd ops env o = some true) (hds : o.dst = none) (hx : evo env x = some (.pw j gen off)) (hy : evo env y = some u) (hm : aget mem j = some (.w E sz gen es)) (hT : aget X.tab T = some ti) (hb : u.bare = some u') (hu : u'.ok = true) (hs : u'.cells.length = sz) (hts : ti.size = sz) (hoff : off = k * sz) (hk : k < es.length) (hz : es.set k u' = es2)
    (hK : DR P N ops chk K rs ((i, [(j, some (.w E sz gen es), some (.w E sz gen es2))]) :: acc) env ((j, .w E sz gen es2) :: mem)) : DR P N ops chk K ((i, o) :: rs) acc env mem := by
  subst hz
  exact DR.ss hg hds (Does.storeW X ho hx hy hT hb hu hs hts hoff hk) hm hK
theorem DR.mkW {T Tx E n k sz gen : Nat} {kd kx : IntKind} {x y : Operand} {z : Int} {es es2 : List V} {zv : V} (X : TOk P) {ti xi ei : TI} (ho : o.op = .call { callee := .builtin .append, args := #[x, y], argTypes := #[T, Tx] }) (hg : gd ops env o = some true) (hds : o.dst = some d) (hx : evo env x = some (.w j gen sz 0 n)) (hy : evo env y = some (.k (.int kd z))) (hm : aget mem j = some (.w E sz gen es)) (hz : z = ((k : Nat) : Int)) (hT : aget X.tab T = some ti) (hdt : ti.d = .sl E) (hX : aget X.tab Tx = some xi) (hdx : xi.d = .int kx) (hE : aget X.tab E = some ei) (hsz : ei.size = sz)
    (hn : es.length = n) (hk : 0 < k) (hmax : n + k ≤ 140737488355328) (hb : (n + k) * ei.bytes ≤ 140737488355328) (hzv : zv.cells = ei.zero.map Z.v) {n2 : Nat} (hn2 : n + k = n2) (he : es ++ List.replicate k zv = es2) (hd : Nat.blt d N = true)
    (hK : DR P N ops chk K rs ((i, [(j, some (.w E sz gen es), some (.w E sz (gen + 1) es2))]) :: acc) ((d, .w j (gen + 1) sz 0 n2) :: env) ((j, .w E sz (gen + 1) es2) :: mem)) : DR P N ops chk K ((i, o) :: rs) acc env mem := by
  subst he; subst hn2
  exact DR.ww hg hds (Does.appMakeW X ho hx hy hz hT hdt hX hdx hE hsz hn hk hmax hb hzv) hm hd hK
/-- copy into a buffer from a slice that stays. -/
theorem DR.cpS {T Tx E Ex gen off n m sz : Nat} {x y : Operand} {t : Option Nat} {es ys es2 : List V} (X : TOk P) {ti xi ei : TI} (ho : o.op = .call { callee := .builtin .copy, args := #[x, y], argTypes := #[T, Tx] }) (hg : gd ops env o = some true) (hds : o.dst = some d) (hx : evo env x = some (.w j gen sz off n)) (hy : evo env y = some (.s t ys)) (hm : aget mem j = some (.w E sz gen es)) (hT : aget X.tab T = some ti) (hdt : ti.d = .sl E) (hE : aget X.tab E = some ei) (hsz : ei.size = sz) (hX : aget X.tab Tx = some xi) (hdx : xi.d = .sl Ex) (hys : ∀ e ∈ ys, e.cells.length = sz) (hl : ys.length = m) (hmn : m ≤ n) (hle : off + m ≤ es.length) (hz : splice es off ys = es2) (hd : Nat.blt d N = true)
    (hK : DR P N ops chk K rs ((i, [(j, some (.w E sz gen es), some (.w E sz gen es2))]) :: acc) ((d, .k (.int .i64 (m : Int))) :: env) ((j, .w E sz gen es2) :: mem)) : DR P N ops chk K ((i, o) :: rs) acc env mem := by
  subst hsz; subst hz
  exact DR.step hg (Does.copyW X ho hx (SrcOk.sl X hy hX hdx hys) rfl hT hdt hE hys hl hmn hle) (tpre_one hm) (by rw [hds]; exact hd) (by rw [hds]; exact hK)
theorem DR.cpN {T Tx E Ex gen off n sz : Nat} {x y : Operand} {es : List V} (X : TOk P) {ti xi ei : TI} (ho : o.op = .call { callee := .builtin .copy, args := #[x, y], argTypes := #[T, Tx] }) (hg : gd ops env o = some true) (hds : o.dst = some d) (hx : evo env x = some (.w j gen sz off n)) (hy : evo env y = some .nil) (hm : aget mem j = some (.w E sz gen es)) (hT : aget X.tab T = some ti) (hdt : ti.d = .sl E) (hE : aget X.tab E = some ei) (hsz : ei.size = sz) (hX : aget X.tab Tx = some xi) (hdx : xi.d = .sl Ex) (hle : off ≤ es.length) (hd : Nat.blt d N = true)
    (hK : DR P N ops chk K rs ((i, [(j, some (.w E sz gen es), some (.w E sz gen es))]) :: acc) ((d, .k (.int .i64 ((0 : Nat) : Int))) :: env) ((j, .w E sz gen es) :: mem)) : DR P N ops chk K ((i, o) :: rs) acc env mem := by
  subst hsz
  have h := Does.copyW (E := E) (i := j) (es := es) X ho hx (SrcOk.nil X hy hX hdx) rfl hT hdt hE (by simp) (m := 0) rfl (Nat.zero_le _) hle
  rw [splice_nil] at h
  exact DR.step hg h (tpre_one hm) (by rw [hds]; exact hd) (by rw [hds]; exact hK)
theorem DR.cpB {α : Type} {f : α → V} {T Tx E Ex gen off n m sz jb ob cap : Nat} {x y : Operand} {es es2 cs : List V} {l : List α} (X : TOk P) {ti xi ei : TI} (ho : o.op = .call { callee := .builtin .copy, args := #[x, y], argTypes := #[T, Tx] }) (hg : gd ops env o = some true) (hds : o.dst = some d) (hx : evo env x = some (.w j gen sz off n)) (hy : evo env y = some (.sb jb ob m cap)) (hm : aget mem j = some (.w E sz gen es)) (hb2 : aget mem jb = some (.b cs)) (hT : aget X.tab T = some ti) (hdt : ti.d = .sl E) (hE : aget X.tab E = some ei) (hsz : ei.size = sz) (hs1 : Nat.beq sz 1 = true) (hX : aget X.tab Tx = some xi) (hdx : xi.d = .sl Ex)
    (hcs : (cs.drop ob).take m = l.map f) (hf : ∀ a, (f a).cells = [f a]) (hr : ∀ a, (f a).bare = some (f a)) (hlm : l.length = m) (hbl : ob + m ≤ cs.length) (hmn : m ≤ n) (hle : off + m ≤ es.length) (hz : splice es off (l.map f) = es2) (hd : Nat.blt d N = true)
    (hK : DR P N ops chk K rs ((i, [(j, some (.w E sz gen es), some (.w E sz gen es2)), (jb, some (.b cs), none)]) :: acc) ((d, .k (.int .i64 (m : Int))) :: env) ((j, .w E sz gen es2) :: mem)) : DR P N ops chk K ((i, o) :: rs) acc env mem := by
  have e1 := Nat.eq_of_beq_eq_true hs1
  subst hsz; subst hz
  have hlen : (l.map f).length = m := by rw [List.length_map]; exact hlm
  refine DR.step hg (Does.copyW X ho hx (SrcOk.box X hy hX hdx e1 hcs hbl (cells1_map hf l) fun u hu => by obtain ⟨a, _, rfl⟩ := List.mem_map.1 hu; exact hr a) rfl hT hdt hE (fun e he => ?_) hlen hmn hle) (tpre_two hm hb2) (by rw [hds]; exact hd) (by rw [hds]; exact hK)
  obtain ⟨a, _, rfl⟩ := List.mem_map.1 he
  rw [hf, e1]; rfl
/-- .. from a slice of a buffer (it may be the same one). -/
theorem DR.cpW {T Tx E E2 Ex gen gen2 off n m sz jb ob : Nat} {x y : Operand} {es es2 fs ys : List V} (X : TOk P) {ti xi ei : TI} (ho : o.op = .call { callee := .builtin .copy, args := #[x, y], argTypes := #[T, Tx] }) (hg : gd ops env o = some true) (hds : o.dst = some d) (hx : evo env x = some (.w j gen sz off n)) (hy : evo env y = some (.w jb gen2 sz ob m)) (hm : aget mem j = some (.w E sz gen es)) (hb2 : aget mem jb = some (.w E2 sz gen2 fs)) (hT : aget X.tab T = some ti) (hdt : ti.d = .sl E) (hE : aget X.tab E = some ei) (hsz : ei.size = sz) (hX : aget X.tab Tx = some xi) (hdx : xi.d = .sl Ex)
    (hcs : (fs.drop ob).take m = ys) (hys : ∀ e ∈ ys, e.cells.length = sz) (hbl : ob + m ≤ fs.length) (hmn : m ≤ n) (hle : off + m ≤ es.length) (hz : splice es off ys = es2) (hd : Nat.blt d N = true)
    (hK : DR P N ops chk K rs ((i, [(j, some (.w E sz gen es), some (.w E sz gen es2)), (jb, some (.w E2 sz gen2 fs), none)]) :: acc) ((d, .k (.int .i64 (m : Int))) :: env) ((j, .w E sz gen es2) :: mem)) : DR P N ops chk K ((i, o) :: rs) acc env mem := by
  subst hsz; subst hz
  have hlen : ys.length = m := by rw [← hcs]; simp; omega
  exact DR.step hg (Does.copyW X ho hx (SrcOk.buf X hy hX hdx hcs hbl) rfl hT hdt hE hys hlen hmn hle) (tpre_two hm hb2) (by rw [hds]; exact hd) (by rw [hds]; exact hK)
/-- A call that hands back a fresh row. -/
theorem DR.crk {fx E sz n : Nat} {xs : List Operand} {ts : Array Nat} {us args es : List V} (ho : o.op = .call { callee := .value (.func fx), args := xs.toArray, argTypes := ts }) (hg : gd ops env o = some true) (hds : o.dst = some d) (hx : evs env xs = some us) (hc : ∀ k, LM P fx args [] fun o m => o = .ret (.s (some k) es) ∧ m = [(k, .r E sz n)]) (hu : Fits us args) (hr : V.refs.go [] args = true) (ht : aget mem d = none) (hd : Nat.blt d N = true)
    (hK : DR P N ops chk K rs ((i, callT [] [(d, .r E sz n)]) :: acc) ((d, .s (some d) es) :: env) ((d, .r E sz n) :: mem)) : DR P N ops chk K ((i, o) :: rs) acc env mem :=
  DR.cm hg hds (Does.callM (hc d) ho hx hu (by rw [hr]; rfl)) ⟨ht, trivial⟩ hd hK
/-- A call that only looks at a slice of a buffer. -/
theorem DR.cvw {fx E gen sz off n : Nat} {xs : List Operand} {ts : Array Nat} {es es' : List V} (ho : o.op = .call { callee := .value (.func fx), args := xs.toArray, argTypes := ts }) (hg : gd ops env o = some true) (hds : o.dst = some d) (hx : evs env xs = some [.w j gen sz off n]) (hm : aget mem j = some (.w E sz gen es)) (h0 : 0 < n) (hl : off + n ≤ es.length) (hcs : (es.drop off).take n = es') (hc : LM P fx [.s none es'] [] fun o m => o = .ret v ∧ m = []) (hp : v.pure = true) (hd : Nat.blt d N = true)
    (hK : DR P N ops chk K rs ((i, [(j, some (.w E sz gen es), none)]) :: acc) ((d, v) :: env) mem) : DR P N ops chk K ((i, o) :: rs) acc env mem :=
  DR.rr hg hds (Does.callV [(j, .w E sz gen es)] hc ho hx (.cons (.w (E := E) (es := es) (aget_self j _ _) hl h0 hcs) .nil) hp) hm hd hK
end
end Lf
end Go.Proofs.YtclkpjefklahfaaDoor

/- From plain contracts to lifted ones, and from a law's lifted contract to its claim. -/
namespace Go.Proofs.YtclkpjefklahfaaDoor
open Go.RowKit Rg
namespace Lf
/-- v reads as x and as nothing else. -/
def Exact (v : V) (x : Value) : Prop := (∀ w g, Rep w g v x) ∧ ∀ w g y, Rep w g v y → y = x
theorem exact_k (x : Value) : Exact (.k x) x := ⟨fun _ _ => .k x, fun _ _ _ h => rep_k h⟩
theorem exact_pair {a b : V} {x y : Value} (ha : Exact a x) (hb : Exact b y) : Exact (.t [a, b]) (.tuple #[x, y]) := by
  refine ⟨fun w g => .t rfl (fun j u z hj hz => ?_), fun w g z h => ?_⟩
  · match j with
    | 0 => simp at hj hz; subst hj; subst hz; exact ha.1 w g
    | 1 => simp at hj hz; subst hj; subst hz; exact hb.1 w g
    | j + 2 => simp at hj
  · cases h with
    | @t _ _ vs hl hc =>
      have hs : vs.size = 2 := by simpa using hl.symm
      congr 1
      apply Array.ext
      · simpa using hs
      · intro i h1 h2
        have hv : vs[i]? = some vs[i] := Array.getElem?_eq_getElem h1
        match i with
        | 0 => exact ha.2 w g _ (hc 0 _ _ rfl hv)
        | 1 => exact hb.2 w g _ (hc 1 _ _ rfl hv)
        | i + 2 => omega
theorem args_exact {args : List V} {xs : List Value} (h : args.length = xs.length) (he : ∀ (j : Nat) u x, args[j]? = some u → xs[j]? = some x → Exact u x) {w : World} {g : Gh} {vals : Array Value} (hl : args.length = vals.size) (hr : ∀ (j : Nat) u x, args[j]? = some u → vals[j]? = some x → Rep w g u x) : vals = xs.toArray := by
  apply Array.ext
  · simp; omega
  · intro i h1 h2
    have hv : vals[i]? = some vals[i] := Array.getElem?_eq_getElem h1
    have ha : args[i]? = some args[i] := List.getElem?_eq_getElem (by omega)
    have hx : xs[i]? = some xs[i] := List.getElem?_eq_getElem (by simpa using h2)
    have := (he i _ _ ha hx).2 w g _ (hr i _ _ ha hv)
    rw [this]; rfl
/-- From a contract on plain values. -/
theorem LF.of_calls {P : Program} {f : Nat} {args : List V} {xs : List Value} {out : V} {y : Value} (hok : callOk P f = true) (h : args.length = xs.length) (he : ∀ (j : Nat) u x, args[j]? = some u → xs[j]? = some x → Exact u x) (ho : Exact out y)
    (hc : ∀ w, Calls P f xs.toArray w fun e w' => e = .returned y ∧ Ext w w') : LF P f args (fun _ => out) none := by
  refine ⟨hok, fun g w vals hm hl hr => ?_⟩
  rw [args_exact h he hl hr]
  refine (hc w).mono fun e w' ⟨he, hx⟩ => ⟨.ret out, [], g, ⟨rfl, rfl⟩, ?_⟩
  obtain ⟨k1, k2, k3⟩ := hm.ext (g' := g) ⟨rfl, rfl, rfl, Nat.le_refl _, fun _ _ _ => rfl, fun _ _ _ _ => ⟨rfl, rfl⟩, fun _ _ _ _ h => h, fun _ _ _ h => h, fun _ _ _ _ => rfl⟩ hx (fun _ _ _ => Iff.rfl) rfl rfl (fun b o hb => hm.fut b o (Nat.le_trans hx.size hb))
  exact ⟨k1, k2, k3, y, he, ho.1 _ _⟩
theorem ex1 {a : V} {x : Value} (ha : Exact a x) : ∀ (j : Nat) u y, [a][j]? = some u → [x][j]? = some y → Exact u y := fun j u y hj hy => by
  match j with
  | 0 => simp at hj hy; subst hj; subst hy; exact ha
  | j + 1 => simp at hj
theorem ex2 {a b : V} {x y : Value} (ha : Exact a x) (hb : Exact b y) : ∀ (j : Nat) u z, [a, b][j]? = some u → [x, y][j]? = some z → Exact u z := fun j u z hj hz => by
  match j with
  | 0 => simp at hj hz; subst hj; subst hz; exact ha
  | 1 => simp at hj hz; subst hj; subst hz; exact hb
  | j + 2 => simp at hj
theorem ex3 {a b c : V} {x y z : Value} (ha : Exact a x) (hb : Exact b y) (hc : Exact c z) : ∀ (j : Nat) u t, [a, b, c][j]? = some u → [x, y, z][j]? = some t → Exact u t := fun j u t hj hz => by
  match j with
  | 0 => simp at hj hz; subst hj; subst hz; exact ha
  | 1 => simp at hj hz; subst hj; subst hz; exact hb
  | 2 => simp at hj hz; subst hj; subst hz; exact hc
  | j + 3 => simp at hj
/-- From a law's lifted contract to its walk. -/
def allS : Gh := ⟨fun _ _ => True, fun _ => none, fun _ => none⟩
theorem LF.truth {P : Program} {f : Nat} {args : List V} (h : LF P f args (fun _ => .k (.bool true)) none) (W : World) (vals : Array Value) (hl : args.length = vals.size) (hr : ∀ (j : Nat) u x, args[j]? = some u → vals[j]? = some x → Rep W allS u x) :
    Calls P f vals W fun e W' => e = .returned (.bool true) ∧ Ext W W' := by
  refine (h.go allS W vals ⟨fun _ _ h => (by cases h), fun _ _ _ _ h => (by cases h), fun _ _ _ _ _ _ _ h => (by cases h), fun _ _ => rfl, fun _ _ => rfl, fun _ _ _ => trivial, ⟨fun _ _ h => h, fun _ a l c h => ⟨a, l, c, h, Nat.le_refl _, fun _ => ⟨rfl, rfl⟩⟩⟩⟩ hl hr).mono ?_
  rintro e w' ⟨o, mo, g', ⟨rfl, rfl⟩, _, _, hk, x, rfl, hrep⟩
  rw [rep_k hrep]
  exact ⟨rfl, hk.os, hk.tape, hk.output, hk.size, fun b hb => hk.blk b hb fun o ⟨i, m, h, _⟩ => by cases h⟩
/-- Arguments and what they read. -/
def RepAll (W : World) (g : Gh) : List V → List Value → Prop
  | [], [] => True
  | u :: us, x :: xs => Rep W g u x ∧ RepAll W g us xs
  | _, _ => False
theorem RepAll.spec {W : World} {g : Gh} : ∀ {us : List V} {xs : List Value}, RepAll W g us xs → us.length = xs.length ∧ ∀ (j : Nat) u x, us[j]? = some u → xs[j]? = some x → Rep W g u x
  | [], [], _ => ⟨rfl, fun j u x h => by simp at h⟩
  | u :: us, x :: xs, h => by
    obtain ⟨h1, h2⟩ := RepAll.spec h.2
    refine ⟨by simp [h1], fun j a b ha hb => ?_⟩
    cases j with
    | zero => simp at ha hb; subst ha; subst hb; exact h.1
    | succ j => simp at ha hb; exact h2 j a b ha hb
  | [], _ :: _, h => h.elim
  | _ :: _, [], h => h.elim
theorem LF.holds {P : Program} {f : Nat} {args : List V} (h : LF P f args (fun _ => .k (.bool true)) none) (W : World) (xs : List Value) (hr : RepAll W allS args xs) : Calls P f xs.toArray W fun e W' => e = .returned (.bool true) ∧ Ext W W' :=
  LF.truth h W xs.toArray (by simpa using hr.spec.1) fun j u x hu hx => hr.spec.2 j u x hu (by simpa using hx)
end Lf
end Go.Proofs.YtclkpjefklahfaaDoor

/- The table of the types of the seat's program, held against the program by the kernel. -/
namespace Go.Proofs.YtclkpjefklahfaaDoor
namespace Lf
set_option maxRecDepth 20000 in
def tab : Tab := [
  (1, ⟨.fn, 1, 8, [.fn]⟩),
  (2, ⟨.int .i64, 1, 8, [.int .i64]⟩),
  (3, ⟨.int .i64, 1, 8, [.int .i64]⟩),
  (4, ⟨.bool, 1, 1, [.bool]⟩),
  (5, ⟨.int .u8, 1, 1, [.int .u8]⟩),
  (6, ⟨.int .u8, 1, 1, [.int .u8]⟩),
  (7, ⟨.st [(0, 2), (1, 3), (2, 4), (3, 6)], 4, 24, [.int .i64, .int .i64, .bool, .int .u8]⟩),
  (8, ⟨.st [(0, 2), (1, 3), (2, 4), (3, 6)], 4, 24, [.int .i64, .int .i64, .bool, .int .u8]⟩),
  (9, ⟨.str, 1, 16, [.str]⟩),
  (10, ⟨.str, 1, 16, [.str]⟩),
  (11, ⟨.str, 1, 16, [.str]⟩),
  (12, ⟨.int .u64, 1, 8, [.int .u64]⟩),
  (13, ⟨.st [(0, 9), (1, 12)], 2, 24, [.str, .int .u64]⟩),
  (14, ⟨.st [(0, 9), (1, 12)], 2, 24, [.str, .int .u64]⟩),
  (15, ⟨.ptr 58, 1, 8, [.ptr]⟩),
  (16, ⟨.ptr 61, 1, 8, [.ptr]⟩),
  (17, ⟨.ptr 70, 1, 8, [.ptr]⟩),
  (18, ⟨.st [(0, 17)], 1, 8, [.ptr]⟩),
  (19, ⟨.st [(0, 17)], 1, 8, [.ptr]⟩),
  (20, ⟨.ifc, 1, 16, [.ifc]⟩),
  (21, ⟨.int .i32, 1, 4, [.int .i32]⟩),
  (22, ⟨.fn, 1, 8, [.fn]⟩),
  (23, ⟨.int .u64, 1, 8, [.int .u64]⟩),
  (24, ⟨.fn, 1, 8, [.fn]⟩),
  (25, ⟨.fn, 1, 8, [.fn]⟩),
  (26, ⟨.fn, 1, 8, [.fn]⟩),
  (27, ⟨.fn, 1, 8, [.fn]⟩),
  (28, ⟨.fn, 1, 8, [.fn]⟩),
  (29, ⟨.fn, 1, 8, [.fn]⟩),
  (30, ⟨.fn, 1, 8, [.fn]⟩),
  (31, ⟨.sl 5, 1, 24, [.sl]⟩),
  (32, ⟨.fn, 1, 8, [.fn]⟩),
  (33, ⟨.fn, 1, 8, [.fn]⟩),
  (34, ⟨.fn, 1, 8, [.fn]⟩),
  (35, ⟨.fn, 1, 8, [.fn]⟩),
  (36, ⟨.fn, 1, 8, [.fn]⟩),
  (37, ⟨.sl 31, 1, 24, [.sl]⟩),
  (38, ⟨.fn, 1, 8, [.fn]⟩),
  (39, ⟨.fn, 1, 8, [.fn]⟩),
  (40, ⟨.arr 24 5, 24, 24, [.int .u8, .int .u8, .int .u8, .int .u8, .int .u8, .int .u8, .int .u8, .int .u8, .int .u8, .int .u8, .int .u8, .int .u8, .int .u8, .int .u8, .int .u8, .int .u8, .int .u8, .int .u8, .int .u8, .int .u8, .int .u8, .int .u8, .int .u8, .int .u8]⟩),
  (41, ⟨.fn, 1, 8, [.fn]⟩),
  (42, ⟨.fn, 1, 8, [.fn]⟩),
  (44, ⟨.fn, 1, 8, [.fn]⟩),
  (45, ⟨.fn, 1, 8, [.fn]⟩),
  (46, ⟨.fn, 1, 8, [.fn]⟩),
  (47, ⟨.arr 20 23, 20, 160, [.int .u64, .int .u64, .int .u64, .int .u64, .int .u64, .int .u64, .int .u64, .int .u64, .int .u64, .int .u64, .int .u64, .int .u64, .int .u64, .int .u64, .int .u64, .int .u64, .int .u64, .int .u64, .int .u64, .int .u64]⟩),
  (48, ⟨.int .u32, 1, 4, [.int .u32]⟩),
  (49, ⟨.arr 65 5, 65, 65, [.int .u8, .int .u8, .int .u8, .int .u8, .int .u8, .int .u8, .int .u8, .int .u8, .int .u8, .int .u8, .int .u8, .int .u8, .int .u8, .int .u8, .int .u8, .int .u8, .int .u8, .int .u8, .int .u8, .int .u8, .int .u8, .int .u8, .int .u8, .int .u8, .int .u8, .int .u8, .int .u8, .int .u8, .int .u8, .int .u8, .int .u8, .int .u8, .int .u8, .int .u8, .int .u8, .int .u8, .int .u8, .int .u8, .int .u8, .int .u8, .int .u8, .int .u8, .int .u8, .int .u8, .int .u8, .int .u8, .int .u8, .int .u8, .int .u8, .int .u8, .int .u8, .int .u8, .int .u8, .int .u8, .int .u8, .int .u8, .int .u8, .int .u8, .int .u8, .int .u8, .int .u8, .int .u8, .int .u8, .int .u8, .int .u8]⟩),
  (50, ⟨.fn, 1, 8, [.fn]⟩),
  (51, ⟨.int .u64, 1, 8, [.int .u64]⟩),
  (52, ⟨.fn, 1, 8, [.fn]⟩),
  (53, ⟨.fn, 1, 8, [.fn]⟩),
  (54, ⟨.arr 32 5, 32, 32, [.int .u8, .int .u8, .int .u8, .int .u8, .int .u8, .int .u8, .int .u8, .int .u8, .int .u8, .int .u8, .int .u8, .int .u8, .int .u8, .int .u8, .int .u8, .int .u8, .int .u8, .int .u8, .int .u8, .int .u8, .int .u8, .int .u8, .int .u8, .int .u8, .int .u8, .int .u8, .int .u8, .int .u8, .int .u8, .int .u8, .int .u8, .int .u8]⟩),
  (55, ⟨.arr 64 5, 64, 64, [.int .u8, .int .u8, .int .u8, .int .u8, .int .u8, .int .u8, .int .u8, .int .u8, .int .u8, .int .u8, .int .u8, .int .u8, .int .u8, .int .u8, .int .u8, .int .u8, .int .u8, .int .u8, .int .u8, .int .u8, .int .u8, .int .u8, .int .u8, .int .u8, .int .u8, .int .u8, .int .u8, .int .u8, .int .u8, .int .u8, .int .u8, .int .u8, .int .u8, .int .u8, .int .u8, .int .u8, .int .u8, .int .u8, .int .u8, .int .u8, .int .u8, .int .u8, .int .u8, .int .u8, .int .u8, .int .u8, .int .u8, .int .u8, .int .u8, .int .u8, .int .u8, .int .u8, .int .u8, .int .u8, .int .u8, .int .u8, .int .u8, .int .u8, .int .u8, .int .u8, .int .u8, .int .u8, .int .u8, .int .u8]⟩),
  (56, ⟨.fn, 1, 8, [.fn]⟩),
  (57, ⟨.st [(0, 17), (1, 17), (2, 17), (3, 9)], 4, 40, [.ptr, .ptr, .ptr, .str]⟩),
  (58, ⟨.st [(0, 17), (1, 17), (2, 17), (3, 9)], 4, 40, [.ptr, .ptr, .ptr, .str]⟩),
  (59, ⟨.arr 0 16, 0, 0, []⟩),
  (60, ⟨.st [(0, 59)], 0, 0, []⟩),
  (61, ⟨.st [(0, 59)], 0, 0, []⟩),
  (62, ⟨.fn, 1, 8, [.fn]⟩),
  (63, ⟨.int .u8, 1, 1, [.int .u8]⟩),
  (64, ⟨.int .u8, 1, 1, [.int .u8]⟩),
  (65, ⟨.fn, 1, 8, [.fn]⟩),
  (66, ⟨.ptr 5, 1, 8, [.ptr]⟩),
  (67, ⟨.int .i32, 1, 4, [.int .i32]⟩),
  (68, ⟨.int .i32, 1, 4, [.int .i32]⟩),
  (69, ⟨.st [(0, 12), (1, 12), (2, 48), (3, 63), (4, 5), (5, 5), (6, 64), (7, 65), (8, 66), (9, 67), (10, 68)], 11, 48, [.int .u64, .int .u64, .int .u32, .int .u8, .int .u8, .int .u8, .int .u8, .fn, .ptr, .int .i32, .int .i32]⟩),
  (70, ⟨.st [(0, 12), (1, 12), (2, 48), (3, 63), (4, 5), (5, 5), (6, 64), (7, 65), (8, 66), (9, 67), (10, 68)], 11, 48, [.int .u64, .int .u64, .int .u32, .int .u8, .int .u8, .int .u8, .int .u8, .fn, .ptr, .int .i32, .int .i32]⟩)]
theorem tab_ok : (tab.all fun x => x.2.chk Tryd.prog x.1) = true := by kernel_rfl
def tt : TOk Tryd.prog := ⟨tab, tab_ok⟩
theorem mixed : Tryd.prog.follows .mixedOrders = true := by kernel_rfl
end Lf
end Go.Proofs.YtclkpjefklahfaaDoor
